/-
  NARROWER THAN 'FOR EVERY INPUT', by the rows' own cells (each row's printed sentence says how): RuleRewrites: laid · RuleTurns: laid · RuleValidates: laid · RuleMatches: laid · RuleMeets: laid · RuleSides: laid · RuleReturns: laid.
  DERIVED. THE GIVEN ROWS OF THIS SEAT. 7 by the template 'for every input the law returns true; each argument reads behind the call as it read before'; 0 by the template 'total and deterministic' (their statements: YtmebpgggfppmhaaDoorTotals.lean).
  GIVEN WITH THE SEED: the statements are not yours to turn. If you find one false, say at which input.
  Laid BY PROGRAM, IN A SANDBOX (cutbox-rows.mjs): the forced cells as the released guide's own fill.sh prints them over the translation f0644d2e8993cdb1… (all of the seat's roots in one cut). By AI agents, Wed Nov 11 2026. No macro, syntax, notation, axiom, sorry.
-/
import Derived.Test.YtmebpgggfppmhaaDoorChecked
import GoSem.Claim
import GoSem.ClaimJoined
import GoSem.ClaimMapViews
import Derived.JoinedTies
import Derived.KernelRfl
namespace Go.Proofs.YtmebpgggfppmhaaDoor
/- THE CELL 'sum', in the pinned program and in every row, IS THE sha256 OF THE DUMP (.gsa) THAT YtmebpgggfppmhaaDoorProg.lean LOADS. Nothing in Lean hashes anything: it is a label: what it is worth is what the hold of that sum in a sandbox is worth. -/
noncomputable def Tryd.pinned : Pinned := { name := "ytmebpgggfppmhaadoor", sum := "f0644d2e8993cdb152a8c604e0129eb392dce50cb59d0383ae85c3dee41bce61", checked := Tryd.checked }
namespace Rows
def none {H : Type} : Left H := { results := [], args := [] }

/- WHAT THE LISTED PACKAGE-LEVEL VARIABLES READ AS WHEN THE CALL BEGINS. Each datum BY PROGRAM (the guide's laid-datum.mjs) off the statement by which the dump's own 'gosem.cut.vars' lays the variable. In a bare row this is a premise. The card (YtmebpgggfppmhaaDoorCards.lean) ties it to the program's text. -/
def laid_math_bits_deBruijn32tab {H : Type} : DataW H := .agg [.lit (.int .u8 0), .lit (.int .u8 1), .lit (.int .u8 28), .lit (.int .u8 2), .lit (.int .u8 29), .lit (.int .u8 14), .lit (.int .u8 24), .lit (.int .u8 3), .lit (.int .u8 30), .lit (.int .u8 22), .lit (.int .u8 20), .lit (.int .u8 15), .lit (.int .u8 25), .lit (.int .u8 17), .lit (.int .u8 4), .lit (.int .u8 8), .lit (.int .u8 31), .lit (.int .u8 27), .lit (.int .u8 13), .lit (.int .u8 23), .lit (.int .u8 21), .lit (.int .u8 19), .lit (.int .u8 16), .lit (.int .u8 7), .lit (.int .u8 26), .lit (.int .u8 12), .lit (.int .u8 18), .lit (.int .u8 6), .lit (.int .u8 11), .lit (.int .u8 5), .lit (.int .u8 10), .lit (.int .u8 9)]

/-- 'backstaylaw11.RuleRewrites': WHATEVER THE INPUT: true; the input reads as it did. -/
def ruleRewritesSpec : ChangeSpec := { name := "ruleRewrites", fn := fun _ => fun
  | [d1, d2] => { results := [.lit (.bool true)], args := [d1, d2] }
  | _ => none }
def ruleRewritesRow : OpenClaim := { program := "ytmebpgggfppmhaadoor", sum := "f0644d2e8993cdb152a8c604e0129eb392dce50cb59d0383ae85c3dee41bce61", func := "backstay/backstaylaw11.RuleRewrites", spec := "ruleRewrites", unfollowed := true, recurses := true, named := ["math/bits.deBruijn32tab"], plainKeys := false, apart := false, laid := [("math/bits.deBruijn32tab", laid_math_bits_deBruijn32tab)] }
def RuleRewritesSaid : Prop := ruleRewritesRow.holds Tryd.pinned (OpenSpec.ofChange ruleRewritesSpec)

/-- ITS FALSE NEIGHBOUR: 'it returns false'. Refute it at one input. -/
def ruleRewritesWrong : ChangeSpec := { name := "ruleRewrites", fn := fun _ => fun
  | [d1, d2] => { results := [.lit (.bool false)], args := [d1, d2] }
  | _ => none }
def RuleRewritesWrongFalsely : Prop := ruleRewritesRow.holds Tryd.pinned (OpenSpec.ofChange ruleRewritesWrong)

/-- 'backstaylaw11.RuleTurns': WHATEVER THE INPUT: true; the input reads as it did. -/
def ruleTurnsSpec : ChangeSpec := { name := "ruleTurns", fn := fun _ => fun
  | [d] => { results := [.lit (.bool true)], args := [d] }
  | _ => none }
def ruleTurnsRow : OpenClaim := { program := "ytmebpgggfppmhaadoor", sum := "f0644d2e8993cdb152a8c604e0129eb392dce50cb59d0383ae85c3dee41bce61", func := "backstay/backstaylaw11.RuleTurns", spec := "ruleTurns", unfollowed := true, recurses := true, named := ["math/bits.deBruijn32tab"], plainKeys := false, apart := false, laid := [("math/bits.deBruijn32tab", laid_math_bits_deBruijn32tab)] }
def RuleTurnsSaid : Prop := ruleTurnsRow.holds Tryd.pinned (OpenSpec.ofChange ruleTurnsSpec)

/-- ITS FALSE NEIGHBOUR: 'it returns false'. Refute it at one input. -/
def ruleTurnsWrong : ChangeSpec := { name := "ruleTurns", fn := fun _ => fun
  | [d] => { results := [.lit (.bool false)], args := [d] }
  | _ => none }
def RuleTurnsWrongFalsely : Prop := ruleTurnsRow.holds Tryd.pinned (OpenSpec.ofChange ruleTurnsWrong)

/-- 'backstaylaw11.RuleValidates': WHATEVER THE INPUT: true; the input reads as it did. -/
def ruleValidatesSpec : ChangeSpec := { name := "ruleValidates", fn := fun _ => fun
  | [d1, d2] => { results := [.lit (.bool true)], args := [d1, d2] }
  | _ => none }
def ruleValidatesRow : OpenClaim := { program := "ytmebpgggfppmhaadoor", sum := "f0644d2e8993cdb152a8c604e0129eb392dce50cb59d0383ae85c3dee41bce61", func := "backstay/backstaylaw11.RuleValidates", spec := "ruleValidates", unfollowed := true, recurses := true, named := ["math/bits.deBruijn32tab"], plainKeys := false, apart := false, laid := [("math/bits.deBruijn32tab", laid_math_bits_deBruijn32tab)] }
def RuleValidatesSaid : Prop := ruleValidatesRow.holds Tryd.pinned (OpenSpec.ofChange ruleValidatesSpec)

/-- ITS FALSE NEIGHBOUR: 'it returns false'. Refute it at one input. -/
def ruleValidatesWrong : ChangeSpec := { name := "ruleValidates", fn := fun _ => fun
  | [d1, d2] => { results := [.lit (.bool false)], args := [d1, d2] }
  | _ => none }
def RuleValidatesWrongFalsely : Prop := ruleValidatesRow.holds Tryd.pinned (OpenSpec.ofChange ruleValidatesWrong)

/-- 'backstaylaw11.RuleMatches': WHATEVER THE INPUT: true; the input reads as it did. -/
def ruleMatchesSpec : ChangeSpec := { name := "ruleMatches", fn := fun _ => fun
  | [d1, d2] => { results := [.lit (.bool true)], args := [d1, d2] }
  | _ => none }
def ruleMatchesRow : OpenClaim := { program := "ytmebpgggfppmhaadoor", sum := "f0644d2e8993cdb152a8c604e0129eb392dce50cb59d0383ae85c3dee41bce61", func := "backstay/backstaylaw11.RuleMatches", spec := "ruleMatches", unfollowed := true, recurses := true, named := ["math/bits.deBruijn32tab"], plainKeys := false, apart := false, laid := [("math/bits.deBruijn32tab", laid_math_bits_deBruijn32tab)] }
def RuleMatchesSaid : Prop := ruleMatchesRow.holds Tryd.pinned (OpenSpec.ofChange ruleMatchesSpec)

/-- ITS FALSE NEIGHBOUR: 'it returns false'. Refute it at one input. -/
def ruleMatchesWrong : ChangeSpec := { name := "ruleMatches", fn := fun _ => fun
  | [d1, d2] => { results := [.lit (.bool false)], args := [d1, d2] }
  | _ => none }
def RuleMatchesWrongFalsely : Prop := ruleMatchesRow.holds Tryd.pinned (OpenSpec.ofChange ruleMatchesWrong)

/-- 'backstaylaw11.RuleMeets': WHATEVER THE INPUT: true; the input reads as it did. -/
def ruleMeetsSpec : ChangeSpec := { name := "ruleMeets", fn := fun _ => fun
  | [d1, d2, d3] => { results := [.lit (.bool true)], args := [d1, d2, d3] }
  | _ => none }
def ruleMeetsRow : OpenClaim := { program := "ytmebpgggfppmhaadoor", sum := "f0644d2e8993cdb152a8c604e0129eb392dce50cb59d0383ae85c3dee41bce61", func := "backstay/backstaylaw11.RuleMeets", spec := "ruleMeets", unfollowed := true, recurses := true, named := ["math/bits.deBruijn32tab"], plainKeys := false, apart := false, laid := [("math/bits.deBruijn32tab", laid_math_bits_deBruijn32tab)] }
def RuleMeetsSaid : Prop := ruleMeetsRow.holds Tryd.pinned (OpenSpec.ofChange ruleMeetsSpec)

/-- ITS FALSE NEIGHBOUR: 'it returns false'. Refute it at one input. -/
def ruleMeetsWrong : ChangeSpec := { name := "ruleMeets", fn := fun _ => fun
  | [d1, d2, d3] => { results := [.lit (.bool false)], args := [d1, d2, d3] }
  | _ => none }
def RuleMeetsWrongFalsely : Prop := ruleMeetsRow.holds Tryd.pinned (OpenSpec.ofChange ruleMeetsWrong)

/-- 'backstaylaw11.RuleSides': WHATEVER THE INPUT: true; the input reads as it did. -/
def ruleSidesSpec : ChangeSpec := { name := "ruleSides", fn := fun _ => fun
  | [d1, d2, d3] => { results := [.lit (.bool true)], args := [d1, d2, d3] }
  | _ => none }
def ruleSidesRow : OpenClaim := { program := "ytmebpgggfppmhaadoor", sum := "f0644d2e8993cdb152a8c604e0129eb392dce50cb59d0383ae85c3dee41bce61", func := "backstay/backstaylaw11.RuleSides", spec := "ruleSides", unfollowed := true, recurses := true, named := ["math/bits.deBruijn32tab"], plainKeys := false, apart := false, laid := [("math/bits.deBruijn32tab", laid_math_bits_deBruijn32tab)] }
def RuleSidesSaid : Prop := ruleSidesRow.holds Tryd.pinned (OpenSpec.ofChange ruleSidesSpec)

/-- ITS FALSE NEIGHBOUR: 'it returns false'. Refute it at one input. -/
def ruleSidesWrong : ChangeSpec := { name := "ruleSides", fn := fun _ => fun
  | [d1, d2, d3] => { results := [.lit (.bool false)], args := [d1, d2, d3] }
  | _ => none }
def RuleSidesWrongFalsely : Prop := ruleSidesRow.holds Tryd.pinned (OpenSpec.ofChange ruleSidesWrong)

/-- 'backstaylaw11.RuleReturns': WHATEVER THE INPUT: true; the input reads as it did. -/
def ruleReturnsSpec : ChangeSpec := { name := "ruleReturns", fn := fun _ => fun
  | [d1, d2, d3] => { results := [.lit (.bool true)], args := [d1, d2, d3] }
  | _ => none }
def ruleReturnsRow : OpenClaim := { program := "ytmebpgggfppmhaadoor", sum := "f0644d2e8993cdb152a8c604e0129eb392dce50cb59d0383ae85c3dee41bce61", func := "backstay/backstaylaw11.RuleReturns", spec := "ruleReturns", unfollowed := true, recurses := true, named := ["math/bits.deBruijn32tab"], plainKeys := false, apart := false, laid := [("math/bits.deBruijn32tab", laid_math_bits_deBruijn32tab)] }
def RuleReturnsSaid : Prop := ruleReturnsRow.holds Tryd.pinned (OpenSpec.ofChange ruleReturnsSpec)

/-- ITS FALSE NEIGHBOUR: 'it returns false'. Refute it at one input. -/
def ruleReturnsWrong : ChangeSpec := { name := "ruleReturns", fn := fun _ => fun
  | [d1, d2, d3] => { results := [.lit (.bool false)], args := [d1, d2, d3] }
  | _ => none }
def RuleReturnsWrongFalsely : Prop := ruleReturnsRow.holds Tryd.pinned (OpenSpec.ofChange ruleReturnsWrong)

/- THE SECOND FORM. 'bulk': how many values and letters a reading holds, each counted each time it is reached (what is shared counts as often as it is met; a slice's spare places count too). A statement '..UptoSaid' is the law's where the arguments, and the package variables that the reading takes, are together of bulk at most 1048576: NARROWER than '..Said'. Prove '..Said' where nothing that the law and all that it calls make is longer than what came in: it says more and counts as full. Else prove '..UptoSaid'. A law counts once. -/
mutual
def uptoBulk {H : Type} : DataW H → Nat
  | .lit (.string bytes) => bytes.length + 1
  | .lit _ => 1
  | .nil => 1
  | .ptr d => uptoBulk d + 1
  | .slice elems spare => uptoBulkAll elems + uptoBulkAll spare + 1
  | .agg parts => uptoBulkAll parts + 1
  | .iface _ d => uptoBulk d + 1
  | .map entries => uptoBulkEntries entries + 1
  | .held _ => 1
def uptoBulkAll {H : Type} : List (DataW H) → Nat
  | [] => 0
  | d :: r => uptoBulk d + uptoBulkAll r
def uptoBulkEntries {H : Type} : List (Lit × DataW H) → Nat
  | [] => 0
  | x :: r => uptoBulkEntry x + uptoBulkEntries r
def uptoBulkEntry {H : Type} : Lit × DataW H → Nat
  | (.string bytes, d) => bytes.length + uptoBulk d + 1
  | (_, d) => uptoBulk d + 1
 end
def uptoSmall : (H : Type) → List (DataW H) → Bool := fun _ ds => decide (uptoBulkAll ds ≤ 1048576)
def OpenSpec.upto (s : _root_.Go.ChangeSpec) : _root_.Go.OpenSpec := { _root_.Go.OpenSpec.ofChange s with cond := some uptoSmall }

/-- 'backstaylaw11.RuleRewrites', WHERE WHAT IT READS IS OF BULK AT MOST 1048576: true; the input reads as it did. -/
def ruleRewritesUptoRow : OpenClaim := { program := "ytmebpgggfppmhaadoor", sum := "f0644d2e8993cdb152a8c604e0129eb392dce50cb59d0383ae85c3dee41bce61", func := "backstay/backstaylaw11.RuleRewrites", spec := "ruleRewrites", unfollowed := true, recurses := true, named := ["math/bits.deBruijn32tab"], plainKeys := false, apart := false, laid := [("math/bits.deBruijn32tab", laid_math_bits_deBruijn32tab)], narrowed := true }
def RuleRewritesUptoSaid : Prop := ruleRewritesUptoRow.holds Tryd.pinned (OpenSpec.upto ruleRewritesSpec)

/-- 'backstaylaw11.RuleTurns', WHERE WHAT IT READS IS OF BULK AT MOST 1048576: true; the input reads as it did. -/
def ruleTurnsUptoRow : OpenClaim := { program := "ytmebpgggfppmhaadoor", sum := "f0644d2e8993cdb152a8c604e0129eb392dce50cb59d0383ae85c3dee41bce61", func := "backstay/backstaylaw11.RuleTurns", spec := "ruleTurns", unfollowed := true, recurses := true, named := ["math/bits.deBruijn32tab"], plainKeys := false, apart := false, laid := [("math/bits.deBruijn32tab", laid_math_bits_deBruijn32tab)], narrowed := true }
def RuleTurnsUptoSaid : Prop := ruleTurnsUptoRow.holds Tryd.pinned (OpenSpec.upto ruleTurnsSpec)

/-- 'backstaylaw11.RuleValidates', WHERE WHAT IT READS IS OF BULK AT MOST 1048576: true; the input reads as it did. -/
def ruleValidatesUptoRow : OpenClaim := { program := "ytmebpgggfppmhaadoor", sum := "f0644d2e8993cdb152a8c604e0129eb392dce50cb59d0383ae85c3dee41bce61", func := "backstay/backstaylaw11.RuleValidates", spec := "ruleValidates", unfollowed := true, recurses := true, named := ["math/bits.deBruijn32tab"], plainKeys := false, apart := false, laid := [("math/bits.deBruijn32tab", laid_math_bits_deBruijn32tab)], narrowed := true }
def RuleValidatesUptoSaid : Prop := ruleValidatesUptoRow.holds Tryd.pinned (OpenSpec.upto ruleValidatesSpec)

/-- 'backstaylaw11.RuleMatches', WHERE WHAT IT READS IS OF BULK AT MOST 1048576: true; the input reads as it did. -/
def ruleMatchesUptoRow : OpenClaim := { program := "ytmebpgggfppmhaadoor", sum := "f0644d2e8993cdb152a8c604e0129eb392dce50cb59d0383ae85c3dee41bce61", func := "backstay/backstaylaw11.RuleMatches", spec := "ruleMatches", unfollowed := true, recurses := true, named := ["math/bits.deBruijn32tab"], plainKeys := false, apart := false, laid := [("math/bits.deBruijn32tab", laid_math_bits_deBruijn32tab)], narrowed := true }
def RuleMatchesUptoSaid : Prop := ruleMatchesUptoRow.holds Tryd.pinned (OpenSpec.upto ruleMatchesSpec)

/-- 'backstaylaw11.RuleMeets', WHERE WHAT IT READS IS OF BULK AT MOST 1048576: true; the input reads as it did. -/
def ruleMeetsUptoRow : OpenClaim := { program := "ytmebpgggfppmhaadoor", sum := "f0644d2e8993cdb152a8c604e0129eb392dce50cb59d0383ae85c3dee41bce61", func := "backstay/backstaylaw11.RuleMeets", spec := "ruleMeets", unfollowed := true, recurses := true, named := ["math/bits.deBruijn32tab"], plainKeys := false, apart := false, laid := [("math/bits.deBruijn32tab", laid_math_bits_deBruijn32tab)], narrowed := true }
def RuleMeetsUptoSaid : Prop := ruleMeetsUptoRow.holds Tryd.pinned (OpenSpec.upto ruleMeetsSpec)

/-- 'backstaylaw11.RuleSides', WHERE WHAT IT READS IS OF BULK AT MOST 1048576: true; the input reads as it did. -/
def ruleSidesUptoRow : OpenClaim := { program := "ytmebpgggfppmhaadoor", sum := "f0644d2e8993cdb152a8c604e0129eb392dce50cb59d0383ae85c3dee41bce61", func := "backstay/backstaylaw11.RuleSides", spec := "ruleSides", unfollowed := true, recurses := true, named := ["math/bits.deBruijn32tab"], plainKeys := false, apart := false, laid := [("math/bits.deBruijn32tab", laid_math_bits_deBruijn32tab)], narrowed := true }
def RuleSidesUptoSaid : Prop := ruleSidesUptoRow.holds Tryd.pinned (OpenSpec.upto ruleSidesSpec)

/-- 'backstaylaw11.RuleReturns', WHERE WHAT IT READS IS OF BULK AT MOST 1048576: true; the input reads as it did. -/
def ruleReturnsUptoRow : OpenClaim := { program := "ytmebpgggfppmhaadoor", sum := "f0644d2e8993cdb152a8c604e0129eb392dce50cb59d0383ae85c3dee41bce61", func := "backstay/backstaylaw11.RuleReturns", spec := "ruleReturns", unfollowed := true, recurses := true, named := ["math/bits.deBruijn32tab"], plainKeys := false, apart := false, laid := [("math/bits.deBruijn32tab", laid_math_bits_deBruijn32tab)], narrowed := true }
def RuleReturnsUptoSaid : Prop := ruleReturnsUptoRow.holds Tryd.pinned (OpenSpec.upto ruleReturnsSpec)

end Rows
end Go.Proofs.YtmebpgggfppmhaaDoor
