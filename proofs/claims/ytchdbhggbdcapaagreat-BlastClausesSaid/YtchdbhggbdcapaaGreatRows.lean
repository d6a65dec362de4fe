/-
  No cell of these rows narrows 'for every input' (looked for: loops, veiled, ifaces, maps, wideKeys, modest, calm, conditions, laid).
  DERIVED. THE GIVEN ROWS OF THIS SEAT. 7 by the template 'for every input the law returns true; each argument reads behind the call as it read before'; 0 by the template 'total and deterministic' (their statements: YtchdbhggbdcapaaGreatTotals.lean).
  GIVEN WITH THE SEED: the statements are not yours to turn. If you find one false, say at which input.
  Laid BY PROGRAM, IN A SANDBOX (cutbox-rows.mjs): the forced cells as the released guide's own fill.sh prints them over the translation a2e4cda577fdfd27… (all of the seat's roots in one cut). By AI agents, Wed Nov 11 2026. No macro, syntax, notation, axiom, sorry.
-/
import Derived.Test.YtchdbhggbdcapaaGreatChecked
import GoSem.Claim
import GoSem.ClaimJoined
import GoSem.ClaimMapViews
import Derived.JoinedTies
import Derived.KernelRfl
namespace Go.Proofs.YtchdbhggbdcapaaGreat
/- THE CELL 'sum', in the pinned program and in every row, IS THE sha256 OF THE DUMP (.gsa) THAT YtchdbhggbdcapaaGreatProg.lean LOADS. Nothing in Lean hashes anything: it is a label: what it is worth is what the hold of that sum in a sandbox is worth. -/
noncomputable def Tryz.pinned : Pinned := { name := "ytchdbhggbdcapaagreat", sum := "a2e4cda577fdfd274b0f0bf9724c343e429d2d62c9e0e29586c088c97a995d18", checked := Tryz.checked }
namespace Rows
def none {H : Type} : Left H := { results := [], args := [] }

/-- 'backstaylaw10.BlastProves': WHATEVER THE INPUT: true; the input reads as it did. -/
def blastProvesSpec : ChangeSpec := { name := "blastProves", fn := fun _ => fun
  | [d] => { results := [.lit (.bool true)], args := [d] }
  | _ => none }
def blastProvesRow : OpenClaim := { program := "ytchdbhggbdcapaagreat", sum := "a2e4cda577fdfd274b0f0bf9724c343e429d2d62c9e0e29586c088c97a995d18", func := "backstay/backstaylaw10.BlastProves", spec := "blastProves", unfollowed := true, recurses := true, plainKeys := false, apart := false }
def BlastProvesSaid : Prop := blastProvesRow.holds Tryz.pinned (OpenSpec.ofChange blastProvesSpec)

/-- ITS FALSE NEIGHBOUR: 'it returns false'. Refute it at one input. -/
def blastProvesWrong : ChangeSpec := { name := "blastProves", fn := fun _ => fun
  | [d] => { results := [.lit (.bool false)], args := [d] }
  | _ => none }
def BlastProvesWrongFalsely : Prop := blastProvesRow.holds Tryz.pinned (OpenSpec.ofChange blastProvesWrong)

/-- 'backstaylaw10.BlastCounts': WHATEVER THE INPUT: true; the input reads as it did. -/
def blastCountsSpec : ChangeSpec := { name := "blastCounts", fn := fun _ => fun
  | [d] => { results := [.lit (.bool true)], args := [d] }
  | _ => none }
def blastCountsRow : OpenClaim := { program := "ytchdbhggbdcapaagreat", sum := "a2e4cda577fdfd274b0f0bf9724c343e429d2d62c9e0e29586c088c97a995d18", func := "backstay/backstaylaw10.BlastCounts", spec := "blastCounts", unfollowed := true, recurses := true, plainKeys := false, apart := false }
def BlastCountsSaid : Prop := blastCountsRow.holds Tryz.pinned (OpenSpec.ofChange blastCountsSpec)

/-- ITS FALSE NEIGHBOUR: 'it returns false'. Refute it at one input. -/
def blastCountsWrong : ChangeSpec := { name := "blastCounts", fn := fun _ => fun
  | [d] => { results := [.lit (.bool false)], args := [d] }
  | _ => none }
def BlastCountsWrongFalsely : Prop := blastCountsRow.holds Tryz.pinned (OpenSpec.ofChange blastCountsWrong)

/-- 'backstaylaw10.BlastClauses': WHATEVER THE INPUT: true; the input reads as it did. -/
def blastClausesSpec : ChangeSpec := { name := "blastClauses", fn := fun _ => fun
  | [d1, d2] => { results := [.lit (.bool true)], args := [d1, d2] }
  | _ => none }
def blastClausesRow : OpenClaim := { program := "ytchdbhggbdcapaagreat", sum := "a2e4cda577fdfd274b0f0bf9724c343e429d2d62c9e0e29586c088c97a995d18", func := "backstay/backstaylaw10.BlastClauses", spec := "blastClauses", unfollowed := true, recurses := true, plainKeys := false, apart := false }
def BlastClausesSaid : Prop := blastClausesRow.holds Tryz.pinned (OpenSpec.ofChange blastClausesSpec)

/-- ITS FALSE NEIGHBOUR: 'it returns false'. Refute it at one input. -/
def blastClausesWrong : ChangeSpec := { name := "blastClauses", fn := fun _ => fun
  | [d1, d2] => { results := [.lit (.bool false)], args := [d1, d2] }
  | _ => none }
def BlastClausesWrongFalsely : Prop := blastClausesRow.holds Tryz.pinned (OpenSpec.ofChange blastClausesWrong)

/-- 'backstaylaw10.BlastChecks': WHATEVER THE INPUT: true; the input reads as it did. -/
def blastChecksSpec : ChangeSpec := { name := "blastChecks", fn := fun _ => fun
  | [d1, d2] => { results := [.lit (.bool true)], args := [d1, d2] }
  | _ => none }
def blastChecksRow : OpenClaim := { program := "ytchdbhggbdcapaagreat", sum := "a2e4cda577fdfd274b0f0bf9724c343e429d2d62c9e0e29586c088c97a995d18", func := "backstay/backstaylaw10.BlastChecks", spec := "blastChecks", unfollowed := true, recurses := true, plainKeys := false, apart := false }
def BlastChecksSaid : Prop := blastChecksRow.holds Tryz.pinned (OpenSpec.ofChange blastChecksSpec)

/-- ITS FALSE NEIGHBOUR: 'it returns false'. Refute it at one input. -/
def blastChecksWrong : ChangeSpec := { name := "blastChecks", fn := fun _ => fun
  | [d1, d2] => { results := [.lit (.bool false)], args := [d1, d2] }
  | _ => none }
def BlastChecksWrongFalsely : Prop := blastChecksRow.holds Tryz.pinned (OpenSpec.ofChange blastChecksWrong)

/-- 'backstaylaw10.BlastFinds': WHATEVER THE INPUT: true; the input reads as it did. -/
def blastFindsSpec : ChangeSpec := { name := "blastFinds", fn := fun _ => fun
  | [d] => { results := [.lit (.bool true)], args := [d] }
  | _ => none }
def blastFindsRow : OpenClaim := { program := "ytchdbhggbdcapaagreat", sum := "a2e4cda577fdfd274b0f0bf9724c343e429d2d62c9e0e29586c088c97a995d18", func := "backstay/backstaylaw10.BlastFinds", spec := "blastFinds", unfollowed := true, recurses := true, plainKeys := false, apart := false }
def BlastFindsSaid : Prop := blastFindsRow.holds Tryz.pinned (OpenSpec.ofChange blastFindsSpec)

/-- ITS FALSE NEIGHBOUR: 'it returns false'. Refute it at one input. -/
def blastFindsWrong : ChangeSpec := { name := "blastFinds", fn := fun _ => fun
  | [d] => { results := [.lit (.bool false)], args := [d] }
  | _ => none }
def BlastFindsWrongFalsely : Prop := blastFindsRow.holds Tryz.pinned (OpenSpec.ofChange blastFindsWrong)

/-- 'backstaylaw10.BlastDecides': WHATEVER THE INPUT: true; the input reads as it did. -/
def blastDecidesSpec : ChangeSpec := { name := "blastDecides", fn := fun _ => fun
  | [d] => { results := [.lit (.bool true)], args := [d] }
  | _ => none }
def blastDecidesRow : OpenClaim := { program := "ytchdbhggbdcapaagreat", sum := "a2e4cda577fdfd274b0f0bf9724c343e429d2d62c9e0e29586c088c97a995d18", func := "backstay/backstaylaw10.BlastDecides", spec := "blastDecides", unfollowed := true, recurses := true, plainKeys := false, apart := false }
def BlastDecidesSaid : Prop := blastDecidesRow.holds Tryz.pinned (OpenSpec.ofChange blastDecidesSpec)

/-- ITS FALSE NEIGHBOUR: 'it returns false'. Refute it at one input. -/
def blastDecidesWrong : ChangeSpec := { name := "blastDecides", fn := fun _ => fun
  | [d] => { results := [.lit (.bool false)], args := [d] }
  | _ => none }
def BlastDecidesWrongFalsely : Prop := blastDecidesRow.holds Tryz.pinned (OpenSpec.ofChange blastDecidesWrong)

/-- 'backstaylaw10.BlastClaims': WHATEVER THE INPUT: true; the input reads as it did. -/
def blastClaimsSpec : ChangeSpec := { name := "blastClaims", fn := fun _ => fun
  | [d1, d2] => { results := [.lit (.bool true)], args := [d1, d2] }
  | _ => none }
def blastClaimsRow : OpenClaim := { program := "ytchdbhggbdcapaagreat", sum := "a2e4cda577fdfd274b0f0bf9724c343e429d2d62c9e0e29586c088c97a995d18", func := "backstay/backstaylaw10.BlastClaims", spec := "blastClaims", unfollowed := true, recurses := true, plainKeys := false, apart := false }
def BlastClaimsSaid : Prop := blastClaimsRow.holds Tryz.pinned (OpenSpec.ofChange blastClaimsSpec)

/-- ITS FALSE NEIGHBOUR: 'it returns false'. Refute it at one input. -/
def blastClaimsWrong : ChangeSpec := { name := "blastClaims", fn := fun _ => fun
  | [d1, d2] => { results := [.lit (.bool false)], args := [d1, d2] }
  | _ => none }
def BlastClaimsWrongFalsely : Prop := blastClaimsRow.holds Tryz.pinned (OpenSpec.ofChange blastClaimsWrong)

/- THE SECOND FORM. 'bulk': how many values and letters a reading holds, each counted each time it is reached (what is shared counts as often as it is met; a slice's spare places count too). A statement '..UptoSaid' is the law's where the arguments, and the package variables that the reading takes, are together of bulk at most 1048576: NARROWER than '..Said'. Prove '..Said' where nothing that the law and all that it calls make is longer than what came in: it says more and counts as full. Else prove '..UptoSaid'. A law counts once. -/
mutual
def uptoBulk {H : Type} : DataW H → Nat
  | .lit (.string bytes) => bytes.length + 1
  | .lit _ => 1
  | .nil => 1
  | .ptr d => uptoBulk d + 1
  | .slice elems spare => uptoBulkAll elems + uptoBulkAll spare + 1
  | .agg parts => uptoBulkAll parts + 1
  | .iface _ d => uptoBulk d + 1
  | .map entries => uptoBulkEntries entries + 1
  | .held _ => 1
def uptoBulkAll {H : Type} : List (DataW H) → Nat
  | [] => 0
  | d :: r => uptoBulk d + uptoBulkAll r
def uptoBulkEntries {H : Type} : List (Lit × DataW H) → Nat
  | [] => 0
  | x :: r => uptoBulkEntry x + uptoBulkEntries r
def uptoBulkEntry {H : Type} : Lit × DataW H → Nat
  | (.string bytes, d) => bytes.length + uptoBulk d + 1
  | (_, d) => uptoBulk d + 1
 end
def uptoSmall : (H : Type) → List (DataW H) → Bool := fun _ ds => decide (uptoBulkAll ds ≤ 1048576)
def OpenSpec.upto (s : _root_.Go.ChangeSpec) : _root_.Go.OpenSpec := { _root_.Go.OpenSpec.ofChange s with cond := some uptoSmall }

/-- 'backstaylaw10.BlastProves', WHERE WHAT IT READS IS OF BULK AT MOST 1048576: true; the input reads as it did. -/
def blastProvesUptoRow : OpenClaim := { program := "ytchdbhggbdcapaagreat", sum := "a2e4cda577fdfd274b0f0bf9724c343e429d2d62c9e0e29586c088c97a995d18", func := "backstay/backstaylaw10.BlastProves", spec := "blastProves", unfollowed := true, recurses := true, plainKeys := false, apart := false, narrowed := true }
def BlastProvesUptoSaid : Prop := blastProvesUptoRow.holds Tryz.pinned (OpenSpec.upto blastProvesSpec)

/-- 'backstaylaw10.BlastCounts', WHERE WHAT IT READS IS OF BULK AT MOST 1048576: true; the input reads as it did. -/
def blastCountsUptoRow : OpenClaim := { program := "ytchdbhggbdcapaagreat", sum := "a2e4cda577fdfd274b0f0bf9724c343e429d2d62c9e0e29586c088c97a995d18", func := "backstay/backstaylaw10.BlastCounts", spec := "blastCounts", unfollowed := true, recurses := true, plainKeys := false, apart := false, narrowed := true }
def BlastCountsUptoSaid : Prop := blastCountsUptoRow.holds Tryz.pinned (OpenSpec.upto blastCountsSpec)

/-- 'backstaylaw10.BlastClauses', WHERE WHAT IT READS IS OF BULK AT MOST 1048576: true; the input reads as it did. -/
def blastClausesUptoRow : OpenClaim := { program := "ytchdbhggbdcapaagreat", sum := "a2e4cda577fdfd274b0f0bf9724c343e429d2d62c9e0e29586c088c97a995d18", func := "backstay/backstaylaw10.BlastClauses", spec := "blastClauses", unfollowed := true, recurses := true, plainKeys := false, apart := false, narrowed := true }
def BlastClausesUptoSaid : Prop := blastClausesUptoRow.holds Tryz.pinned (OpenSpec.upto blastClausesSpec)

/-- 'backstaylaw10.BlastChecks', WHERE WHAT IT READS IS OF BULK AT MOST 1048576: true; the input reads as it did. -/
def blastChecksUptoRow : OpenClaim := { program := "ytchdbhggbdcapaagreat", sum := "a2e4cda577fdfd274b0f0bf9724c343e429d2d62c9e0e29586c088c97a995d18", func := "backstay/backstaylaw10.BlastChecks", spec := "blastChecks", unfollowed := true, recurses := true, plainKeys := false, apart := false, narrowed := true }
def BlastChecksUptoSaid : Prop := blastChecksUptoRow.holds Tryz.pinned (OpenSpec.upto blastChecksSpec)

/-- 'backstaylaw10.BlastFinds', WHERE WHAT IT READS IS OF BULK AT MOST 1048576: true; the input reads as it did. -/
def blastFindsUptoRow : OpenClaim := { program := "ytchdbhggbdcapaagreat", sum := "a2e4cda577fdfd274b0f0bf9724c343e429d2d62c9e0e29586c088c97a995d18", func := "backstay/backstaylaw10.BlastFinds", spec := "blastFinds", unfollowed := true, recurses := true, plainKeys := false, apart := false, narrowed := true }
def BlastFindsUptoSaid : Prop := blastFindsUptoRow.holds Tryz.pinned (OpenSpec.upto blastFindsSpec)

/-- 'backstaylaw10.BlastDecides', WHERE WHAT IT READS IS OF BULK AT MOST 1048576: true; the input reads as it did. -/
def blastDecidesUptoRow : OpenClaim := { program := "ytchdbhggbdcapaagreat", sum := "a2e4cda577fdfd274b0f0bf9724c343e429d2d62c9e0e29586c088c97a995d18", func := "backstay/backstaylaw10.BlastDecides", spec := "blastDecides", unfollowed := true, recurses := true, plainKeys := false, apart := false, narrowed := true }
def BlastDecidesUptoSaid : Prop := blastDecidesUptoRow.holds Tryz.pinned (OpenSpec.upto blastDecidesSpec)

/-- 'backstaylaw10.BlastClaims', WHERE WHAT IT READS IS OF BULK AT MOST 1048576: true; the input reads as it did. -/
def blastClaimsUptoRow : OpenClaim := { program := "ytchdbhggbdcapaagreat", sum := "a2e4cda577fdfd274b0f0bf9724c343e429d2d62c9e0e29586c088c97a995d18", func := "backstay/backstaylaw10.BlastClaims", spec := "blastClaims", unfollowed := true, recurses := true, plainKeys := false, apart := false, narrowed := true }
def BlastClaimsUptoSaid : Prop := blastClaimsUptoRow.holds Tryz.pinned (OpenSpec.upto blastClaimsSpec)

end Rows
end Go.Proofs.YtchdbhggbdcapaaGreat
