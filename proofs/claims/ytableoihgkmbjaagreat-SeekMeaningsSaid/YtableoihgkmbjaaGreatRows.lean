/-
  No cell of these rows narrows 'for every input' (looked for: loops, veiled, ifaces, maps, wideKeys, modest, calm, conditions, laid).
  DERIVED. THE GIVEN ROWS OF THIS SEAT. 3 by the template 'for every input the law returns true; each argument reads behind the call as it read before'; 0 by the template 'total and deterministic' (their statements: YtableoihgkmbjaaGreatTotals.lean).
  GIVEN WITH THE SEED: the statements are not yours to turn. If you find one false, say at which input.
  Laid BY PROGRAM, IN A SANDBOX (cutbox-rows.mjs): the forced cells as the released guide's own fill.sh prints them over the translation a68d8b91f1b99509… (all of the seat's roots in one cut). By AI agents, Wed Nov 11 2026. No macro, syntax, notation, axiom, sorry.
-/
import Derived.Test.YtableoihgkmbjaaGreatChecked
import GoSem.Claim
import GoSem.ClaimJoined
import GoSem.ClaimMapViews
import Derived.JoinedTies
import Derived.KernelRfl
namespace Go.Proofs.YtableoihgkmbjaaGreat
/- THE CELL 'sum', in the pinned program and in every row, IS THE sha256 OF THE DUMP (.gsa) THAT YtableoihgkmbjaaGreatProg.lean LOADS. Nothing in Lean hashes anything: it is a label: what it is worth is what the hold of that sum in a sandbox is worth. -/
noncomputable def Tryz.pinned : Pinned := { name := "ytableoihgkmbjaagreat", sum := "a68d8b91f1b995090b23183924c8ab14391e9d3a1a2ac96d586d330825299cd9", checked := Tryz.checked }
namespace Rows
def none {H : Type} : Left H := { results := [], args := [] }

/-- 'backstaylaw13.SeekMeanings': WHATEVER THE INPUT: true; the input reads as it did. -/
def seekMeaningsSpec : ChangeSpec := { name := "seekMeanings", fn := fun _ => fun
  | [d1, d2] => { results := [.lit (.bool true)], args := [d1, d2] }
  | _ => none }
def seekMeaningsRow : OpenClaim := { program := "ytableoihgkmbjaagreat", sum := "a68d8b91f1b995090b23183924c8ab14391e9d3a1a2ac96d586d330825299cd9", func := "backstay/backstaylaw13.SeekMeanings", spec := "seekMeanings", unfollowed := true, recurses := true, apart := false }
def SeekMeaningsSaid : Prop := seekMeaningsRow.holds Tryz.pinned (OpenSpec.ofChange seekMeaningsSpec)

/-- ITS FALSE NEIGHBOUR: 'it returns false'. Refute it at one input. -/
def seekMeaningsWrong : ChangeSpec := { name := "seekMeanings", fn := fun _ => fun
  | [d1, d2] => { results := [.lit (.bool false)], args := [d1, d2] }
  | _ => none }
def SeekMeaningsWrongFalsely : Prop := seekMeaningsRow.holds Tryz.pinned (OpenSpec.ofChange seekMeaningsWrong)

/-- 'backstaylaw13.SeekTerms': WHATEVER THE INPUT: true; the input reads as it did. -/
def seekTermsSpec : ChangeSpec := { name := "seekTerms", fn := fun _ => fun
  | [d1, d2] => { results := [.lit (.bool true)], args := [d1, d2] }
  | _ => none }
def seekTermsRow : OpenClaim := { program := "ytableoihgkmbjaagreat", sum := "a68d8b91f1b995090b23183924c8ab14391e9d3a1a2ac96d586d330825299cd9", func := "backstay/backstaylaw13.SeekTerms", spec := "seekTerms", unfollowed := true, recurses := true, apart := false }
def SeekTermsSaid : Prop := seekTermsRow.holds Tryz.pinned (OpenSpec.ofChange seekTermsSpec)

/-- ITS FALSE NEIGHBOUR: 'it returns false'. Refute it at one input. -/
def seekTermsWrong : ChangeSpec := { name := "seekTerms", fn := fun _ => fun
  | [d1, d2] => { results := [.lit (.bool false)], args := [d1, d2] }
  | _ => none }
def SeekTermsWrongFalsely : Prop := seekTermsRow.holds Tryz.pinned (OpenSpec.ofChange seekTermsWrong)

/-- 'backstaylaw13.SeekConstants': WHATEVER THE INPUT: true; the input reads as it did. -/
def seekConstantsSpec : ChangeSpec := { name := "seekConstants", fn := fun _ => fun
  | [d1, d2, d3] => { results := [.lit (.bool true)], args := [d1, d2, d3] }
  | _ => none }
def seekConstantsRow : OpenClaim := { program := "ytableoihgkmbjaagreat", sum := "a68d8b91f1b995090b23183924c8ab14391e9d3a1a2ac96d586d330825299cd9", func := "backstay/backstaylaw13.SeekConstants", spec := "seekConstants", unfollowed := true, recurses := true, apart := false }
def SeekConstantsSaid : Prop := seekConstantsRow.holds Tryz.pinned (OpenSpec.ofChange seekConstantsSpec)

/-- ITS FALSE NEIGHBOUR: 'it returns false'. Refute it at one input. -/
def seekConstantsWrong : ChangeSpec := { name := "seekConstants", fn := fun _ => fun
  | [d1, d2, d3] => { results := [.lit (.bool false)], args := [d1, d2, d3] }
  | _ => none }
def SeekConstantsWrongFalsely : Prop := seekConstantsRow.holds Tryz.pinned (OpenSpec.ofChange seekConstantsWrong)

/- THE SECOND FORM. 'bulk': how many values and letters a reading holds, each counted each time it is reached (what is shared counts as often as it is met; a slice's spare places count too). A statement '..UptoSaid' is the law's where the arguments, and the package variables that the reading takes, are together of bulk at most 1048576: NARROWER than '..Said'. Prove '..Said' where nothing that the law and all that it calls make is longer than what came in: it says more and counts as full. Else prove '..UptoSaid'. A law counts once. -/
mutual
def uptoBulk {H : Type} : DataW H → Nat
  | .lit (.string bytes) => bytes.length + 1
  | .lit _ => 1
  | .nil => 1
  | .ptr d => uptoBulk d + 1
  | .slice elems spare => uptoBulkAll elems + uptoBulkAll spare + 1
  | .agg parts => uptoBulkAll parts + 1
  | .iface _ d => uptoBulk d + 1
  | .map entries => uptoBulkEntries entries + 1
  | .held _ => 1
def uptoBulkAll {H : Type} : List (DataW H) → Nat
  | [] => 0
  | d :: r => uptoBulk d + uptoBulkAll r
def uptoBulkEntries {H : Type} : List (Lit × DataW H) → Nat
  | [] => 0
  | x :: r => uptoBulkEntry x + uptoBulkEntries r
def uptoBulkEntry {H : Type} : Lit × DataW H → Nat
  | (.string bytes, d) => bytes.length + uptoBulk d + 1
  | (_, d) => uptoBulk d + 1
 end
def uptoSmall : (H : Type) → List (DataW H) → Bool := fun _ ds => decide (uptoBulkAll ds ≤ 1048576)
def OpenSpec.upto (s : _root_.Go.ChangeSpec) : _root_.Go.OpenSpec := { _root_.Go.OpenSpec.ofChange s with cond := some uptoSmall }

/-- 'backstaylaw13.SeekMeanings', WHERE WHAT IT READS IS OF BULK AT MOST 1048576: true; the input reads as it did. -/
def seekMeaningsUptoRow : OpenClaim := { program := "ytableoihgkmbjaagreat", sum := "a68d8b91f1b995090b23183924c8ab14391e9d3a1a2ac96d586d330825299cd9", func := "backstay/backstaylaw13.SeekMeanings", spec := "seekMeanings", unfollowed := true, recurses := true, apart := false, narrowed := true }
def SeekMeaningsUptoSaid : Prop := seekMeaningsUptoRow.holds Tryz.pinned (OpenSpec.upto seekMeaningsSpec)

/-- 'backstaylaw13.SeekTerms', WHERE WHAT IT READS IS OF BULK AT MOST 1048576: true; the input reads as it did. -/
def seekTermsUptoRow : OpenClaim := { program := "ytableoihgkmbjaagreat", sum := "a68d8b91f1b995090b23183924c8ab14391e9d3a1a2ac96d586d330825299cd9", func := "backstay/backstaylaw13.SeekTerms", spec := "seekTerms", unfollowed := true, recurses := true, apart := false, narrowed := true }
def SeekTermsUptoSaid : Prop := seekTermsUptoRow.holds Tryz.pinned (OpenSpec.upto seekTermsSpec)

/-- 'backstaylaw13.SeekConstants', WHERE WHAT IT READS IS OF BULK AT MOST 1048576: true; the input reads as it did. -/
def seekConstantsUptoRow : OpenClaim := { program := "ytableoihgkmbjaagreat", sum := "a68d8b91f1b995090b23183924c8ab14391e9d3a1a2ac96d586d330825299cd9", func := "backstay/backstaylaw13.SeekConstants", spec := "seekConstants", unfollowed := true, recurses := true, apart := false, narrowed := true }
def SeekConstantsUptoSaid : Prop := seekConstantsUptoRow.holds Tryz.pinned (OpenSpec.upto seekConstantsSpec)

end Rows
end Go.Proofs.YtableoihgkmbjaaGreat
