/-
  No cell of these rows narrows 'for every input' (looked for: loops, veiled, ifaces, maps, wideKeys, modest, calm, conditions, laid).
  DERIVED. THE GIVEN ROWS OF THIS SEAT. 7 by the template 'for every input the law returns true; each argument reads behind the call as it read before'; 0 by the template 'total and deterministic' (their statements: YtceelipcclfdmaaTotals.lean).
  GIVEN WITH THE SEED: the statements are not yours to turn. If you find one false, say at which input.
  Laid BY PROGRAM, IN A SANDBOX (cutbox-rows.mjs): the forced cells as the released guide's own fill.sh prints them over the translation 9c2214f827fe9674… (all of the seat's roots in one cut). By AI agents, Wed Nov 11 2026. No macro, syntax, notation, axiom, sorry.
-/
import Derived.Test.YtceelipcclfdmaaChecked
import GoSem.Claim
import GoSem.ClaimJoined
import GoSem.ClaimMapViews
import Derived.JoinedTies
import Derived.KernelRfl
namespace Go.Proofs.Ytceelipcclfdmaa
/- THE CELL 'sum', in the pinned program and in every row, IS THE sha256 OF THE DUMP (.gsa) THAT YtceelipcclfdmaaProg.lean LOADS. Nothing in Lean hashes anything: it is a label: what it is worth is what the hold of that sum in a sandbox is worth. -/
noncomputable def Try.pinned : Pinned := { name := "ytceelipcclfdmaa", sum := "9c2214f827fe9674fb7dbdd34b9793a3d3b199c33012dafb5fada859a8c9ecac", checked := Try.checked }
namespace Rows
def none {H : Type} : Left H := { results := [], args := [] }

/-- 'backstaylaw09.ProofUnits': WHATEVER THE INPUT: true; the input reads as it did. -/
def proofUnitsSpec : ChangeSpec := { name := "proofUnits", fn := fun _ => fun
  | [d1, d2, d3] => { results := [.lit (.bool true)], args := [d1, d2, d3] }
  | _ => none }
def proofUnitsRow : OpenClaim := { program := "ytceelipcclfdmaa", sum := "9c2214f827fe9674fb7dbdd34b9793a3d3b199c33012dafb5fada859a8c9ecac", func := "backstay/backstaylaw09.ProofUnits", spec := "proofUnits", unfollowed := true, recurses := true, apart := false }
def ProofUnitsSaid : Prop := proofUnitsRow.holds Try.pinned (OpenSpec.ofChange proofUnitsSpec)

/-- ITS FALSE NEIGHBOUR: 'it returns false'. Refute it at one input. -/
def proofUnitsWrong : ChangeSpec := { name := "proofUnits", fn := fun _ => fun
  | [d1, d2, d3] => { results := [.lit (.bool false)], args := [d1, d2, d3] }
  | _ => none }
def ProofUnitsWrongFalsely : Prop := proofUnitsRow.holds Try.pinned (OpenSpec.ofChange proofUnitsWrong)

/-- 'backstaylaw09.ProofChecks': WHATEVER THE INPUT: true; the input reads as it did. -/
def proofChecksSpec : ChangeSpec := { name := "proofChecks", fn := fun _ => fun
  | [d1, d2, d3] => { results := [.lit (.bool true)], args := [d1, d2, d3] }
  | _ => none }
def proofChecksRow : OpenClaim := { program := "ytceelipcclfdmaa", sum := "9c2214f827fe9674fb7dbdd34b9793a3d3b199c33012dafb5fada859a8c9ecac", func := "backstay/backstaylaw09.ProofChecks", spec := "proofChecks", unfollowed := true, recurses := true, apart := false }
def ProofChecksSaid : Prop := proofChecksRow.holds Try.pinned (OpenSpec.ofChange proofChecksSpec)

/-- ITS FALSE NEIGHBOUR: 'it returns false'. Refute it at one input. -/
def proofChecksWrong : ChangeSpec := { name := "proofChecks", fn := fun _ => fun
  | [d1, d2, d3] => { results := [.lit (.bool false)], args := [d1, d2, d3] }
  | _ => none }
def ProofChecksWrongFalsely : Prop := proofChecksRow.holds Try.pinned (OpenSpec.ofChange proofChecksWrong)

/-- 'backstaylaw09.ProofFollows': WHATEVER THE INPUT: true; the input reads as it did. -/
def proofFollowsSpec : ChangeSpec := { name := "proofFollows", fn := fun _ => fun
  | [d1, d2, d3] => { results := [.lit (.bool true)], args := [d1, d2, d3] }
  | _ => none }
def proofFollowsRow : OpenClaim := { program := "ytceelipcclfdmaa", sum := "9c2214f827fe9674fb7dbdd34b9793a3d3b199c33012dafb5fada859a8c9ecac", func := "backstay/backstaylaw09.ProofFollows", spec := "proofFollows", unfollowed := true, recurses := true, apart := false }
def ProofFollowsSaid : Prop := proofFollowsRow.holds Try.pinned (OpenSpec.ofChange proofFollowsSpec)

/-- ITS FALSE NEIGHBOUR: 'it returns false'. Refute it at one input. -/
def proofFollowsWrong : ChangeSpec := { name := "proofFollows", fn := fun _ => fun
  | [d1, d2, d3] => { results := [.lit (.bool false)], args := [d1, d2, d3] }
  | _ => none }
def ProofFollowsWrongFalsely : Prop := proofFollowsRow.holds Try.pinned (OpenSpec.ofChange proofFollowsWrong)

/-- 'backstaylaw09.ProofResolves': WHATEVER THE INPUT: true; the input reads as it did. -/
def proofResolvesSpec : ChangeSpec := { name := "proofResolves", fn := fun _ => fun
  | [d1, d2] => { results := [.lit (.bool true)], args := [d1, d2] }
  | _ => none }
def proofResolvesRow : OpenClaim := { program := "ytceelipcclfdmaa", sum := "9c2214f827fe9674fb7dbdd34b9793a3d3b199c33012dafb5fada859a8c9ecac", func := "backstay/backstaylaw09.ProofResolves", spec := "proofResolves", unfollowed := true, recurses := true, apart := false }
def ProofResolvesSaid : Prop := proofResolvesRow.holds Try.pinned (OpenSpec.ofChange proofResolvesSpec)

/-- ITS FALSE NEIGHBOUR: 'it returns false'. Refute it at one input. -/
def proofResolvesWrong : ChangeSpec := { name := "proofResolves", fn := fun _ => fun
  | [d1, d2] => { results := [.lit (.bool false)], args := [d1, d2] }
  | _ => none }
def ProofResolvesWrongFalsely : Prop := proofResolvesRow.holds Try.pinned (OpenSpec.ofChange proofResolvesWrong)

/-- 'backstaylaw09.ProofModels': WHATEVER THE INPUT: true; the input reads as it did. -/
def proofModelsSpec : ChangeSpec := { name := "proofModels", fn := fun _ => fun
  | [d1, d2, d3] => { results := [.lit (.bool true)], args := [d1, d2, d3] }
  | _ => none }
def proofModelsRow : OpenClaim := { program := "ytceelipcclfdmaa", sum := "9c2214f827fe9674fb7dbdd34b9793a3d3b199c33012dafb5fada859a8c9ecac", func := "backstay/backstaylaw09.ProofModels", spec := "proofModels", unfollowed := true, recurses := true, apart := false }
def ProofModelsSaid : Prop := proofModelsRow.holds Try.pinned (OpenSpec.ofChange proofModelsSpec)

/-- ITS FALSE NEIGHBOUR: 'it returns false'. Refute it at one input. -/
def proofModelsWrong : ChangeSpec := { name := "proofModels", fn := fun _ => fun
  | [d1, d2, d3] => { results := [.lit (.bool false)], args := [d1, d2, d3] }
  | _ => none }
def ProofModelsWrongFalsely : Prop := proofModelsRow.holds Try.pinned (OpenSpec.ofChange proofModelsWrong)

/-- 'backstaylaw09.ProofSound': WHATEVER THE INPUT: true; the input reads as it did. -/
def proofSoundSpec : ChangeSpec := { name := "proofSound", fn := fun _ => fun
  | [d1, d2, d3] => { results := [.lit (.bool true)], args := [d1, d2, d3] }
  | _ => none }
def proofSoundRow : OpenClaim := { program := "ytceelipcclfdmaa", sum := "9c2214f827fe9674fb7dbdd34b9793a3d3b199c33012dafb5fada859a8c9ecac", func := "backstay/backstaylaw09.ProofSound", spec := "proofSound", unfollowed := true, recurses := true, apart := false }
def ProofSoundSaid : Prop := proofSoundRow.holds Try.pinned (OpenSpec.ofChange proofSoundSpec)

/-- ITS FALSE NEIGHBOUR: 'it returns false'. Refute it at one input. -/
def proofSoundWrong : ChangeSpec := { name := "proofSound", fn := fun _ => fun
  | [d1, d2, d3] => { results := [.lit (.bool false)], args := [d1, d2, d3] }
  | _ => none }
def ProofSoundWrongFalsely : Prop := proofSoundRow.holds Try.pinned (OpenSpec.ofChange proofSoundWrong)

/-- 'backstaylaw09.ProofTrims': WHATEVER THE INPUT: true; the input reads as it did. -/
def proofTrimsSpec : ChangeSpec := { name := "proofTrims", fn := fun _ => fun
  | [d1, d2, d3] => { results := [.lit (.bool true)], args := [d1, d2, d3] }
  | _ => none }
def proofTrimsRow : OpenClaim := { program := "ytceelipcclfdmaa", sum := "9c2214f827fe9674fb7dbdd34b9793a3d3b199c33012dafb5fada859a8c9ecac", func := "backstay/backstaylaw09.ProofTrims", spec := "proofTrims", unfollowed := true, recurses := true, apart := false }
def ProofTrimsSaid : Prop := proofTrimsRow.holds Try.pinned (OpenSpec.ofChange proofTrimsSpec)

/-- ITS FALSE NEIGHBOUR: 'it returns false'. Refute it at one input. -/
def proofTrimsWrong : ChangeSpec := { name := "proofTrims", fn := fun _ => fun
  | [d1, d2, d3] => { results := [.lit (.bool false)], args := [d1, d2, d3] }
  | _ => none }
def ProofTrimsWrongFalsely : Prop := proofTrimsRow.holds Try.pinned (OpenSpec.ofChange proofTrimsWrong)

/- THE SECOND FORM. 'bulk': how many values and letters a reading holds, each counted each time it is reached (what is shared counts as often as it is met; a slice's spare places count too). A statement '..UptoSaid' is the law's where the arguments, and the package variables that the reading takes, are together of bulk at most 1048576: NARROWER than '..Said'. Prove '..Said' where nothing that the law and all that it calls make is longer than what came in: it says more and counts as full. Else prove '..UptoSaid'. A law counts once. -/
mutual
def uptoBulk {H : Type} : DataW H → Nat
  | .lit (.string bytes) => bytes.length + 1
  | .lit _ => 1
  | .nil => 1
  | .ptr d => uptoBulk d + 1
  | .slice elems spare => uptoBulkAll elems + uptoBulkAll spare + 1
  | .agg parts => uptoBulkAll parts + 1
  | .iface _ d => uptoBulk d + 1
  | .map entries => uptoBulkEntries entries + 1
  | .held _ => 1
def uptoBulkAll {H : Type} : List (DataW H) → Nat
  | [] => 0
  | d :: r => uptoBulk d + uptoBulkAll r
def uptoBulkEntries {H : Type} : List (Lit × DataW H) → Nat
  | [] => 0
  | x :: r => uptoBulkEntry x + uptoBulkEntries r
def uptoBulkEntry {H : Type} : Lit × DataW H → Nat
  | (.string bytes, d) => bytes.length + uptoBulk d + 1
  | (_, d) => uptoBulk d + 1
 end
def uptoSmall : (H : Type) → List (DataW H) → Bool := fun _ ds => decide (uptoBulkAll ds ≤ 1048576)
def OpenSpec.upto (s : _root_.Go.ChangeSpec) : _root_.Go.OpenSpec := { _root_.Go.OpenSpec.ofChange s with cond := some uptoSmall }

/-- 'backstaylaw09.ProofUnits', WHERE WHAT IT READS IS OF BULK AT MOST 1048576: true; the input reads as it did. -/
def proofUnitsUptoRow : OpenClaim := { program := "ytceelipcclfdmaa", sum := "9c2214f827fe9674fb7dbdd34b9793a3d3b199c33012dafb5fada859a8c9ecac", func := "backstay/backstaylaw09.ProofUnits", spec := "proofUnits", unfollowed := true, recurses := true, apart := false, narrowed := true }
def ProofUnitsUptoSaid : Prop := proofUnitsUptoRow.holds Try.pinned (OpenSpec.upto proofUnitsSpec)

/-- 'backstaylaw09.ProofChecks', WHERE WHAT IT READS IS OF BULK AT MOST 1048576: true; the input reads as it did. -/
def proofChecksUptoRow : OpenClaim := { program := "ytceelipcclfdmaa", sum := "9c2214f827fe9674fb7dbdd34b9793a3d3b199c33012dafb5fada859a8c9ecac", func := "backstay/backstaylaw09.ProofChecks", spec := "proofChecks", unfollowed := true, recurses := true, apart := false, narrowed := true }
def ProofChecksUptoSaid : Prop := proofChecksUptoRow.holds Try.pinned (OpenSpec.upto proofChecksSpec)

/-- 'backstaylaw09.ProofFollows', WHERE WHAT IT READS IS OF BULK AT MOST 1048576: true; the input reads as it did. -/
def proofFollowsUptoRow : OpenClaim := { program := "ytceelipcclfdmaa", sum := "9c2214f827fe9674fb7dbdd34b9793a3d3b199c33012dafb5fada859a8c9ecac", func := "backstay/backstaylaw09.ProofFollows", spec := "proofFollows", unfollowed := true, recurses := true, apart := false, narrowed := true }
def ProofFollowsUptoSaid : Prop := proofFollowsUptoRow.holds Try.pinned (OpenSpec.upto proofFollowsSpec)

/-- 'backstaylaw09.ProofResolves', WHERE WHAT IT READS IS OF BULK AT MOST 1048576: true; the input reads as it did. -/
def proofResolvesUptoRow : OpenClaim := { program := "ytceelipcclfdmaa", sum := "9c2214f827fe9674fb7dbdd34b9793a3d3b199c33012dafb5fada859a8c9ecac", func := "backstay/backstaylaw09.ProofResolves", spec := "proofResolves", unfollowed := true, recurses := true, apart := false, narrowed := true }
def ProofResolvesUptoSaid : Prop := proofResolvesUptoRow.holds Try.pinned (OpenSpec.upto proofResolvesSpec)

/-- 'backstaylaw09.ProofModels', WHERE WHAT IT READS IS OF BULK AT MOST 1048576: true; the input reads as it did. -/
def proofModelsUptoRow : OpenClaim := { program := "ytceelipcclfdmaa", sum := "9c2214f827fe9674fb7dbdd34b9793a3d3b199c33012dafb5fada859a8c9ecac", func := "backstay/backstaylaw09.ProofModels", spec := "proofModels", unfollowed := true, recurses := true, apart := false, narrowed := true }
def ProofModelsUptoSaid : Prop := proofModelsUptoRow.holds Try.pinned (OpenSpec.upto proofModelsSpec)

/-- 'backstaylaw09.ProofSound', WHERE WHAT IT READS IS OF BULK AT MOST 1048576: true; the input reads as it did. -/
def proofSoundUptoRow : OpenClaim := { program := "ytceelipcclfdmaa", sum := "9c2214f827fe9674fb7dbdd34b9793a3d3b199c33012dafb5fada859a8c9ecac", func := "backstay/backstaylaw09.ProofSound", spec := "proofSound", unfollowed := true, recurses := true, apart := false, narrowed := true }
def ProofSoundUptoSaid : Prop := proofSoundUptoRow.holds Try.pinned (OpenSpec.upto proofSoundSpec)

/-- 'backstaylaw09.ProofTrims', WHERE WHAT IT READS IS OF BULK AT MOST 1048576: true; the input reads as it did. -/
def proofTrimsUptoRow : OpenClaim := { program := "ytceelipcclfdmaa", sum := "9c2214f827fe9674fb7dbdd34b9793a3d3b199c33012dafb5fada859a8c9ecac", func := "backstay/backstaylaw09.ProofTrims", spec := "proofTrims", unfollowed := true, recurses := true, apart := false, narrowed := true }
def ProofTrimsUptoSaid : Prop := proofTrimsUptoRow.holds Try.pinned (OpenSpec.upto proofTrimsSpec)

end Rows
end Go.Proofs.Ytceelipcclfdmaa
