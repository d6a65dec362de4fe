/-
  No cell of these rows narrows 'for every input' (looked for: loops, veiled, ifaces, maps, wideKeys, modest, calm, conditions, laid).
  DERIVED. THE GIVEN ROWS OF THIS SEAT. 3 by the template 'for every input the law returns true; each argument reads behind the call as it read before'; 0 by the template 'total and deterministic' (their statements: YtableoihgkmbjaaTotals.lean).
  GIVEN WITH THE SEED: the statements are not yours to turn. If you find one false, say at which input.
  Laid BY PROGRAM, IN A SANDBOX (cutbox-rows.mjs): the forced cells as the released guide's own fill.sh prints them over the translation f4f88170d2a66d89… (all of the seat's roots in one cut). By AI agents, Wed Nov 11 2026. No macro, syntax, notation, axiom, sorry.
-/
import Derived.Test.YtableoihgkmbjaaChecked
import GoSem.Claim
import GoSem.ClaimJoined
import GoSem.ClaimMapViews
import Derived.JoinedTies
import Derived.KernelRfl
namespace Go.Proofs.Ytableoihgkmbjaa
/- THE CELL 'sum', in the pinned program and in every row, IS THE sha256 OF THE DUMP (.gsa) THAT YtableoihgkmbjaaProg.lean LOADS. Nothing in Lean hashes anything: it is a label: what it is worth is what the hold of that sum in a sandbox is worth. -/
noncomputable def Try.pinned : Pinned := { name := "ytableoihgkmbjaa", sum := "f4f88170d2a66d89f91cd4ce3b8341dcb71470c36d27b062dd51eab07fff3481", checked := Try.checked }
namespace Rows
def none {H : Type} : Left H := { results := [], args := [] }

/-- 'backstaylaw13.SeekShortest': WHATEVER THE INPUT: true; the input reads as it did. -/
def seekShortestSpec : ChangeSpec := { name := "seekShortest", fn := fun _ => fun
  | [d1, d2] => { results := [.lit (.bool true)], args := [d1, d2] }
  | _ => none }
def seekShortestRow : OpenClaim := { program := "ytableoihgkmbjaa", sum := "f4f88170d2a66d89f91cd4ce3b8341dcb71470c36d27b062dd51eab07fff3481", func := "backstay/backstaylaw13.SeekShortest", spec := "seekShortest", unfollowed := true, recurses := true, apart := false }
def SeekShortestSaid : Prop := seekShortestRow.holds Try.pinned (OpenSpec.ofChange seekShortestSpec)

/-- ITS FALSE NEIGHBOUR: 'it returns false'. Refute it at one input. -/
def seekShortestWrong : ChangeSpec := { name := "seekShortest", fn := fun _ => fun
  | [d1, d2] => { results := [.lit (.bool false)], args := [d1, d2] }
  | _ => none }
def SeekShortestWrongFalsely : Prop := seekShortestRow.holds Try.pinned (OpenSpec.ofChange seekShortestWrong)

/-- 'backstaylaw13.SeekCounts': WHATEVER THE INPUT: true; the input reads as it did. -/
def seekCountsSpec : ChangeSpec := { name := "seekCounts", fn := fun _ => fun
  | [d1, d2, d3] => { results := [.lit (.bool true)], args := [d1, d2, d3] }
  | _ => none }
def seekCountsRow : OpenClaim := { program := "ytableoihgkmbjaa", sum := "f4f88170d2a66d89f91cd4ce3b8341dcb71470c36d27b062dd51eab07fff3481", func := "backstay/backstaylaw13.SeekCounts", spec := "seekCounts", unfollowed := true, recurses := true, apart := false }
def SeekCountsSaid : Prop := seekCountsRow.holds Try.pinned (OpenSpec.ofChange seekCountsSpec)

/-- ITS FALSE NEIGHBOUR: 'it returns false'. Refute it at one input. -/
def seekCountsWrong : ChangeSpec := { name := "seekCounts", fn := fun _ => fun
  | [d1, d2, d3] => { results := [.lit (.bool false)], args := [d1, d2, d3] }
  | _ => none }
def SeekCountsWrongFalsely : Prop := seekCountsRow.holds Try.pinned (OpenSpec.ofChange seekCountsWrong)

/-- 'backstaylaw13.SeekLeast': WHATEVER THE INPUT: true; the input reads as it did. -/
def seekLeastSpec : ChangeSpec := { name := "seekLeast", fn := fun _ => fun
  | [d1, d2] => { results := [.lit (.bool true)], args := [d1, d2] }
  | _ => none }
def seekLeastRow : OpenClaim := { program := "ytableoihgkmbjaa", sum := "f4f88170d2a66d89f91cd4ce3b8341dcb71470c36d27b062dd51eab07fff3481", func := "backstay/backstaylaw13.SeekLeast", spec := "seekLeast", unfollowed := true, recurses := true, apart := false }
def SeekLeastSaid : Prop := seekLeastRow.holds Try.pinned (OpenSpec.ofChange seekLeastSpec)

/-- ITS FALSE NEIGHBOUR: 'it returns false'. Refute it at one input. -/
def seekLeastWrong : ChangeSpec := { name := "seekLeast", fn := fun _ => fun
  | [d1, d2] => { results := [.lit (.bool false)], args := [d1, d2] }
  | _ => none }
def SeekLeastWrongFalsely : Prop := seekLeastRow.holds Try.pinned (OpenSpec.ofChange seekLeastWrong)

/- THE SECOND FORM. 'bulk': how many values and letters a reading holds, each counted each time it is reached (what is shared counts as often as it is met; a slice's spare places count too). A statement '..UptoSaid' is the law's where the arguments, and the package variables that the reading takes, are together of bulk at most 1048576: NARROWER than '..Said'. Prove '..Said' where nothing that the law and all that it calls make is longer than what came in: it says more and counts as full. Else prove '..UptoSaid'. A law counts once. -/
mutual
def uptoBulk {H : Type} : DataW H → Nat
  | .lit (.string bytes) => bytes.length + 1
  | .lit _ => 1
  | .nil => 1
  | .ptr d => uptoBulk d + 1
  | .slice elems spare => uptoBulkAll elems + uptoBulkAll spare + 1
  | .agg parts => uptoBulkAll parts + 1
  | .iface _ d => uptoBulk d + 1
  | .map entries => uptoBulkEntries entries + 1
  | .held _ => 1
def uptoBulkAll {H : Type} : List (DataW H) → Nat
  | [] => 0
  | d :: r => uptoBulk d + uptoBulkAll r
def uptoBulkEntries {H : Type} : List (Lit × DataW H) → Nat
  | [] => 0
  | x :: r => uptoBulkEntry x + uptoBulkEntries r
def uptoBulkEntry {H : Type} : Lit × DataW H → Nat
  | (.string bytes, d) => bytes.length + uptoBulk d + 1
  | (_, d) => uptoBulk d + 1
 end
def uptoSmall : (H : Type) → List (DataW H) → Bool := fun _ ds => decide (uptoBulkAll ds ≤ 1048576)
def OpenSpec.upto (s : _root_.Go.ChangeSpec) : _root_.Go.OpenSpec := { _root_.Go.OpenSpec.ofChange s with cond := some uptoSmall }

/-- 'backstaylaw13.SeekShortest', WHERE WHAT IT READS IS OF BULK AT MOST 1048576: true; the input reads as it did. -/
def seekShortestUptoRow : OpenClaim := { program := "ytableoihgkmbjaa", sum := "f4f88170d2a66d89f91cd4ce3b8341dcb71470c36d27b062dd51eab07fff3481", func := "backstay/backstaylaw13.SeekShortest", spec := "seekShortest", unfollowed := true, recurses := true, apart := false, narrowed := true }
def SeekShortestUptoSaid : Prop := seekShortestUptoRow.holds Try.pinned (OpenSpec.upto seekShortestSpec)

/-- 'backstaylaw13.SeekCounts', WHERE WHAT IT READS IS OF BULK AT MOST 1048576: true; the input reads as it did. -/
def seekCountsUptoRow : OpenClaim := { program := "ytableoihgkmbjaa", sum := "f4f88170d2a66d89f91cd4ce3b8341dcb71470c36d27b062dd51eab07fff3481", func := "backstay/backstaylaw13.SeekCounts", spec := "seekCounts", unfollowed := true, recurses := true, apart := false, narrowed := true }
def SeekCountsUptoSaid : Prop := seekCountsUptoRow.holds Try.pinned (OpenSpec.upto seekCountsSpec)

/-- 'backstaylaw13.SeekLeast', WHERE WHAT IT READS IS OF BULK AT MOST 1048576: true; the input reads as it did. -/
def seekLeastUptoRow : OpenClaim := { program := "ytableoihgkmbjaa", sum := "f4f88170d2a66d89f91cd4ce3b8341dcb71470c36d27b062dd51eab07fff3481", func := "backstay/backstaylaw13.SeekLeast", spec := "seekLeast", unfollowed := true, recurses := true, apart := false, narrowed := true }
def SeekLeastUptoSaid : Prop := seekLeastUptoRow.holds Try.pinned (OpenSpec.upto seekLeastSpec)

end Rows
end Go.Proofs.Ytableoihgkmbjaa
