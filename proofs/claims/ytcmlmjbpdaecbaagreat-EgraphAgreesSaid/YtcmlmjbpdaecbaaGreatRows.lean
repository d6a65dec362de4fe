/-
  No cell of these rows narrows 'for every input' (looked for: loops, veiled, ifaces, maps, wideKeys, modest, calm, conditions, laid).
  DERIVED. THE GIVEN ROWS OF THIS SEAT. 5 by the template 'for every input the law returns true; each argument reads behind the call as it read before'; 0 by the template 'total and deterministic' (their statements: YtcmlmjbpdaecbaaGreatTotals.lean).
  GIVEN WITH THE SEED: the statements are not yours to turn. If you find one false, say at which input.
  Laid BY PROGRAM, IN A SANDBOX (cutbox-rows.mjs): the forced cells as the released guide's own fill.sh prints them over the translation b0f392c0985412d0… (all of the seat's roots in one cut). By AI agents, Wed Nov 11 2026. No macro, syntax, notation, axiom, sorry.
-/
import Derived.Test.YtcmlmjbpdaecbaaGreatChecked
import GoSem.Claim
import GoSem.ClaimJoined
import GoSem.ClaimMapViews
import Derived.JoinedTies
import Derived.KernelRfl
namespace Go.Proofs.YtcmlmjbpdaecbaaGreat
/- THE CELL 'sum', in the pinned program and in every row, IS THE sha256 OF THE DUMP (.gsa) THAT YtcmlmjbpdaecbaaGreatProg.lean LOADS. Nothing in Lean hashes anything: it is a label: what it is worth is what the hold of that sum in a sandbox is worth. -/
noncomputable def Tryz.pinned : Pinned := { name := "ytcmlmjbpdaecbaagreat", sum := "b0f392c0985412d0babb9a27da951c6069f9a1636091967265f29dc8950ff611", checked := Tryz.checked }
namespace Rows
def none {H : Type} : Left H := { results := [], args := [] }

/-- 'backstaylaw14.EgraphAgrees': WHATEVER THE INPUT: true; the input reads as it did. -/
def egraphAgreesSpec : ChangeSpec := { name := "egraphAgrees", fn := fun _ => fun
  | [d1, d2] => { results := [.lit (.bool true)], args := [d1, d2] }
  | _ => none }
def egraphAgreesRow : OpenClaim := { program := "ytcmlmjbpdaecbaagreat", sum := "b0f392c0985412d0babb9a27da951c6069f9a1636091967265f29dc8950ff611", func := "backstay/backstaylaw14.EgraphAgrees", spec := "egraphAgrees", unfollowed := true, recurses := true, plainKeys := false, apart := false }
def EgraphAgreesSaid : Prop := egraphAgreesRow.holds Tryz.pinned (OpenSpec.ofChange egraphAgreesSpec)

/-- ITS FALSE NEIGHBOUR: 'it returns false'. Refute it at one input. -/
def egraphAgreesWrong : ChangeSpec := { name := "egraphAgrees", fn := fun _ => fun
  | [d1, d2] => { results := [.lit (.bool false)], args := [d1, d2] }
  | _ => none }
def EgraphAgreesWrongFalsely : Prop := egraphAgreesRow.holds Tryz.pinned (OpenSpec.ofChange egraphAgreesWrong)

/-- 'backstaylaw14.EgraphSaturates': WHATEVER THE INPUT: true; the input reads as it did. -/
def egraphSaturatesSpec : ChangeSpec := { name := "egraphSaturates", fn := fun _ => fun
  | [d1, d2] => { results := [.lit (.bool true)], args := [d1, d2] }
  | _ => none }
def egraphSaturatesRow : OpenClaim := { program := "ytcmlmjbpdaecbaagreat", sum := "b0f392c0985412d0babb9a27da951c6069f9a1636091967265f29dc8950ff611", func := "backstay/backstaylaw14.EgraphSaturates", spec := "egraphSaturates", unfollowed := true, recurses := true, plainKeys := false, apart := false }
def EgraphSaturatesSaid : Prop := egraphSaturatesRow.holds Tryz.pinned (OpenSpec.ofChange egraphSaturatesSpec)

/-- ITS FALSE NEIGHBOUR: 'it returns false'. Refute it at one input. -/
def egraphSaturatesWrong : ChangeSpec := { name := "egraphSaturates", fn := fun _ => fun
  | [d1, d2] => { results := [.lit (.bool false)], args := [d1, d2] }
  | _ => none }
def EgraphSaturatesWrongFalsely : Prop := egraphSaturatesRow.holds Tryz.pinned (OpenSpec.ofChange egraphSaturatesWrong)

/-- 'backstaylaw14.EgraphExtracts': WHATEVER THE INPUT: true; the input reads as it did. -/
def egraphExtractsSpec : ChangeSpec := { name := "egraphExtracts", fn := fun _ => fun
  | [d1, d2, d3] => { results := [.lit (.bool true)], args := [d1, d2, d3] }
  | _ => none }
def egraphExtractsRow : OpenClaim := { program := "ytcmlmjbpdaecbaagreat", sum := "b0f392c0985412d0babb9a27da951c6069f9a1636091967265f29dc8950ff611", func := "backstay/backstaylaw14.EgraphExtracts", spec := "egraphExtracts", unfollowed := true, recurses := true, plainKeys := false, apart := false }
def EgraphExtractsSaid : Prop := egraphExtractsRow.holds Tryz.pinned (OpenSpec.ofChange egraphExtractsSpec)

/-- ITS FALSE NEIGHBOUR: 'it returns false'. Refute it at one input. -/
def egraphExtractsWrong : ChangeSpec := { name := "egraphExtracts", fn := fun _ => fun
  | [d1, d2, d3] => { results := [.lit (.bool false)], args := [d1, d2, d3] }
  | _ => none }
def EgraphExtractsWrongFalsely : Prop := egraphExtractsRow.holds Tryz.pinned (OpenSpec.ofChange egraphExtractsWrong)

/-- 'backstaylaw14.EgraphCopies': WHATEVER THE INPUT: true; the input reads as it did. -/
def egraphCopiesSpec : ChangeSpec := { name := "egraphCopies", fn := fun _ => fun
  | [d1, d2] => { results := [.lit (.bool true)], args := [d1, d2] }
  | _ => none }
def egraphCopiesRow : OpenClaim := { program := "ytcmlmjbpdaecbaagreat", sum := "b0f392c0985412d0babb9a27da951c6069f9a1636091967265f29dc8950ff611", func := "backstay/backstaylaw14.EgraphCopies", spec := "egraphCopies", unfollowed := true, recurses := true, plainKeys := false, apart := false }
def EgraphCopiesSaid : Prop := egraphCopiesRow.holds Tryz.pinned (OpenSpec.ofChange egraphCopiesSpec)

/-- ITS FALSE NEIGHBOUR: 'it returns false'. Refute it at one input. -/
def egraphCopiesWrong : ChangeSpec := { name := "egraphCopies", fn := fun _ => fun
  | [d1, d2] => { results := [.lit (.bool false)], args := [d1, d2] }
  | _ => none }
def EgraphCopiesWrongFalsely : Prop := egraphCopiesRow.holds Tryz.pinned (OpenSpec.ofChange egraphCopiesWrong)

/-- 'backstaylaw14.EgraphSounds': WHATEVER THE INPUT: true; the input reads as it did. -/
def egraphSoundsSpec : ChangeSpec := { name := "egraphSounds", fn := fun _ => fun
  | [d1, d2, d3] => { results := [.lit (.bool true)], args := [d1, d2, d3] }
  | _ => none }
def egraphSoundsRow : OpenClaim := { program := "ytcmlmjbpdaecbaagreat", sum := "b0f392c0985412d0babb9a27da951c6069f9a1636091967265f29dc8950ff611", func := "backstay/backstaylaw14.EgraphSounds", spec := "egraphSounds", unfollowed := true, recurses := true, plainKeys := false, apart := false }
def EgraphSoundsSaid : Prop := egraphSoundsRow.holds Tryz.pinned (OpenSpec.ofChange egraphSoundsSpec)

/-- ITS FALSE NEIGHBOUR: 'it returns false'. Refute it at one input. -/
def egraphSoundsWrong : ChangeSpec := { name := "egraphSounds", fn := fun _ => fun
  | [d1, d2, d3] => { results := [.lit (.bool false)], args := [d1, d2, d3] }
  | _ => none }
def EgraphSoundsWrongFalsely : Prop := egraphSoundsRow.holds Tryz.pinned (OpenSpec.ofChange egraphSoundsWrong)

/- THE SECOND FORM. 'bulk': how many values and letters a reading holds, each counted each time it is reached (what is shared counts as often as it is met; a slice's spare places count too). A statement '..UptoSaid' is the law's where the arguments, and the package variables that the reading takes, are together of bulk at most 1048576: NARROWER than '..Said'. Prove '..Said' where nothing that the law and all that it calls make is longer than what came in: it says more and counts as full. Else prove '..UptoSaid'. A law counts once. -/
mutual
def uptoBulk {H : Type} : DataW H → Nat
  | .lit (.string bytes) => bytes.length + 1
  | .lit _ => 1
  | .nil => 1
  | .ptr d => uptoBulk d + 1
  | .slice elems spare => uptoBulkAll elems + uptoBulkAll spare + 1
  | .agg parts => uptoBulkAll parts + 1
  | .iface _ d => uptoBulk d + 1
  | .map entries => uptoBulkEntries entries + 1
  | .held _ => 1
def uptoBulkAll {H : Type} : List (DataW H) → Nat
  | [] => 0
  | d :: r => uptoBulk d + uptoBulkAll r
def uptoBulkEntries {H : Type} : List (Lit × DataW H) → Nat
  | [] => 0
  | x :: r => uptoBulkEntry x + uptoBulkEntries r
def uptoBulkEntry {H : Type} : Lit × DataW H → Nat
  | (.string bytes, d) => bytes.length + uptoBulk d + 1
  | (_, d) => uptoBulk d + 1
 end
def uptoSmall : (H : Type) → List (DataW H) → Bool := fun _ ds => decide (uptoBulkAll ds ≤ 1048576)
def OpenSpec.upto (s : _root_.Go.ChangeSpec) : _root_.Go.OpenSpec := { _root_.Go.OpenSpec.ofChange s with cond := some uptoSmall }

/-- 'backstaylaw14.EgraphAgrees', WHERE WHAT IT READS IS OF BULK AT MOST 1048576: true; the input reads as it did. -/
def egraphAgreesUptoRow : OpenClaim := { program := "ytcmlmjbpdaecbaagreat", sum := "b0f392c0985412d0babb9a27da951c6069f9a1636091967265f29dc8950ff611", func := "backstay/backstaylaw14.EgraphAgrees", spec := "egraphAgrees", unfollowed := true, recurses := true, plainKeys := false, apart := false, narrowed := true }
def EgraphAgreesUptoSaid : Prop := egraphAgreesUptoRow.holds Tryz.pinned (OpenSpec.upto egraphAgreesSpec)

/-- 'backstaylaw14.EgraphSaturates', WHERE WHAT IT READS IS OF BULK AT MOST 1048576: true; the input reads as it did. -/
def egraphSaturatesUptoRow : OpenClaim := { program := "ytcmlmjbpdaecbaagreat", sum := "b0f392c0985412d0babb9a27da951c6069f9a1636091967265f29dc8950ff611", func := "backstay/backstaylaw14.EgraphSaturates", spec := "egraphSaturates", unfollowed := true, recurses := true, plainKeys := false, apart := false, narrowed := true }
def EgraphSaturatesUptoSaid : Prop := egraphSaturatesUptoRow.holds Tryz.pinned (OpenSpec.upto egraphSaturatesSpec)

/-- 'backstaylaw14.EgraphExtracts', WHERE WHAT IT READS IS OF BULK AT MOST 1048576: true; the input reads as it did. -/
def egraphExtractsUptoRow : OpenClaim := { program := "ytcmlmjbpdaecbaagreat", sum := "b0f392c0985412d0babb9a27da951c6069f9a1636091967265f29dc8950ff611", func := "backstay/backstaylaw14.EgraphExtracts", spec := "egraphExtracts", unfollowed := true, recurses := true, plainKeys := false, apart := false, narrowed := true }
def EgraphExtractsUptoSaid : Prop := egraphExtractsUptoRow.holds Tryz.pinned (OpenSpec.upto egraphExtractsSpec)

/-- 'backstaylaw14.EgraphCopies', WHERE WHAT IT READS IS OF BULK AT MOST 1048576: true; the input reads as it did. -/
def egraphCopiesUptoRow : OpenClaim := { program := "ytcmlmjbpdaecbaagreat", sum := "b0f392c0985412d0babb9a27da951c6069f9a1636091967265f29dc8950ff611", func := "backstay/backstaylaw14.EgraphCopies", spec := "egraphCopies", unfollowed := true, recurses := true, plainKeys := false, apart := false, narrowed := true }
def EgraphCopiesUptoSaid : Prop := egraphCopiesUptoRow.holds Tryz.pinned (OpenSpec.upto egraphCopiesSpec)

/-- 'backstaylaw14.EgraphSounds', WHERE WHAT IT READS IS OF BULK AT MOST 1048576: true; the input reads as it did. -/
def egraphSoundsUptoRow : OpenClaim := { program := "ytcmlmjbpdaecbaagreat", sum := "b0f392c0985412d0babb9a27da951c6069f9a1636091967265f29dc8950ff611", func := "backstay/backstaylaw14.EgraphSounds", spec := "egraphSounds", unfollowed := true, recurses := true, plainKeys := false, apart := false, narrowed := true }
def EgraphSoundsUptoSaid : Prop := egraphSoundsUptoRow.holds Tryz.pinned (OpenSpec.upto egraphSoundsSpec)

end Rows
end Go.Proofs.YtcmlmjbpdaecbaaGreat
