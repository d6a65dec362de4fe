/- What comes in, opened: slices of words of 32 bits, with their bounds. No program. -/
import Derived.Test.YtableoihgkmbjaaGreatOpen2
namespace Go.Proofs.YtableoihgkmbjaaGreat
open Go.ChangeShapes Go.WideShapes Go.ChangeAt Go.RowKit Go.Deep
set_option linter.unusedVariables false

/-- a word, and that it is one -/
def WordR (_ : World) (u : Value) (x : Int) : Prop := u = .int .u32 x ∧ 0 ≤ x ∧ x < 4294967296
theorem readsWord {H : Type} {enc : TypeId × Value → H} {P : Program} {W : World} {t : TypeId} (ht : P.underlying t = some (.int .u32)) : ReadsAs enc P W t WordR := by
  intro n u x h
  obtain ⟨m, e, _, hw⟩ := DataW.trod_int ht h
  refine ⟨m, (List.cons.inj e).1, ?_⟩
  simp [Lit.wf, IntKind.min, IntKind.max, IntKind.signed, IntKind.bits] at hw
  omega
theorem SlAt.words {W : World} {A : Option Addr} {m : Nat} {t : List Int} (h : SlAt WordR W A m t) : SlAt (IntR .u32) W A m t ∧ ∀ x ∈ t, 0 ≤ x ∧ x < 4294967296 := by
  refine ⟨⟨h.1, h.2.1, fun k x hx => ?_⟩, fun x hx => ?_⟩
  · obtain ⟨b, off, u, e1, e2, e3, e4⟩ := h.2.2 k x hx
    exact ⟨b, off, u, e1, e2, e3, e4.1⟩
  · obtain ⟨j, hj⟩ := List.mem_iff_getElem?.1 hx
    obtain ⟨b, off, u, e1, e2, e3, e4⟩ := h.2.2 j x hj
    exact e4.2
end Go.Proofs.YtableoihgkmbjaaGreat
