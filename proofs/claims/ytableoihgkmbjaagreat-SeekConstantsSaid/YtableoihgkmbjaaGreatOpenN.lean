/- What comes in, opened: lists of nodes. -/
import Derived.Test.YtableoihgkmbjaaGreatOpenW
import Derived.Test.YtableoihgkmbjaaGreatT1
namespace Go.Proofs.YtableoihgkmbjaaGreat
open Go.ChangeShapes Go.WideShapes Go.ChangeAt Go.RowKit Go.Deep
set_option linter.unusedVariables false
set_option linter.unusedSimpArgs false

theorem cellsIntN : Tryz.prog.cellsOf 3 = 1 := by kernel_rfl
theorem cellsNode : Tryz.prog.cellsOf 61 = 5 := by kernel_rfl

/-- five cells read as a node -/
theorem readsNode {H : Type} {enc : TypeId × Value → H} {W : World} {fs : Array Field} (hfs : fs.size = 5) (hty : ∀ (j : Nat) (f : Field), fs[j]? = some f → f.type = (#[3, 3, 3, 59, 39]).getD j 0) : ReadsSt enc Tryz.prog W fs NdR := by
  intro n us hl hu
  have get : ∀ j, j < 5 → ∃ u y, us[j]? = some u ∧ DataW.trod enc Tryz.prog W 0 (fun _ => true) true n ((#[3, 3, 3, 59, 39]).getD j 0) [u] = some y := fun j hj => by
    have hj' : j < fs.size := by omega
    obtain ⟨u, y, h1, h2⟩ := hu j fs[j] (Array.getElem?_eq_getElem hj')
    rw [hty j _ (Array.getElem?_eq_getElem hj')] at h2
    exact ⟨u, y, h1, h2⟩
  obtain ⟨u0, y0, g0, h0⟩ := get 0 (by omega)
  obtain ⟨u1, y1, g1, h1⟩ := get 1 (by omega)
  obtain ⟨u2, y2, g2, h2⟩ := get 2 (by omega)
  obtain ⟨u3, y3, g3, h3⟩ := get 3 (by omega)
  obtain ⟨u4, y4, g4, h4⟩ := get 4 (by omega)
  obtain ⟨a, e0, _, _⟩ := DataW.trod_int Tryz.underlying3 h0
  obtain ⟨b, e1, _, _⟩ := DataW.trod_int Tryz.underlying3 h1
  obtain ⟨c, e2, _, _⟩ := DataW.trod_int Tryz.underlying3 h2
  obtain ⟨l, A, cp, e3, s3⟩ := readsSl (enc := enc) (W := W) Tryz.underlying59 cellsIntN (readsInt Tryz.underlying3) n u3 y3 h3
  obtain ⟨d, e4, d0, d1⟩ := readsWord (enc := enc) (W := W) Tryz.underlying39 n u4 y4 h4
  have e0' := (List.cons.inj e0).1
  have e1' := (List.cons.inj e1).1
  have e2' := (List.cons.inj e2).1
  rw [hfs] at hl
  refine ⟨⟨a, b, c, l, d⟩, A, cp, ?_, s3, d0, d1⟩
  match us, hl, g0, g1, g2, g3, g4 with
  | [v0, v1, v2, v3, v4], _, g0, g1, g2, g3, g4 =>
    simp at g0 g1 g2 g3 g4
    subst g0 g1 g2 g3 g4
    rw [e0', e1', e2', e3, e4]
    rfl

set_option maxRecDepth 100000 in
/-- a list of nodes that came in -/
theorem open_nodes {H : Type} {enc : TypeId × Value → H} {W : World} {r : Reach} {b0 : Nat} {v : Value} {d : DataW H} {ps : List MemPlace} (hval : Value.okWide Tryz.prog W r b0 30 v) (h : DataW.Trod enc Tryz.prog W 0 (fun _ => true) true 30 v d ps) :
    ∃ A m c xs, v = .slice A m c ∧ StAt 5 NdR W A m xs :=
  open_st (R := NdR) Tryz.underlying30 Tryz.underlying61 (by kernel_rfl) cellsNode (by decide) (readsNode rfl (fun j f h => by rcases j with _ | _ | _ | _ | _ | j <;> simp at h <;> (subst h; rfl))) hval h
end Go.Proofs.YtableoihgkmbjaaGreat
