/- Merged: Open2, OpenW, OpenN, OpenG, OpenA. -/
import Derived.Test.YtcmlmjbpdaecbaaGreatC09
import Derived.ChangeSame
import Derived.Deep.Strs
import Derived.Test.YtcmlmjbpdaecbaaGreatC12
set_option linter.unusedVariables false
set_option linter.unusedSimpArgs false
section
namespace Go.Proofs.YtcmlmjbpdaecbaaGreat
open Go.ChangeShapes Go.WideShapes Go.ChangeAt Go.RowKit Go.Deep
section
variable {H : Type} {enc : TypeId × Value → H} {P : Program} {W : World}

theorem open_agg2 {r : Reach} {b0 : Nat} {t : TypeId} {f0 f1 : Field} {v : Value} {d : DataW H} {ps : List MemPlace} (ht : P.underlying t = some (.struct #[f0, f1])) (hc : P.cellsOf t = 2) (o0 : f0.offset = 0) (o1 : f1.offset = 1) (c0 : P.cellsOf f0.type = 1) (c1 : P.cellsOf f1.type = 1)
    (hval : Value.okWide P W r b0 t v) (h : DataW.Trod enc P W 0 (fun _ => true) true t v d ps) :
    ∃ u0 u1 n x0 x1, v = .agg #[u0, u1] ∧ DataW.trod enc P W 0 (fun _ => true) true n f0.type [u0] = some x0 ∧ DataW.trod enc P W 0 (fun _ => true) true n f1.type [u1] = some x1 := by
  obtain ⟨cs, rfl, hs⟩ := okWide_struct ht hval
  obtain ⟨n, hn⟩ := h
  obtain ⟨y0, y1, m, _, hl, h0, h1⟩ := trod_struct2 ht hn
  rw [hc] at hs
  obtain ⟨l⟩ := cs
  match l, hs with
  | [u0, u1], _ =>
    rw [o0, c0] at h0
    rw [o1, c1] at h1
    exact ⟨u0, u1, m, y0, y1, rfl, by simpa [Value.cells] using h0, by simpa [Value.cells] using h1⟩

theorem open_agg3 {r : Reach} {b0 : Nat} {t : TypeId} {f0 f1 f2 : Field} {v : Value} {d : DataW H} {ps : List MemPlace} (ht : P.underlying t = some (.struct #[f0, f1, f2])) (hc : P.cellsOf t = 3) (o0 : f0.offset = 0) (o1 : f1.offset = 1) (o2 : f2.offset = 2) (c0 : P.cellsOf f0.type = 1) (c1 : P.cellsOf f1.type = 1) (c2 : P.cellsOf f2.type = 1)
    (hval : Value.okWide P W r b0 t v) (h : DataW.Trod enc P W 0 (fun _ => true) true t v d ps) :
    ∃ u0 u1 u2 n x0 x1 x2, v = .agg #[u0, u1, u2] ∧ DataW.trod enc P W 0 (fun _ => true) true n f0.type [u0] = some x0 ∧ DataW.trod enc P W 0 (fun _ => true) true n f1.type [u1] = some x1 ∧ DataW.trod enc P W 0 (fun _ => true) true n f2.type [u2] = some x2 := by
  obtain ⟨cs, rfl, hs⟩ := okWide_struct ht hval
  obtain ⟨n, hn⟩ := h
  obtain ⟨y0, y1, y2, m, _, hl, h0, h1, h2⟩ := trod_struct3 ht hn
  rw [hc] at hs
  obtain ⟨l⟩ := cs
  match l, hs with
  | [u0, u1, u2], _ =>
    rw [o0, c0] at h0
    rw [o1, c1] at h1
    rw [o2, c2] at h2
    exact ⟨u0, u1, u2, m, y0, y1, y2, rfl, by simpa [Value.cells] using h0, by simpa [Value.cells] using h1, by simpa [Value.cells] using h2⟩
end
end Go.Proofs.YtcmlmjbpdaecbaaGreat
end
section
namespace Go.Proofs.YtcmlmjbpdaecbaaGreat
open Go.ChangeShapes Go.WideShapes Go.ChangeAt Go.RowKit Go.Deep
set_option linter.unusedVariables false

/-- a word, and that it is one -/
def WordR (_ : World) (u : Value) (x : Int) : Prop := u = .int .u32 x ∧ 0 ≤ x ∧ x < 4294967296
theorem readsWord {H : Type} {enc : TypeId × Value → H} {P : Program} {W : World} {t : TypeId} (ht : P.underlying t = some (.int .u32)) : ReadsAs enc P W t WordR := by
  intro n u x h
  obtain ⟨m, e, _, hw⟩ := DataW.trod_int ht h
  refine ⟨m, (List.cons.inj e).1, ?_⟩
  simp [Lit.wf, IntKind.min, IntKind.max, IntKind.signed, IntKind.bits] at hw
  omega
theorem SlAt.words {W : World} {A : Option Addr} {m : Nat} {t : List Int} (h : SlAt WordR W A m t) : SlAt (IntR .u32) W A m t ∧ ∀ x ∈ t, 0 ≤ x ∧ x < 4294967296 := by
  refine ⟨⟨h.1, h.2.1, fun k x hx => ?_⟩, fun x hx => ?_⟩
  · obtain ⟨b, off, u, e1, e2, e3, e4⟩ := h.2.2 k x hx
    exact ⟨b, off, u, e1, e2, e3, e4.1⟩
  · obtain ⟨j, hj⟩ := List.mem_iff_getElem?.1 hx
    obtain ⟨b, off, u, e1, e2, e3, e4⟩ := h.2.2 j x hj
    exact e4.2
end Go.Proofs.YtcmlmjbpdaecbaaGreat
end
section
namespace Go.Proofs.YtcmlmjbpdaecbaaGreat
open Go.ChangeShapes Go.WideShapes Go.ChangeAt Go.RowKit Go.Deep
set_option linter.unusedVariables false
set_option linter.unusedSimpArgs false

theorem cellsIntN : Tryz.prog.cellsOf 3 = 1 := by kernel_rfl
theorem cellsNode : Tryz.prog.cellsOf 63 = 5 := by kernel_rfl

/-- five cells read as a node -/
theorem readsNode {H : Type} {enc : TypeId × Value → H} {W : World} {fs : Array Field} (hfs : fs.size = 5) (hty : ∀ (j : Nat) (f : Field), fs[j]? = some f → f.type = (#[3, 3, 3, 60, 61]).getD j 0) : ReadsSt enc Tryz.prog W fs NdR := by
  intro n us hl hu
  have get : ∀ j, j < 5 → ∃ u y, us[j]? = some u ∧ DataW.trod enc Tryz.prog W 0 (fun _ => true) true n ((#[3, 3, 3, 60, 61]).getD j 0) [u] = some y := fun j hj => by
    have hj' : j < fs.size := by omega
    obtain ⟨u, y, h1, h2⟩ := hu j fs[j] (Array.getElem?_eq_getElem hj')
    rw [hty j _ (Array.getElem?_eq_getElem hj')] at h2
    exact ⟨u, y, h1, h2⟩
  obtain ⟨u0, y0, g0, h0⟩ := get 0 (by omega)
  obtain ⟨u1, y1, g1, h1⟩ := get 1 (by omega)
  obtain ⟨u2, y2, g2, h2⟩ := get 2 (by omega)
  obtain ⟨u3, y3, g3, h3⟩ := get 3 (by omega)
  obtain ⟨u4, y4, g4, h4⟩ := get 4 (by omega)
  obtain ⟨a, e0, _, _⟩ := DataW.trod_int Tryz.underlying3 h0
  obtain ⟨b, e1, _, _⟩ := DataW.trod_int Tryz.underlying3 h1
  obtain ⟨c, e2, _, _⟩ := DataW.trod_int Tryz.underlying3 h2
  obtain ⟨l, A, cp, e3, s3⟩ := readsSl (enc := enc) (W := W) Tryz.underlying60 cellsIntN (readsInt Tryz.underlying3) n u3 y3 h3
  obtain ⟨d, e4, d0, d1⟩ := readsWord (enc := enc) (W := W) Tryz.underlying61 n u4 y4 h4
  have e0' := (List.cons.inj e0).1
  have e1' := (List.cons.inj e1).1
  have e2' := (List.cons.inj e2).1
  rw [hfs] at hl
  refine ⟨⟨a, b, c, l, d⟩, A, cp, ?_, s3, d0, d1⟩
  match us, hl, g0, g1, g2, g3, g4 with
  | [v0, v1, v2, v3, v4], _, g0, g1, g2, g3, g4 =>
    simp at g0 g1 g2 g3 g4
    subst g0 g1 g2 g3 g4
    rw [e0', e1', e2', e3, e4]
    rfl

set_option maxRecDepth 100000 in
/-- a list of nodes that came in -/
theorem open_nodes {H : Type} {enc : TypeId × Value → H} {W : World} {r : Reach} {b0 : Nat} {v : Value} {d : DataW H} {ps : List MemPlace} (hval : Value.okWide Tryz.prog W r b0 43 v) (h : DataW.Trod enc Tryz.prog W 0 (fun _ => true) true 43 v d ps) :
    ∃ A m c xs, v = .slice A m c ∧ StAt 5 NdR W A m xs :=
  open_st (R := NdR) Tryz.underlying43 Tryz.underlying63 (by kernel_rfl) cellsNode (by decide) (readsNode rfl (fun j f h => by rcases j with _ | _ | _ | _ | _ | j <;> simp at h <;> (subst h; rfl))) hval h
end Go.Proofs.YtcmlmjbpdaecbaaGreat
end
section
namespace Go.Proofs.YtcmlmjbpdaecbaaGreat
open Go.ChangeShapes Go.WideShapes Go.ChangeAt Go.RowKit Go.Deep
set_option linter.unusedVariables false
set_option linter.unusedSimpArgs false
set_option maxRecDepth 100000

/-- a term as one cell -/
def NdsR (W : World) (u : Value) (l : List T.Nd) : Prop := ∃ A c, u = .slice A l.length c ∧ StAt 5 NdR W A l.length l
theorem monoNds : MonoR NdsR := fun w w' u l hb h => by
  obtain ⟨A, c, e, h⟩ := h
  exact ⟨A, c, e, h.below monoNd hb⟩
/-- two cells as a pair of numbers -/
def PairR (_ : World) (us : List Value) (q : Int × Int) : Prop := us = [.int .i64 q.1, .int .i64 q.2]
theorem monoPair : MonoL PairR := fun _ _ _ _ _ h => h

theorem cellsNodes : Tryz.prog.cellsOf 43 = 1 := by kernel_rfl
theorem cellsPair : Tryz.prog.cellsOf 113 = 2 := by kernel_rfl

set_option maxRecDepth 100000 in
theorem readsNodes {H : Type} {enc : TypeId × Value → H} {W : World} : ReadsAs enc Tryz.prog W 43 NdsR := by
  intro n u x h
  obtain ⟨A, m, c, xs, rfl, hs⟩ := stAt_of_cells (R := NdR) Tryz.underlying43 Tryz.underlying63 (by kernel_rfl) cellsNode (by decide) (readsNode rfl (fun j f h => by rcases j with _ | _ | _ | _ | _ | j <;> simp at h <;> (subst h; rfl))) h
  have hl := hs.len
  subst hl
  exact ⟨xs, A, c, rfl, hs⟩
/-- a list of terms that came in -/
theorem open_terms {H : Type} {enc : TypeId × Value → H} {W : World} {r : Reach} {b0 : Nat} {v : Value} {d : DataW H} {ps : List MemPlace} (hval : Value.okWide Tryz.prog W r b0 147 v) (h : DataW.Trod enc Tryz.prog W 0 (fun _ => true) true 147 v d ps) :
    ∃ A m c xs, v = .slice A m c ∧ SlAt NdsR W A m xs :=
  open_sl Tryz.underlying147 cellsNodes readsNodes hval h

/-- elements of two numbers each, as they came in -/
theorem pairs_of_cells {H : Type} {enc : TypeId × Value → H} {W : World} {n : Nat} {u : Value} {x : DataW H × List MemPlace}
    (h : DataW.trod enc Tryz.prog W 0 (fun _ => true) true n 180 [u] = some x) : ∃ A m c xs, u = .slice A m c ∧ StAt 2 PairR W A m xs := by
  rcases open_slice Tryz.underlying180 h with ⟨e1, _⟩ | ⟨a, len, cap, m, k, D, Pl, e1, _, hl, hm, hmm, _, hV⟩
  · exact ⟨none, 0, 0, [], by simpa using e1, StAt.nil_ _⟩
  · simp at hmm
    subst hmm
    have each : ∀ i, i < m → ∃ q : (Int × Int) × List Value, q.2.length = 2 ∧ (∀ j v, q.2[j]? = some v → W.cell? (a.add (i * 2 + j)) = some v) ∧ PairR W q.2 q.1 := by
      intro i hi
      obtain ⟨cs', hc, ht'⟩ := hV i hi
      rw [cellsPair] at hc
      obtain ⟨ys, n', hn', hy, hcs, hlen, hf⟩ := DataW.trod_array Tryz.underlying113 ht'
      obtain ⟨_, hcl, hat⟩ := World.cells?_some hc
      match cs', hcl, hat, hf with
      | [z0, z1], hcl, hat, hf =>
        have g0 := hf 0 (by decide)
        have g1 := hf 1 (by decide)
        rw [cellsIntN, List.getElem?_eq_getElem (by omega)] at g0 g1
        obtain ⟨p, e0, _, _⟩ := DataW.trod_int Tryz.underlying3 g0
        obtain ⟨q, e1', _, _⟩ := DataW.trod_int Tryz.underlying3 g1
        have h0 : z0 = .int .i64 p := (List.cons.inj e0).1
        have h1 : z1 = .int .i64 q := (List.cons.inj e1').1
        refine ⟨((p, q), [z0, z1]), rfl, fun j v hv => ?_, by rw [h0, h1]; rfl⟩
        have hj : j < 2 := by have := (List.getElem?_eq_some_iff.1 hv).1; simpa using this
        rw [← Go.Deep.add_add, hat j hj]
        exact hv
    obtain ⟨q, hq⟩ := choose_lt each
    refine ⟨some a, len, m, (List.range len).map fun i => (q i).1, by simpa using e1, by simp, ?_, fun j y hy => ?_⟩
    · simp only [maxLen] at hm; omega
    · have hj : j < len := by
        have := (List.getElem?_eq_some_iff.1 hy).1
        simpa using this
      have hy' : y = (q j).1 := by simpa [hj] using hy.symm
      obtain ⟨b, off, spot⟩ := a
      obtain ⟨h1, h2, h3⟩ := hq j (by omega)
      have hv : (q j).2[0]? = some ((q j).2[0]'(by omega)) := List.getElem?_eq_getElem (by omega)
      have hc0 := h2 0 _ hv
      have h0 : spot = none := by
        obtain ⟨g1, g2, _⟩ := hq 0 (by omega)
        have hv0 : (q 0).2[0]? = some ((q 0).2[0]'(by omega)) := List.getElem?_eq_getElem (by omega)
        have := World.cell?_spot (g2 0 _ hv0)
        simpa [Addr.add] using this
      subst h0
      rw [add_plain] at hc0
      refine ⟨b, off, (q j).2, rfl, World.block_lt_of_cell? _ _ hc0, h1, fun i v hv => ?_, by rw [hy']; exact h3⟩
      have := h2 i v hv
      rw [add_plain, ← Nat.add_assoc] at this
      exact this
theorem open_pairs {H : Type} {enc : TypeId × Value → H} {W : World} {r : Reach} {b0 : Nat} {v : Value} {d : DataW H} {ps : List MemPlace} (hval : Value.okWide Tryz.prog W r b0 180 v) (h : DataW.Trod enc Tryz.prog W 0 (fun _ => true) true 180 v d ps) :
    ∃ A m c xs, v = .slice A m c ∧ StAt 2 PairR W A m xs := by
  obtain ⟨A, m, c, rfl⟩ := okWide_slice Tryz.underlying180 hval
  obtain ⟨n, hn⟩ := h
  obtain ⟨A', m', c', xs, e, hs⟩ := pairs_of_cells (u := .slice A m c) (by simpa [Value.cells] using hn)
  cases e
  exact ⟨A, m, c, xs, rfl, hs⟩
end Go.Proofs.YtcmlmjbpdaecbaaGreat
end
section
namespace Go.Proofs.YtcmlmjbpdaecbaaGreat
open Go.ChangeShapes Go.WideShapes Go.ChangeAt Go.RowKit Go.Deep
set_option linter.unusedVariables false
set_option linter.unusedSimpArgs false
set_option maxRecDepth 100000

structure Act where
  kind : Int
  term : List T.Nd
  a : Int
  b : Int
deriving Inhabited
/-- four cells as an act -/
def ActR (W : World) (us : List Value) (x : Act) : Prop := ∃ A c, us = [.int .i64 x.kind, .slice A x.term.length c, .int .i64 x.a, .int .i64 x.b] ∧ StAt 5 NdR W A x.term.length x.term
theorem monoAct : MonoL ActR := fun w w' u l hb h => by
  obtain ⟨A, c, e, h⟩ := h
  exact ⟨A, c, e, h.below monoNd hb⟩
theorem cellsAct : Tryz.prog.cellsOf 72 = 4 := by kernel_rfl

theorem readsAct {H : Type} {enc : TypeId × Value → H} {W : World} {fs : Array Field} (hfs : fs.size = 4) (hty : ∀ (j : Nat) (f : Field), fs[j]? = some f → f.type = (#[3, 43, 3, 3]).getD j 0) : ReadsSt enc Tryz.prog W fs ActR := by
  intro n us hl hu
  have get : ∀ j, j < 4 → ∃ u y, us[j]? = some u ∧ DataW.trod enc Tryz.prog W 0 (fun _ => true) true n ((#[3, 43, 3, 3]).getD j 0) [u] = some y := fun j hj => by
    have hj' : j < fs.size := by omega
    obtain ⟨u, y, h1, h2⟩ := hu j fs[j] (Array.getElem?_eq_getElem hj')
    rw [hty j _ (Array.getElem?_eq_getElem hj')] at h2
    exact ⟨u, y, h1, h2⟩
  obtain ⟨u0, y0, g0, h0⟩ := get 0 (by omega)
  obtain ⟨u1, y1, g1, h1⟩ := get 1 (by omega)
  obtain ⟨u2, y2, g2, h2⟩ := get 2 (by omega)
  obtain ⟨u3, y3, g3, h3⟩ := get 3 (by omega)
  obtain ⟨a, e0, _, _⟩ := DataW.trod_int Tryz.underlying3 h0
  obtain ⟨l, A, cp, e1, s1⟩ := readsNodes (enc := enc) (W := W) n u1 y1 h1
  obtain ⟨b, e2, _, _⟩ := DataW.trod_int Tryz.underlying3 h2
  obtain ⟨c, e3, _, _⟩ := DataW.trod_int Tryz.underlying3 h3
  have e0' := (List.cons.inj e0).1
  have e2' := (List.cons.inj e2).1
  have e3' := (List.cons.inj e3).1
  rw [hfs] at hl
  refine ⟨⟨a, l, b, c⟩, A, cp, ?_, s1⟩
  match us, hl, g0, g1, g2, g3 with
  | [v0, v1, v2, v3], _, g0, g1, g2, g3 =>
    simp at g0 g1 g2 g3
    subst g0 g1 g2 g3
    rw [e0', e1, e2', e3']

/-- a list of acts that came in -/
theorem open_acts {H : Type} {enc : TypeId × Value → H} {W : World} {r : Reach} {b0 : Nat} {v : Value} {d : DataW H} {ps : List MemPlace} (hval : Value.okWide Tryz.prog W r b0 22 v) (h : DataW.Trod enc Tryz.prog W 0 (fun _ => true) true 22 v d ps) :
    ∃ A m c xs, v = .slice A m c ∧ StAt 4 ActR W A m xs :=
  open_st (R := ActR) Tryz.underlying22 Tryz.underlying72 (by kernel_rfl) cellsAct (by decide) (readsAct rfl (fun j f h => by rcases j with _ | _ | _ | _ | j <;> simp at h <;> (subst h; rfl))) hval h
end Go.Proofs.YtcmlmjbpdaecbaaGreat
end
