/- Merged: Open2, OpenW, OpenN, OpenG, OpenA, J16. -/
import Derived.Test.YtcmlmjbpdaecbaaP09
import Derived.ChangeSame
import Derived.Deep.Strs
import Derived.Test.YtcmlmjbpdaecbaaP12
import Derived.Test.YtcmlmjbpdaecbaaP46
import Derived.Test.YtcmlmjbpdaecbaaP43
set_option linter.unusedVariables false
set_option linter.unusedSimpArgs false
section
namespace Go.Proofs.Ytcmlmjbpdaecbaa
open Go.ChangeShapes Go.WideShapes Go.ChangeAt Go.RowKit Go.Deep
section
variable {H : Type} {enc : TypeId × Value → H} {P : Program} {W : World}

theorem open_agg2 {r : Reach} {b0 : Nat} {t : TypeId} {f0 f1 : Field} {v : Value} {d : DataW H} {ps : List MemPlace} (ht : P.underlying t = some (.struct #[f0, f1])) (hc : P.cellsOf t = 2) (o0 : f0.offset = 0) (o1 : f1.offset = 1) (c0 : P.cellsOf f0.type = 1) (c1 : P.cellsOf f1.type = 1)
    (hval : Value.okWide P W r b0 t v) (h : DataW.Trod enc P W 0 (fun _ => true) true t v d ps) :
    ∃ u0 u1 n x0 x1, v = .agg #[u0, u1] ∧ DataW.trod enc P W 0 (fun _ => true) true n f0.type [u0] = some x0 ∧ DataW.trod enc P W 0 (fun _ => true) true n f1.type [u1] = some x1 := by
  obtain ⟨cs, rfl, hs⟩ := okWide_struct ht hval
  obtain ⟨n, hn⟩ := h
  obtain ⟨y0, y1, m, _, hl, h0, h1⟩ := trod_struct2 ht hn
  rw [hc] at hs
  obtain ⟨l⟩ := cs
  match l, hs with
  | [u0, u1], _ =>
    rw [o0, c0] at h0
    rw [o1, c1] at h1
    exact ⟨u0, u1, m, y0, y1, rfl, by simpa [Value.cells] using h0, by simpa [Value.cells] using h1⟩

theorem open_agg3 {r : Reach} {b0 : Nat} {t : TypeId} {f0 f1 f2 : Field} {v : Value} {d : DataW H} {ps : List MemPlace} (ht : P.underlying t = some (.struct #[f0, f1, f2])) (hc : P.cellsOf t = 3) (o0 : f0.offset = 0) (o1 : f1.offset = 1) (o2 : f2.offset = 2) (c0 : P.cellsOf f0.type = 1) (c1 : P.cellsOf f1.type = 1) (c2 : P.cellsOf f2.type = 1)
    (hval : Value.okWide P W r b0 t v) (h : DataW.Trod enc P W 0 (fun _ => true) true t v d ps) :
    ∃ u0 u1 u2 n x0 x1 x2, v = .agg #[u0, u1, u2] ∧ DataW.trod enc P W 0 (fun _ => true) true n f0.type [u0] = some x0 ∧ DataW.trod enc P W 0 (fun _ => true) true n f1.type [u1] = some x1 ∧ DataW.trod enc P W 0 (fun _ => true) true n f2.type [u2] = some x2 := by
  obtain ⟨cs, rfl, hs⟩ := okWide_struct ht hval
  obtain ⟨n, hn⟩ := h
  obtain ⟨y0, y1, y2, m, _, hl, h0, h1, h2⟩ := trod_struct3 ht hn
  rw [hc] at hs
  obtain ⟨l⟩ := cs
  match l, hs with
  | [u0, u1, u2], _ =>
    rw [o0, c0] at h0
    rw [o1, c1] at h1
    rw [o2, c2] at h2
    exact ⟨u0, u1, u2, m, y0, y1, y2, rfl, by simpa [Value.cells] using h0, by simpa [Value.cells] using h1, by simpa [Value.cells] using h2⟩
end
end Go.Proofs.Ytcmlmjbpdaecbaa
end
section
namespace Go.Proofs.Ytcmlmjbpdaecbaa
open Go.ChangeShapes Go.WideShapes Go.ChangeAt Go.RowKit Go.Deep
set_option linter.unusedVariables false

/-- a word, and that it is one -/
def WordR (_ : World) (u : Value) (x : Int) : Prop := u = .int .u32 x ∧ 0 ≤ x ∧ x < 4294967296
theorem readsWord {H : Type} {enc : TypeId × Value → H} {P : Program} {W : World} {t : TypeId} (ht : P.underlying t = some (.int .u32)) : ReadsAs enc P W t WordR := by
  intro n u x h
  obtain ⟨m, e, _, hw⟩ := DataW.trod_int ht h
  refine ⟨m, (List.cons.inj e).1, ?_⟩
  simp [Lit.wf, IntKind.min, IntKind.max, IntKind.signed, IntKind.bits] at hw
  omega
theorem SlAt.words {W : World} {A : Option Addr} {m : Nat} {t : List Int} (h : SlAt WordR W A m t) : SlAt (IntR .u32) W A m t ∧ ∀ x ∈ t, 0 ≤ x ∧ x < 4294967296 := by
  refine ⟨⟨h.1, h.2.1, fun k x hx => ?_⟩, fun x hx => ?_⟩
  · obtain ⟨b, off, u, e1, e2, e3, e4⟩ := h.2.2 k x hx
    exact ⟨b, off, u, e1, e2, e3, e4.1⟩
  · obtain ⟨j, hj⟩ := List.mem_iff_getElem?.1 hx
    obtain ⟨b, off, u, e1, e2, e3, e4⟩ := h.2.2 j x hj
    exact e4.2
end Go.Proofs.Ytcmlmjbpdaecbaa
end
section
namespace Go.Proofs.Ytcmlmjbpdaecbaa
open Go.ChangeShapes Go.WideShapes Go.ChangeAt Go.RowKit Go.Deep
set_option linter.unusedVariables false
set_option linter.unusedSimpArgs false

theorem cellsIntN : Try.prog.cellsOf 3 = 1 := by kernel_rfl
theorem cellsNode : Try.prog.cellsOf 52 = 5 := by kernel_rfl

/-- five cells read as a node -/
theorem readsNode {H : Type} {enc : TypeId × Value → H} {W : World} {fs : Array Field} (hfs : fs.size = 5) (hty : ∀ (j : Nat) (f : Field), fs[j]? = some f → f.type = (#[3, 3, 3, 46, 44]).getD j 0) : ReadsSt enc Try.prog W fs NdR := by
  intro n us hl hu
  have get : ∀ j, j < 5 → ∃ u y, us[j]? = some u ∧ DataW.trod enc Try.prog W 0 (fun _ => true) true n ((#[3, 3, 3, 46, 44]).getD j 0) [u] = some y := fun j hj => by
    have hj' : j < fs.size := by omega
    obtain ⟨u, y, h1, h2⟩ := hu j fs[j] (Array.getElem?_eq_getElem hj')
    rw [hty j _ (Array.getElem?_eq_getElem hj')] at h2
    exact ⟨u, y, h1, h2⟩
  obtain ⟨u0, y0, g0, h0⟩ := get 0 (by omega)
  obtain ⟨u1, y1, g1, h1⟩ := get 1 (by omega)
  obtain ⟨u2, y2, g2, h2⟩ := get 2 (by omega)
  obtain ⟨u3, y3, g3, h3⟩ := get 3 (by omega)
  obtain ⟨u4, y4, g4, h4⟩ := get 4 (by omega)
  obtain ⟨a, e0, _, _⟩ := DataW.trod_int Try.underlying3 h0
  obtain ⟨b, e1, _, _⟩ := DataW.trod_int Try.underlying3 h1
  obtain ⟨c, e2, _, _⟩ := DataW.trod_int Try.underlying3 h2
  obtain ⟨l, A, cp, e3, s3⟩ := readsSl (enc := enc) (W := W) Try.underlying46 cellsIntN (readsInt Try.underlying3) n u3 y3 h3
  obtain ⟨d, e4, d0, d1⟩ := readsWord (enc := enc) (W := W) Try.underlying44 n u4 y4 h4
  have e0' := (List.cons.inj e0).1
  have e1' := (List.cons.inj e1).1
  have e2' := (List.cons.inj e2).1
  rw [hfs] at hl
  refine ⟨⟨a, b, c, l, d⟩, A, cp, ?_, s3, d0, d1⟩
  match us, hl, g0, g1, g2, g3, g4 with
  | [v0, v1, v2, v3, v4], _, g0, g1, g2, g3, g4 =>
    simp at g0 g1 g2 g3 g4
    subst g0 g1 g2 g3 g4
    rw [e0', e1', e2', e3, e4]
    rfl

set_option maxRecDepth 100000 in
/-- a list of nodes that came in -/
theorem open_nodes {H : Type} {enc : TypeId × Value → H} {W : World} {r : Reach} {b0 : Nat} {v : Value} {d : DataW H} {ps : List MemPlace} (hval : Value.okWide Try.prog W r b0 28 v) (h : DataW.Trod enc Try.prog W 0 (fun _ => true) true 28 v d ps) :
    ∃ A m c xs, v = .slice A m c ∧ StAt 5 NdR W A m xs :=
  open_st (R := NdR) Try.underlying28 Try.underlying52 (by kernel_rfl) cellsNode (by decide) (readsNode rfl (fun j f h => by rcases j with _ | _ | _ | _ | _ | j <;> simp at h <;> (subst h; rfl))) hval h
end Go.Proofs.Ytcmlmjbpdaecbaa
end
section
namespace Go.Proofs.Ytcmlmjbpdaecbaa
open Go.ChangeShapes Go.WideShapes Go.ChangeAt Go.RowKit Go.Deep
set_option linter.unusedVariables false
set_option linter.unusedSimpArgs false
set_option maxRecDepth 100000

/-- a term as one cell -/
def NdsR (W : World) (u : Value) (l : List T.Nd) : Prop := ∃ A c, u = .slice A l.length c ∧ StAt 5 NdR W A l.length l
theorem monoNds : MonoR NdsR := fun w w' u l hb h => by
  obtain ⟨A, c, e, h⟩ := h
  exact ⟨A, c, e, h.below monoNd hb⟩
/-- two cells as a pair of numbers -/
def PairR (_ : World) (us : List Value) (q : Int × Int) : Prop := us = [.int .i64 q.1, .int .i64 q.2]
theorem monoPair : MonoL PairR := fun _ _ _ _ _ h => h

theorem cellsNodes : Try.prog.cellsOf 28 = 1 := by kernel_rfl
theorem cellsPair : Try.prog.cellsOf 33 = 2 := by kernel_rfl

set_option maxRecDepth 100000 in
theorem readsNodes {H : Type} {enc : TypeId × Value → H} {W : World} : ReadsAs enc Try.prog W 28 NdsR := by
  intro n u x h
  obtain ⟨A, m, c, xs, rfl, hs⟩ := stAt_of_cells (R := NdR) Try.underlying28 Try.underlying52 (by kernel_rfl) cellsNode (by decide) (readsNode rfl (fun j f h => by rcases j with _ | _ | _ | _ | _ | j <;> simp at h <;> (subst h; rfl))) h
  have hl := hs.len
  subst hl
  exact ⟨xs, A, c, rfl, hs⟩
/-- a list of terms that came in -/
theorem open_terms {H : Type} {enc : TypeId × Value → H} {W : World} {r : Reach} {b0 : Nat} {v : Value} {d : DataW H} {ps : List MemPlace} (hval : Value.okWide Try.prog W r b0 22 v) (h : DataW.Trod enc Try.prog W 0 (fun _ => true) true 22 v d ps) :
    ∃ A m c xs, v = .slice A m c ∧ SlAt NdsR W A m xs :=
  open_sl Try.underlying22 cellsNodes readsNodes hval h

/-- elements of two numbers each, as they came in -/
theorem pairs_of_cells {H : Type} {enc : TypeId × Value → H} {W : World} {n : Nat} {u : Value} {x : DataW H × List MemPlace}
    (h : DataW.trod enc Try.prog W 0 (fun _ => true) true n 23 [u] = some x) : ∃ A m c xs, u = .slice A m c ∧ StAt 2 PairR W A m xs := by
  rcases open_slice Try.underlying23 h with ⟨e1, _⟩ | ⟨a, len, cap, m, k, D, Pl, e1, _, hl, hm, hmm, _, hV⟩
  · exact ⟨none, 0, 0, [], by simpa using e1, StAt.nil_ _⟩
  · simp at hmm
    subst hmm
    have each : ∀ i, i < m → ∃ q : (Int × Int) × List Value, q.2.length = 2 ∧ (∀ j v, q.2[j]? = some v → W.cell? (a.add (i * 2 + j)) = some v) ∧ PairR W q.2 q.1 := by
      intro i hi
      obtain ⟨cs', hc, ht'⟩ := hV i hi
      rw [cellsPair] at hc
      obtain ⟨ys, n', hn', hy, hcs, hlen, hf⟩ := DataW.trod_array Try.underlying33 ht'
      obtain ⟨_, hcl, hat⟩ := World.cells?_some hc
      match cs', hcl, hat, hf with
      | [z0, z1], hcl, hat, hf =>
        have g0 := hf 0 (by decide)
        have g1 := hf 1 (by decide)
        rw [cellsIntN, List.getElem?_eq_getElem (by omega)] at g0 g1
        obtain ⟨p, e0, _, _⟩ := DataW.trod_int Try.underlying3 g0
        obtain ⟨q, e1', _, _⟩ := DataW.trod_int Try.underlying3 g1
        have h0 : z0 = .int .i64 p := (List.cons.inj e0).1
        have h1 : z1 = .int .i64 q := (List.cons.inj e1').1
        refine ⟨((p, q), [z0, z1]), rfl, fun j v hv => ?_, by rw [h0, h1]; rfl⟩
        have hj : j < 2 := by have := (List.getElem?_eq_some_iff.1 hv).1; simpa using this
        rw [← Go.Deep.add_add, hat j hj]
        exact hv
    obtain ⟨q, hq⟩ := choose_lt each
    refine ⟨some a, len, m, (List.range len).map fun i => (q i).1, by simpa using e1, by simp, ?_, fun j y hy => ?_⟩
    · simp only [maxLen] at hm; omega
    · have hj : j < len := by
        have := (List.getElem?_eq_some_iff.1 hy).1
        simpa using this
      have hy' : y = (q j).1 := by simpa [hj] using hy.symm
      obtain ⟨b, off, spot⟩ := a
      obtain ⟨h1, h2, h3⟩ := hq j (by omega)
      have hv : (q j).2[0]? = some ((q j).2[0]'(by omega)) := List.getElem?_eq_getElem (by omega)
      have hc0 := h2 0 _ hv
      have h0 : spot = none := by
        obtain ⟨g1, g2, _⟩ := hq 0 (by omega)
        have hv0 : (q 0).2[0]? = some ((q 0).2[0]'(by omega)) := List.getElem?_eq_getElem (by omega)
        have := World.cell?_spot (g2 0 _ hv0)
        simpa [Addr.add] using this
      subst h0
      rw [add_plain] at hc0
      refine ⟨b, off, (q j).2, rfl, World.block_lt_of_cell? _ _ hc0, h1, fun i v hv => ?_, by rw [hy']; exact h3⟩
      have := h2 i v hv
      rw [add_plain, ← Nat.add_assoc] at this
      exact this
theorem open_pairs {H : Type} {enc : TypeId × Value → H} {W : World} {r : Reach} {b0 : Nat} {v : Value} {d : DataW H} {ps : List MemPlace} (hval : Value.okWide Try.prog W r b0 23 v) (h : DataW.Trod enc Try.prog W 0 (fun _ => true) true 23 v d ps) :
    ∃ A m c xs, v = .slice A m c ∧ StAt 2 PairR W A m xs := by
  obtain ⟨A, m, c, rfl⟩ := okWide_slice Try.underlying23 hval
  obtain ⟨n, hn⟩ := h
  obtain ⟨A', m', c', xs, e, hs⟩ := pairs_of_cells (u := .slice A m c) (by simpa [Value.cells] using hn)
  cases e
  exact ⟨A, m, c, xs, rfl, hs⟩
end Go.Proofs.Ytcmlmjbpdaecbaa
end
section
namespace Go.Proofs.Ytcmlmjbpdaecbaa
open Go.ChangeShapes Go.WideShapes Go.ChangeAt Go.RowKit Go.Deep
set_option linter.unusedVariables false
set_option linter.unusedSimpArgs false
set_option maxRecDepth 100000

structure Act where
  kind : Int
  term : List T.Nd
  a : Int
  b : Int
deriving Inhabited
/-- four cells as an act -/
def ActR (W : World) (us : List Value) (x : Act) : Prop := ∃ A c, us = [.int .i64 x.kind, .slice A x.term.length c, .int .i64 x.a, .int .i64 x.b] ∧ StAt 5 NdR W A x.term.length x.term
theorem monoAct : MonoL ActR := fun w w' u l hb h => by
  obtain ⟨A, c, e, h⟩ := h
  exact ⟨A, c, e, h.below monoNd hb⟩
theorem cellsAct : Try.prog.cellsOf 66 = 4 := by kernel_rfl

theorem readsAct {H : Type} {enc : TypeId × Value → H} {W : World} {fs : Array Field} (hfs : fs.size = 4) (hty : ∀ (j : Nat) (f : Field), fs[j]? = some f → f.type = (#[3, 28, 3, 3]).getD j 0) : ReadsSt enc Try.prog W fs ActR := by
  intro n us hl hu
  have get : ∀ j, j < 4 → ∃ u y, us[j]? = some u ∧ DataW.trod enc Try.prog W 0 (fun _ => true) true n ((#[3, 28, 3, 3]).getD j 0) [u] = some y := fun j hj => by
    have hj' : j < fs.size := by omega
    obtain ⟨u, y, h1, h2⟩ := hu j fs[j] (Array.getElem?_eq_getElem hj')
    rw [hty j _ (Array.getElem?_eq_getElem hj')] at h2
    exact ⟨u, y, h1, h2⟩
  obtain ⟨u0, y0, g0, h0⟩ := get 0 (by omega)
  obtain ⟨u1, y1, g1, h1⟩ := get 1 (by omega)
  obtain ⟨u2, y2, g2, h2⟩ := get 2 (by omega)
  obtain ⟨u3, y3, g3, h3⟩ := get 3 (by omega)
  obtain ⟨a, e0, _, _⟩ := DataW.trod_int Try.underlying3 h0
  obtain ⟨l, A, cp, e1, s1⟩ := readsNodes (enc := enc) (W := W) n u1 y1 h1
  obtain ⟨b, e2, _, _⟩ := DataW.trod_int Try.underlying3 h2
  obtain ⟨c, e3, _, _⟩ := DataW.trod_int Try.underlying3 h3
  have e0' := (List.cons.inj e0).1
  have e2' := (List.cons.inj e2).1
  have e3' := (List.cons.inj e3).1
  rw [hfs] at hl
  refine ⟨⟨a, l, b, c⟩, A, cp, ?_, s1⟩
  match us, hl, g0, g1, g2, g3 with
  | [v0, v1, v2, v3], _, g0, g1, g2, g3 =>
    simp at g0 g1 g2 g3
    subst g0 g1 g2 g3
    rw [e0', e1, e2', e3']

/-- a list of acts that came in -/
theorem open_acts {H : Type} {enc : TypeId × Value → H} {W : World} {r : Reach} {b0 : Nat} {v : Value} {d : DataW H} {ps : List MemPlace} (hval : Value.okWide Try.prog W r b0 38 v) (h : DataW.Trod enc Try.prog W 0 (fun _ => true) true 38 v d ps) :
    ∃ A m c xs, v = .slice A m c ∧ StAt 4 ActR W A m xs :=
  open_st (R := ActR) Try.underlying38 Try.underlying66 (by kernel_rfl) cellsAct (by decide) (readsAct rfl (fun j f h => by rcases j with _ | _ | _ | _ | j <;> simp at h <;> (subst h; rfl))) hval h
end Go.Proofs.Ytcmlmjbpdaecbaa
end
section
namespace Go.Proofs.Ytcmlmjbpdaecbaa
open Go.RowKit Go.MapKept Go.Maps Go.WideMaps
set_option linter.unusedVariables false
set_option linter.unusedSimpArgs false

theorem width_form (p : List Nat) (wd : List Int) (nm : List Nat) (x : Int) : ∃ u v, widthEnd p wd nm x = .returned (.tuple #[.int .i64 u, .int .i64 v]) := by
  unfold widthEnd
  split
  · exact ⟨_, _, rfl⟩
  · exact ⟨_, _, rfl⟩
theorem same_form (p nm : List Nat) (x y : Int) : ∃ u v, sameEnd p nm x y = .returned (.tuple #[.bool u, .int .i64 v]) := by
  unfold sameEnd
  split
  · exact ⟨_, _, rfl⟩
  · exact ⟨_, _, rfl⟩

set_option maxRecDepth 100000 in
set_option maxHeartbeats 4000000 in
theorem alike_any {W0 W : World} {s r : E.Gr} {bg br N : Nat} {X : Nat → Prop} (h : BM W0 s r bg br X W) (al : E.Alike s r) (z : Sz s N) (hN : N ≤ 800000) :
    Calls Try.prog 27 #[.pointer (some ⟨bg, 0, none⟩), .pointer (some ⟨br, 0, none⟩)] W fun e w' => e = .returned (.bool true) ∧ Below W.heap.size W w' := by
  have Hc1 := Lib.hid (h.classesG z hN)
  have H := Lib.hid h
  have Al := Lib.hid al
  have Zr := Lib.hid (z.alike al)
  have hM : r.nm.length ≤ 800000 := Nat.le_trans (z.alike al).nm hN
  obtain ⟨M, hMe⟩ : ∃ M, r.nm.length = M := ⟨_, rfl⟩
  have HMe := Lib.hid hMe
  rw [hMe] at hM
  obtain ⟨k1, hk1⟩ : ∃ k1, E.roots s.p = k1 := ⟨_, rfl⟩
  obtain ⟨k2, hk2⟩ : ∃ k2, s.es.length = k2 := ⟨_, rfl⟩
  have Hk1 := Lib.hid (show E.roots r.p = k1 from al.roots ▸ hk1)
  have Hk2s := Lib.hid hk2
  have Hk2 := Lib.hid (show r.es.length = k2 from al.count ▸ hk2)
  rw [hk1] at Hc1
  clear h al z hMe hk1 hk2
  go_enter Try.func27, Try.ntmps27
  go_wp2_with fail
  (with_reducible refine Hc1.out.mono ?_)
  rintro e w1 ⟨rfl, hb⟩
  have Hm1 := Lib.hid (H.out.below hb)
  have Hb1 := Lib.hid hb
  have Hc2 := Lib.hid (Hm1.out.classesR Zr.out hN)
  have Hc3 := Lib.hid Hm1.out.nodesG
  have Hc4 := Lib.hid Hm1.out.nodesR
  rw [Hk1.out] at Hc2
  rw [Hk2s.out] at Hc3
  rw [Hk2.out] at Hc4
  clear hb Hc1
  go_wp2_with fail
  (with_reducible refine Hc2.out.mono ?_)
  rintro e w2 ⟨rfl, hw2⟩
  subst hw2
  go_wp2_with fail
  (with_reducible refine Hc3.out.mono ?_)
  rintro e w2 ⟨rfl, hw2⟩
  subst hw2
  go_wp2_with fail
  (with_reducible refine Hc4.out.mono ?_)
  rintro e w2 ⟨rfl, hw2⟩
  subst hw2
  clear Hc2 Hc3 Hc4
  go_wp2_with fail
  go_loopg [5] (M + 3) (fun gg s5 wr => ∃ (q : Nat) (y : Int), q ≤ M + 2 ∧ s5 = .int .i64 y ∧ gg + q = M + 3 ∧ Hid (y = (q : Int) - 1) ∧ Hid (Below W.heap.size W wr))
  case atStart => exact ⟨0, _, Nat.zero_le _, rfl, rfl, Lib.hid (by omega), Hb1⟩
  case round =>
    obtain ⟨q, y, hq, rfl, hgk, Hy, Hb⟩ := hrel
    have Hgk := Lib.hid hgk
    clear hgk Hb1 Hm1
    have Hm := Lib.hid (H.out.below Hb.out)
    obtain ⟨An, cn, kn⟩ := Hm.out.names
    rw [HMe.out] at kn
    by_cases hqM : q ≤ M + 1
    · have hyM : y ≤ (M : Int) := by have := Hy.out; omega
      have hy1 : -1 ≤ y := by have := Hy.out; omega
      have Hwg := Lib.hid (Hm.out.widthG y)
      obtain ⟨u, v, huv⟩ := width_form s.p s.wd s.nm y
      have Huv := Lib.hid (show widthEnd r.p r.wd r.nm y = .returned (.tuple #[.int .i64 u, .int .i64 v]) from Al.out.width y ▸ huv)
      rw [huv] at Hwg
      clear huv
      go_wp2_with fail
      (with_reducible refine Hwg.out.mono ?_)
      rintro e w3 ⟨hb, rfl⟩
      have Hb3 := Lib.hid (Hb.out.trans (hb.mono Hb.out.size))
      have Hwr := Lib.hid ((H.out.below Hb3.out).widthR y)
      rw [Huv.out] at Hwr
      clear hb Hwg kn Hb Hm
      go_wp2_with fail
      (with_reducible refine Hwr.out.mono ?_)
      rintro e w4 ⟨hb, rfl⟩
      have Hb4 := Lib.hid (Hb3.out.trans (hb.mono Hb3.out.size))
      clear hb Hwr Hb3
      go_wp2_with fail
      obtain ⟨gO, rfl⟩ : ∃ g, g = gk := ⟨_, rfl⟩
      go_loopg [10] (M + 3 - q) (fun gg s10 wr => ∃ (p : Nat) (x : Int), q ≤ p ∧ p ≤ M + 2 ∧ s10 = .int .i64 x ∧ gg + p = M + 3 ∧ Hid (x = (p : Int) - 1) ∧ Hid (Below W.heap.size W wr))
      case atStart => exact ⟨q, _, Nat.le_refl _, hq, rfl, by omega, Hy, Hb4⟩
      case round =>
        obtain ⟨p, x, hqp, hp, rfl, hgp, Hx, Hb⟩ := hrel
        have Hgp := Lib.hid hgp
        clear hgp Hb4
        have Hm := Lib.hid (H.out.below Hb.out)
        obtain ⟨An, cn, kn⟩ := Hm.out.names
        rw [HMe.out] at kn
        by_cases hpM : p ≤ M + 1
        · have hxM : x ≤ (M : Int) := by have := Hx.out; omega
          have hx1 : -1 ≤ x := by have := Hx.out; omega
          have Hsg := Lib.hid (Hm.out.sameG y x)
          obtain ⟨u', v', huv⟩ := same_form s.p s.nm y x
          have Huv' := Lib.hid (show sameEnd r.p r.nm y x = .returned (.tuple #[.bool u', .int .i64 v']) from Al.out.same y x ▸ huv)
          rw [huv] at Hsg
          clear huv
          go_wp2_with fail
          (with_reducible refine Hsg.out.mono ?_)
          rintro e w5 ⟨hb, rfl⟩
          have Hb5 := Lib.hid (Hb.out.trans (hb.mono Hb.out.size))
          have Hsr := Lib.hid ((H.out.below Hb5.out).sameR y x)
          rw [Huv'.out] at Hsr
          clear hb Hsg kn Hb Hm
          go_wp2_with fail
          (with_reducible refine Hsr.out.mono ?_)
          rintro e w6 ⟨hw6, rfl⟩
          subst hw6
          clear Hsr
          have e9 : IntKind.i64.wrap (x + 1) = x + 1 := IntWalk.i64_in _ (by omega)
          go_wp2_with fail
          go_roundg (gk - 1)
          case measure => have := Hgp.out; omega
          case rel =>
            have := Hgp.out
            have := Hx.out
            exact ⟨p + 1, _, by omega, by omega, rfl, by omega, Lib.hid (by omega), Hb5⟩
        · have hxM : ¬ x ≤ (M : Int) := by have := Hx.out; omega
          have e9 : IntKind.i64.wrap (y + 1) = y + 1 := IntWalk.i64_in _ (by omega)
          go_wp2_with fail
          go_roundg (gO - 1)
          case measure => have := Hgk.out; omega
          case rel =>
            have := Hgk.out
            have := Hy.out
            exact ⟨q + 1, _, by omega, rfl, by omega, Lib.hid (by omega), Hb⟩
    · have hyM : ¬ y ≤ (M : Int) := by have := Hy.out; omega
      go_wp2
      go_ret
      exact ⟨rfl, Hb.out⟩

namespace E
def long (l : List Act) : Bool := (l.any fun x => T.long x.term || decide (60 < x.term.length)) || decide (24 < l.length)
end E
set_option maxRecDepth 100000 in
set_option maxHeartbeats 2000000 in
theorem actsLong_any (l : List Act) (m cm : Nat) (A : Option Addr) (W : World) (hA : StAt 4 ActR W A m l) :
    Calls Try.prog 13 #[.slice A m cm] W fun e w' => e = .returned (.bool (E.long l)) ∧ w' = W := by
  have HA := Lib.hid hA
  have hle := hA.le
  have Hln := Lib.hid hA.len
  obtain ⟨res, hr⟩ : ∃ res, res = E.long l := ⟨_, rfl⟩
  rw [← hr]
  have Hr := Lib.hid hr
  clear hA hr
  go_enter Try.func13, Try.ntmps13
  go_wp2_with fail
  go_loopg [3] (m + 1) (fun gg s3 wr => ∃ (j : Nat), j ≤ m ∧ s3 = .int .i64 (j : Int) ∧ gg + j = m + 1 ∧ wr = W ∧ Hid ((l.take j).any (fun x => T.long x.term || decide (60 < x.term.length)) = false))
  case atStart => exact ⟨0, Nat.zero_le _, rfl, rfl, rfl, Lib.hid rfl⟩
  case round =>
    obtain ⟨j, hj, rfl, hgk, hw, Hany⟩ := hrel
    subst hw
    have Hgk := Lib.hid hgk
    clear hgk
    by_cases hjm : j < m
    · obtain ⟨x, ba, offa, us, hx, hBa, hba, hul, hcs, hus⟩ := HA.out.at_ hjm
      have hBa' := hBa
      subst hBa'
      obtain ⟨At, ct, rfl, hst⟩ := hus
      have c1 := hcs 1 _ rfl
      have Hx := Lib.hid hx
      have Hlong := Lib.hid (Long_any x.term x.term.length ct At wr hst)
      have hst' := hst.le
      obtain ⟨nt, hnt⟩ : ∃ nt, x.term.length = nt := ⟨_, rfl⟩
      have Hnt := Lib.hid hnt
      rw [hnt] at c1 Hlong hst'
      obtain ⟨lg, hlg⟩ : ∃ lg, T.long x.term = lg := ⟨_, rfl⟩
      have Hlg := Lib.hid hlg
      rw [hlg] at Hlong
      clear hx hBa hul hcs hba hst hlg hnt
      cases lg with
      | true =>
        have Ht := Lib.hid (show res = true from by
          rw [Hr.out]; unfold E.long
          rw [any_true_at Hx.out (by rw [Hlg.out]; rfl)]; rfl)
        go_wp2_with fail
        (with_reducible refine Hlong.out.mono ?_)
        rintro e w3 ⟨rfl, rfl⟩
        go_wp2_with fail
        go_ret
        exact ⟨by rw [Ht.out]; rfl, rfl⟩
      | false =>
        by_cases h60 : 60 < nt
        · have Ht := Lib.hid (show res = true from by
            rw [Hr.out]; unfold E.long
            rw [any_true_at Hx.out (by rw [Hnt.out]; simp [h60])]; rfl)
          have q : (nt : Int) > 60 := by omega
          go_wp2_with fail
          (with_reducible refine Hlong.out.mono ?_)
          rintro e w3 ⟨rfl, rfl⟩
          go_wp2_with fail
          go_ret
          exact ⟨by rw [Ht.out]; rfl, rfl⟩
        · have Ht := Lib.hid (show (l.take (j + 1)).any (fun x => T.long x.term || decide (60 < x.term.length)) = false from any_take_step Hx.out Hany.out (by rw [Hnt.out, Hlg.out]; simpa using h60))
          have q : ¬ (nt : Int) > 60 := by omega
          go_wp2_with fail
          (with_reducible refine Hlong.out.mono ?_)
          rintro e w3 ⟨rfl, rfl⟩
          go_wp2_with fail
          go_roundg (gk - 1)
          case measure => have := Hgk.out; omega
          case rel =>
            have := Hgk.out
            exact ⟨j + 1, by omega, by go_num, by omega, rfl, Ht⟩
    · obtain rfl : j = m := by omega
      have Ht := Lib.hid (show res = decide (24 < j) from by
        have := Hany.out
        rw [List.take_of_length_le (by rw [Hln.out]; exact Nat.le_refl _)] at this
        rw [Hr.out]; unfold E.long
        rw [this, Hln.out]; rfl)
      by_cases h24 : 24 < j
      · have q : (j : Int) > 24 := by omega
        go_wp2
        go_ret
        exact ⟨by rw [Ht.out, decide_eq_true h24]; rfl, rfl⟩
      · have q : ¬ (j : Int) > 24 := by omega
        go_wp2
        go_ret
        exact ⟨by rw [Ht.out, decide_eq_false h24]; rfl, rfl⟩
end Go.Proofs.Ytcmlmjbpdaecbaa
end
