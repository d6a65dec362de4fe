/- Merged: QJ12, QPlainEG. -/
import Derived.Test.YtcmlmjbpdaecbaaGreatA31
import Derived.Test.YtcmlmjbpdaecbaaGreatA20
set_option linter.unusedVariables false
set_option linter.unusedSimpArgs false
section
namespace Go.Proofs.YtcmlmjbpdaecbaaGreat
open Go.RowKit Go.MapKept Go.Maps Go.WideMaps
set_option linter.unusedVariables false
set_option linter.unusedSimpArgs false

/-- the classes of a node's operands -/
def clsOf (x : T.Nd) (l : List Int) : List Int := x.args.map fun a => l.getD a.toNat 0
theorem clsOf_at {x : T.Nd} {l : List Int} {j : Nat} {a : Int} (h : x.args[j]? = some a) : (clsOf x l)[j]? = some (l.getD a.toNat 0) := by unfold clsOf; rw [List.getElem?_map, h]; rfl
theorem take_getD {m : List Int} {j i : Nat} (h : i < j) : (m.take j).getD i (-1) = m.getD i (-1) := by
  simp only [List.getD_eq_getElem?_getD, List.getElem?_take, if_pos h]
theorem take_getD_no {m : List Int} {j i : Nat} (h : j ≤ i) : (m.take j).getD i (-1) = -1 := by
  simp only [List.getD_eq_getElem?_getD, List.getElem?_take]
  rw [if_neg (by omega)]; rfl
/-- what lies in memory within keyOf, j operands done -/
structure KO (W : World) (x : T.Nd) (Ax : Option Addr) (cx : Nat) (m : List Int) (j : Nat) (w : World) : Prop where
  bel : Below W.heap.size W w
  nd : w.heap[W.heap.size]? = some (.cells #[.int .i64 x.op, .int .i64 x.w, .int .i64 x.fl, .slice Ax x.args.length cx, .int .u32 x.imm] 63 (0, 0))
  z : w.heap[W.heap.size + 1]? = some (.cells #[.int .i64 0, .int .i64 0, .int .u32 0, .int .i64 0, .int .i64 0, .int .i64 0] 95 (0, 0))
  k : w.heap[W.heap.size + 1 + 1]? = some (.cells (opC (opL x (m.take j))) 95 (0, 0))
theorem KO.skip {W : World} {x : T.Nd} {Ax : Option Addr} {cx : Nat} {m : List Int} {j : Nat} {w : World} (h : KO W x Ax cx m j w) (hm : m.length ≤ j) : KO W x Ax cx m (j + 1) w := by
  refine ⟨h.bel, h.nd, h.z, ?_⟩
  rw [List.take_of_length_le (by omega)]
  have := h.k
  rwa [List.take_of_length_le hm] at this
theorem KO.set {W : World} {x : T.Nd} {Ax : Option Addr} {cx : Nat} {m : List Int} {j : Nat} {w : World} (h : KO W x Ax cx m j w) (hj : j < 3) {d : Int} (hd : m[j]? = some d) : KO W x Ax cx m (j + 1) (w.setCell ⟨W.heap.size + 1 + 1, 3 + j, none⟩ (.int .i64 d)) := by
  refine ⟨h.bel.setCell (p := ⟨W.heap.size + 1 + 1, 3 + j, none⟩) (by show W.heap.size ≤ W.heap.size + 1 + 1; omega) _, ?_, ?_, ?_⟩
  · exact (heap_setCell_other _ _ _ _ (by simp; omega)).trans h.nd
  · exact (heap_setCell_other _ _ _ _ (by simp)).trans h.z
  · have hmd : m.getD j (-1) = d := by rw [List.getD_eq_getElem?_getD, hd]; rfl
    have e : j = 0 ∨ j = 1 ∨ j = 2 := by omega
    rcases e with rfl | rfl | rfl
    · rw [heap_setCell_same _ _ _ _ _ _ h.k]
      simp [opC, opL, take_getD, take_getD_no, hmd, - List.getD_eq_getElem?_getD]
    · rw [heap_setCell_same _ _ _ _ _ _ h.k]
      simp [opC, opL, take_getD, take_getD_no, hmd, - List.getD_eq_getElem?_getD]
    · rw [heap_setCell_same _ _ _ _ _ _ h.k]
      simp [opC, opL, take_getD, take_getD_no, hmd, - List.getD_eq_getElem?_getD]
theorem KO.cells {W : World} {x : T.Nd} {Ax : Option Addr} {cx : Nat} {m : List Int} {j : Nat} {w : World} (h : KO W x Ax cx m j w) : w.cell? ⟨W.heap.size, 3, none⟩ = some (.slice Ax x.args.length cx) := by rw [cell_of_row _ _ _ _ _ (0, 0) h.nd]; rfl

set_option maxRecDepth 100000 in
set_option maxHeartbeats 4000000 in
theorem rkeyOf_any {x : T.Nd} {Ax : Option Addr} {cx : Nat} {l : List Int} {A : Option Addr} {n c : Nat} {W : World} (hl : x.args.length ≤ 3) (hX : SlAt (IntR .i64) W Ax x.args.length x.args) (hA : SlAt (IntR .i64) W A n l) (hr : ∀ a ∈ x.args, 0 ≤ a ∧ a < (n : Int)) :
    Calls Tryz.prog 72 #[ndV x Ax cx, .slice A n c] W fun e W' => e = .returned (opV (opL x (clsOf x l))) ∧ Below W.heap.size W W' := by
  have Hln := Lib.hid hA.len
  obtain ⟨W3, hW3⟩ : ∃ W3, W3 = ((W.alloc (.cells #[.int .i64 x.op, .int .i64 x.w, .int .i64 x.fl, .slice Ax x.args.length cx, .int .u32 x.imm] 63)).alloc (.cells #[.int .i64 0, .int .i64 0, .int .u32 0, .int .i64 0, .int .i64 0, .int .i64 0] 95)).alloc (.cells #[.int .i64 x.op, .int .i64 x.w, .int .u32 x.imm, .int .i64 (-1), .int .i64 (-1), .int .i64 (-1)] 95) := ⟨_, rfl⟩
  have hb3 : Below W.heap.size W W3 := by rw [hW3]; exact (((Below.refl _ _).alloc (Nat.le_refl _) _).alloc (by simp) _).alloc (by simp; omega) _
  have hr0 : W3.heap[W.heap.size]? = some (.cells #[.int .i64 x.op, .int .i64 x.w, .int .i64 x.fl, .slice Ax x.args.length cx, .int .u32 x.imm] 63 (0, 0)) := by rw [hW3]; exact row_alloc (row_alloc (heap_alloc_new W _) _) _
  have hr1 : W3.heap[W.heap.size + 1]? = some (.cells #[.int .i64 0, .int .i64 0, .int .u32 0, .int .i64 0, .int .i64 0, .int .i64 0] 95 (0, 0)) := by rw [hW3]; exact row_alloc (new_two W _ _) _
  have hr2 : W3.heap[W.heap.size + 1 + 1]? = some (.cells #[.int .i64 x.op, .int .i64 x.w, .int .u32 x.imm, .int .i64 (-1), .int .i64 (-1), .int .i64 (-1)] 95 (0, 0)) := by
    have := new_two (W.alloc (.cells #[.int .i64 x.op, .int .i64 x.w, .int .i64 x.fl, .slice Ax x.args.length cx, .int .u32 x.imm] 63)) (.cells #[.int .i64 0, .int .i64 0, .int .u32 0, .int .i64 0, .int .i64 0, .int .i64 0] 95) (.cells #[.int .i64 x.op, .int .i64 x.w, .int .u32 x.imm, .int .i64 (-1), .int .i64 (-1), .int .i64 (-1)] 95)
    rw [hW3]
    simpa using this
  obtain ⟨m, hm⟩ : ∃ m, m = clsOf x l := ⟨_, rfl⟩
  have Hm := Lib.hid hm
  have Hml := Lib.hid (show m.length = x.args.length from by rw [hm]; unfold clsOf; simp)
  have HK0 := Lib.hid (show KO W x Ax cx m 0 W3 from ⟨hb3, hr0, hr1, by rw [hr2]; rfl⟩)
  have HX := Lib.hid hX
  have HA := Lib.hid hA
  have Hr := Lib.hid hr
  have hxl : x.args.length ≤ 9223372036854775807 := by omega
  have hnl : n ≤ 9223372036854775807 := hA.le
  -- the cells that a step reads
  have Hst := Lib.hid (show ∀ j, j < x.args.length → ∃ (a : Nat) (d : Int) (g1 o1 g2 o2 : Nat), Ax = some ⟨g1, o1, none⟩ ∧ A = some ⟨g2, o2, none⟩ ∧ a < n ∧ m[j]? = some d ∧ ∀ X, Below W.heap.size W X → X.cell? ⟨g1, o1 + j, none⟩ = some (.int .i64 (a : Int)) ∧ X.cell? ⟨g2, o2 + a, none⟩ = some (.int .i64 d) from fun j hj => by
    obtain ⟨a, g1, o1, u, ha, e1, h1, h2, h3⟩ := hX.at_ hj
    obtain ⟨r1, r2⟩ := hr a (List.mem_of_getElem? ha)
    obtain ⟨a, rfl⟩ : ∃ k : Nat, a = k := ⟨a.toNat, by omega⟩
    have han : a < n := by omega
    obtain ⟨d, g2, o2, u', hd, e2, h4, h5, h6⟩ := hA.at_ han
    subst h3 h6
    refine ⟨a, d, g1, o1, g2, o2, e1, e2, han, ?_, fun X hX => ⟨(hX.cell (p := ⟨g1, o1 + j, none⟩) h1).trans h2, (hX.cell (p := ⟨g2, o2 + a, none⟩) h4).trans h5⟩⟩
    rw [hm, clsOf_at ha, Int.toNat_natCast, List.getD_eq_getElem?_getD, hd]; rfl)
  clear hb3 hr0 hr1 hr2 hm hX hA hr
  unfold ndV
  go_enter Tryz.func72, Tryz.ntmps72
  go_upto_region 2 with (fail)
  rw [← hW3]
  clear hW3
  -- operand 0
  have kc0 := HK0.out.cells
  go_upto_if 16 with (fail)
  clear kc0
  go_cut [4] (fun s4 wx => s4 = .pointer (some ⟨W.heap.size + 1, 0, none⟩) ∧ Hid (KO W x Ax cx m 1 wx))
  case first =>
    by_cases hj : 0 < x.args.length
    · obtain ⟨a, d, g1, o1, g2, o2, rfl, rfl, han, hd, hc⟩ := Hst.out 0 hj
      obtain ⟨c1, c2⟩ := hc _ HK0.out.bel
      rw [Nat.add_zero] at c1
      have kc := HK0.out.cells
      have kf := frozen_row HK0.out.k 3
      have ku : W3.cell? ⟨W.heap.size + 1 + 1, 3, none⟩ = some (.int .i64 (-1)) := by
        rw [cell_of_row _ _ _ _ _ (0, 0) HK0.out.k]
        simp [opC, opL, take_getD_no, - List.getD_eq_getElem?_getD]
      have q : decide ((x.args.length : Int) > 0) = true := by rw [decide_eq_true_iff]; omega
      have HK := Lib.hid (HK0.out.set (j := 0) (by decide) hd)
      have hj' : (0 : Int) < (x.args.length : Int) := by omega
      clear hd hc
      go_wp2_with fail
      go_meet
      exact ⟨rfl, HK⟩
    · have q : decide ((x.args.length : Int) > 0) = false := by rw [decide_eq_false_iff_not]; omega
      have HK := Lib.hid (HK0.out.skip (by have := Hml.out; omega))
      have hj' : ¬ (0 : Int) < (x.args.length : Int) := by omega
      clear hj
      go_wp2_with fail
      go_meet
      exact ⟨rfl, HK⟩
  case rest =>
  obtain ⟨rfl, HK1⟩ := hcut
  obtain ⟨w1, hw1⟩ : ∃ w1, w1 = wc := ⟨_, rfl⟩
  rw [← hw1] at HK1 ⊢
  clear hw1 HK0
  -- operand 1
  have kc1 := HK1.out.cells
  go_upto_if 28 with (fail)
  clear kc1
  go_cut [4] (fun s4 wx => s4 = .pointer (some ⟨W.heap.size + 1, 0, none⟩) ∧ Hid (KO W x Ax cx m 2 wx))
  case first =>
    by_cases hj : 1 < x.args.length
    · obtain ⟨a, d, g1, o1, g2, o2, rfl, rfl, han, hd, hc⟩ := Hst.out 1 hj
      obtain ⟨c1, c2⟩ := hc _ HK1.out.bel
      have kc := HK1.out.cells
      have kf := frozen_row HK1.out.k 4
      have ku : w1.cell? ⟨W.heap.size + 1 + 1, 4, none⟩ = some (.int .i64 (-1)) := by
        rw [cell_of_row _ _ _ _ _ (0, 0) HK1.out.k]
        simp [opC, opL, take_getD_no, - List.getD_eq_getElem?_getD]
      have q : decide ((x.args.length : Int) > 1) = true := by rw [decide_eq_true_iff]; omega
      have HK := Lib.hid (HK1.out.set (j := 1) (by decide) hd)
      have hj' : (1 : Int) < (x.args.length : Int) := by omega
      clear hd hc
      go_wp2_with fail
      go_meet
      exact ⟨rfl, HK⟩
    · have q : decide ((x.args.length : Int) > 1) = false := by rw [decide_eq_false_iff_not]; omega
      have HK := Lib.hid (HK1.out.skip (by have := Hml.out; omega))
      have hj' : ¬ (1 : Int) < (x.args.length : Int) := by omega
      clear hj
      go_wp2_with fail
      go_meet
      exact ⟨rfl, HK⟩
  case rest =>
  obtain ⟨rfl, HK2⟩ := hcut
  obtain ⟨w2, hw2⟩ : ∃ w2, w2 = wc := ⟨_, rfl⟩
  rw [← hw2] at HK2 ⊢
  clear hw2 HK1
  -- operand 2
  have kc2 := HK2.out.cells
  go_upto_if 40 with (fail)
  clear kc2
  go_cut [4] (fun s4 wx => s4 = .pointer (some ⟨W.heap.size + 1, 0, none⟩) ∧ Hid (KO W x Ax cx m 3 wx))
  case first =>
    by_cases hj : 2 < x.args.length
    · obtain ⟨a, d, g1, o1, g2, o2, rfl, rfl, han, hd, hc⟩ := Hst.out 2 hj
      obtain ⟨c1, c2⟩ := hc _ HK2.out.bel
      have kc := HK2.out.cells
      have kf := frozen_row HK2.out.k 5
      have ku : w2.cell? ⟨W.heap.size + 1 + 1, 5, none⟩ = some (.int .i64 (-1)) := by
        rw [cell_of_row _ _ _ _ _ (0, 0) HK2.out.k]
        simp [opC, opL, take_getD_no, - List.getD_eq_getElem?_getD]
      have q : decide ((x.args.length : Int) > 2) = true := by rw [decide_eq_true_iff]; omega
      have HK := Lib.hid (HK2.out.set (j := 2) (by decide) hd)
      have hj' : (2 : Int) < (x.args.length : Int) := by omega
      clear hd hc
      go_wp2_with fail
      go_meet
      exact ⟨rfl, HK⟩
    · have q : decide ((x.args.length : Int) > 2) = false := by rw [decide_eq_false_iff_not]; omega
      have HK := Lib.hid (HK2.out.skip (by have := Hml.out; omega))
      have hj' : ¬ (2 : Int) < (x.args.length : Int) := by omega
      clear hj
      go_wp2_with fail
      go_meet
      exact ⟨rfl, HK⟩
  case rest =>
  obtain ⟨rfl, HK3⟩ := hcut
  obtain ⟨w3, hw3⟩ : ∃ w3, w3 = wc := ⟨_, rfl⟩
  rw [← hw3] at HK3 ⊢
  clear hw3 HK2
  have hk := HK3.out.k
  rw [List.take_of_length_le (by rw [Hml.out]; exact hl)] at hk
  have hz := HK3.out.z
  unfold opC at hk
  obtain ⟨y0, y1, y2, y3, y4, y5⟩ := op6_cells hk
  have f0 := frozen_row hz 0
  have f1 := frozen_row hz 1
  have f2 := frozen_row hz 2
  have f3 := frozen_row hz 3
  have f4 := frozen_row hz 4
  have f5 := frozen_row hz 5
  obtain ⟨z0, z1, z2, z3, z4, z5⟩ := op6_cells hz
  clear hk hz
  go_wp2
  refine bodyPost_ret (results_cell_row rfl _ _ (W.heap.size + 1) 95 (opC (opL x m)) (0, 0) _ rfl (set6_row HK3.out.z _ _ _ _ _ _) Tryz.underlying95 rfl (by kernel_rfl)) rfl ?_
  exact ⟨by rw [← Hm.out]; rfl, set6_below HK3.out.bel (by omega) _ _ _ _ _ _⟩
end Go.Proofs.YtcmlmjbpdaecbaaGreat
end
section
namespace Go.Proofs.YtcmlmjbpdaecbaaGreat
set_option linter.unusedVariables false
set_option linter.unusedSimpArgs false
namespace E
open T

theorem rep2 {t u : List Nd} {la : List Int} {f : F} (r : Rep t la f) : ∀ {lb : List Int}, Rep u lb f → la.length = lb.length ∧ ∀ i, i < la.length → (t.getD (la.getD i 0).toNat default).w = (u.getD (lb.getD i 0).toNat default).w := by
  induction r with
  | nil =>
    intro lb s
    cases s
    exact ⟨rfl, fun i h => by simp at h⟩
  | @cons a la x kids rest h0 hx hk hr ih1 ih2 =>
    intro lb s
    generalize ho : x.op = o at s
    generalize hw : x.w = w at s
    generalize hf : x.fl = fl at s
    generalize hi : x.imm = im at s
    cases s with
    | @cons b lb y _ _ g0 hy hk' hr' =>
      obtain ⟨l1, l2⟩ := ih2 hr'
      refine ⟨by simp [l1], fun i hi => ?_⟩
      cases i with
      | zero =>
        simp only [List.getD_cons_zero]
        rw [List.getD_eq_getElem?_getD, List.getD_eq_getElem?_getD, hx, hy]
        exact hw
      | succ i =>
        simp only [List.getD_cons_succ]
        exact l2 i (by simpa using hi)
theorem node_match {t L : List Nd} (hc : Cov t L) (ho : Ord L) {j : Nat} {y : Nd} (hy : L[j]? = some y) : ∃ (k : Nat) (x : Nd), t[k]? = some x ∧ x.op = y.op ∧ x.w = y.w ∧ x.fl = y.fl ∧ x.imm = y.imm ∧ x.args.length = y.args.length ∧ ∀ i, i < y.args.length → wd t x i = wd L y i := by
  obtain ⟨g, hg⟩ := Rep.one ho (List.getElem?_eq_some_iff.1 hy).1
  obtain ⟨k, hk⟩ := hc _ g hg
  cases hg with
  | @cons _ _ y' kids _ g0 hy' hky hr =>
    rw [Int.toNat_natCast, hy] at hy'
    cases hy'
    generalize ho : y.op = o at hk
    generalize hw : y.w = w at hk
    generalize hf : y.fl = fl at hk
    generalize hi : y.imm = im at hk
    cases hk with
    | @cons _ _ x _ _ k0 hx hkx _ =>
      obtain ⟨r1, r2⟩ := rep2 hkx hky
      exact ⟨_, x, hx, ho.symm ▸ rfl, hw.symm ▸ rfl, hf.symm ▸ rfl, hi.symm ▸ rfl, r1, fun i h => r2 i (by omega)⟩
theorem valid_iff {t : List Nd} : valid true t = 0 ↔ 1 ≤ t.length ∧ t.length ≤ 300 ∧ (∀ i x, t[i]? = some x → shaped true i x = true) ∧ (∀ x ∈ t, typed t x = true) ∧ clashes t = false := by
  unfold valid
  rw [← shaped_all, ← List.all_eq_true]
  constructor
  · intro h
    split at h
    · omega
    · split at h
      · omega
      · split at h
        · omega
        · split at h
          · omega
          · rename_i h1 h2 h3 h4
            exact ⟨by omega, by omega, by simpa using h2, by simpa using h3, by simpa using h4⟩
  · rintro ⟨h1, h2, h3, h4, h5⟩
    rw [if_neg (by omega), if_neg (by rw [h3]; simp), if_neg (by rw [h4]; simp), if_neg (by rw [h5]; simp)]
theorem typed_of {t L : List Nd} {x y : Nd} (h1 : x.op = y.op) (h2 : x.w = y.w) (hl : (y.args.length : Int) = ar y.op) (hw : ∀ i, i < y.args.length → wd t x i = wd L y i) (h : typed t x = true) : typed L y = true := by
  unfold typed at h ⊢
  rw [h1, h2] at h
  unfold ar at hl
  split at h
  · rename_i c
    rw [if_pos c]
    rw [if_neg (by omega), if_pos (by omega)] at hl
    rwa [hw 0 (by omega), hw 1 (by omega)] at h
  · rename_i c
    rw [if_neg c]
    split at h
    · rename_i c
      rw [if_pos c]
      rw [if_neg (by omega), if_pos (by omega)] at hl
      rwa [hw 0 (by omega), hw 1 (by omega)] at h
    · rename_i c
      rw [if_neg c]
      split at h
      · rename_i c
        rw [if_pos c]
        rw [if_neg (by omega), if_neg (by omega), if_pos (by omega)] at hl
        rwa [hw 0 (by omega), hw 1 (by omega), hw 2 (by omega)] at h
      · rename_i c
        rw [if_neg c]
        split at h
        · rename_i c
          rw [if_pos c]
          rw [if_neg (by omega), if_neg (by omega), if_neg (by omega), if_pos (by omega)] at hl
          rwa [hw 0 (by omega)] at h
        · rename_i c
          rw [if_neg c]
          split at h
          · rename_i c
            rw [if_pos c]
            rw [if_neg (by omega), if_neg (by omega), if_neg (by omega), if_pos (by omega)] at hl
            rwa [hw 0 (by omega)] at h
          · rename_i c
            rw [if_neg c]
theorem no_clash {t : List Nd} (h : clashes t = false) {x y : Nd} (hx : x ∈ t) (hy : y ∈ t) : clash x y = false := by
  obtain ⟨i, hi⟩ := List.getElem?_of_mem hx
  obtain ⟨j, hj⟩ := List.getElem?_of_mem hy
  rw [clashes_iff] at h
  rcases Nat.lt_trichotomy i j with c | c | c
  · exact h i j x y c hi hj
  · subst c
    rw [hi] at hj
    cases hj
    unfold clash
    simp
  · have := h j i y x c hj hi
    unfold clash at this ⊢
    rw [Bool.eq_false_iff] at this ⊢
    intro e
    apply this
    simp only [Bool.and_eq_true, decide_eq_true_eq, Bool.not_eq_true', decide_eq_false_iff_not] at e ⊢
    obtain ⟨⟨⟨e1, e2⟩, e3⟩, e4⟩ := e
    exact ⟨⟨⟨e2, e1⟩, e3.symm⟩, fun e => e4 e.symm⟩
theorem canon_valid {t : List Nd} (h : valid true t = 0) {k : Int} {f : F} (r : Rep t [k] f) : valid true (canon f) = 0 := by
  obtain ⟨h1, h2, h3, h4, h5⟩ := valid_iff.1 h
  have hc : Cov t (canon f) := cnn_cov r List.nodup_nil ord_nil (cov_nil t)
  have ho := canon_ord f
  have hm : ∀ {j : Nat} {y : Nd}, (canon f)[j]? = some y → _ := fun hy => node_match hc ho hy
  refine valid_iff.2 ⟨(canon_root r).2, Nat.le_trans (canon_len r) h2, fun j y hy => ?_, fun y hy => ?_, ?_⟩
  · obtain ⟨k, x, hx, e1, e2, e3, e4, e5, _⟩ := hm hy
    have hs := h3 k x hx
    unfold shaped at hs ⊢
    have hio : immOk x = immOk y := by unfold immOk; rw [e1, e2, e4]
    rw [e1, e2, e3, e5, hio] at hs
    simp only [Bool.and_eq_true] at hs ⊢
    refine ⟨hs.1, ?_⟩
    unfold argsOk
    rw [List.all_eq_true]
    intro a ha
    have := ho j y hy a ha
    simpa using this
  · obtain ⟨j, hj⟩ := List.getElem?_of_mem hy
    obtain ⟨k, x, hx, e1, e2, e3, e4, e5, e6⟩ := hm hj
    have hs := h3 k x hx
    unfold shaped at hs
    simp only [Bool.and_eq_true, decide_eq_true_eq] at hs
    have hl := hs.1.1.1.2
    rw [e1, e5] at hl
    exact typed_of e1 e2 hl e6 (h4 x (List.mem_of_getElem? hx))
  · rw [clashes_iff]
    intro i j y1 y2 _ hy1 hy2
    obtain ⟨k1, x1, hx1, a1, a2, _, a4, _⟩ := hm hy1
    obtain ⟨k2, x2, hx2, b1, b2, _, b4, _⟩ := hm hy2
    have := no_clash h5 (List.mem_of_getElem? hx1) (List.mem_of_getElem? hx2)
    unfold clash at this ⊢
    rwa [a1, a2, a4, b1, b2, b4] at this
end E
end Go.Proofs.YtcmlmjbpdaecbaaGreat
end
