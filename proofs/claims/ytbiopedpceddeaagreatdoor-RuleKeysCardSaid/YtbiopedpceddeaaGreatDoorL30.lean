/- Merged: RV22, RV23, RZ1. -/
import Derived.Test.YtbiopedpceddeaaGreatDoorL29
import Derived.Deep.DeepCutAuto
set_option linter.unusedVariables false
set_option linter.unusedSimpArgs false
section
namespace Go.Proofs.YtbiopedpceddeaaGreatDoor
open Go.RowKit
set_option linter.unusedVariables false
set_option linter.unusedSimpArgs false

/-- another block turns: no block of nodes, nor of numbers -/
theorem NdF.other {B : Nat} {w w' : World} {us : List Value} {x : T.Nd} {row : Option Nat} (h : NdF B w us x) (hg : w.grownBy w' row) (hr : ∀ g cur T fr, row = some g → w.heap[g]? = some (.cells cur T fr) → T ≠ 3 ∧ T ≠ 62) : NdF B w' us x := by
  obtain ⟨A, c, h1, h2, h3, h4, h5⟩ := h
  refine ⟨A, c, h1, h2.same fun g hg' => ?_, h3, h4, h5⟩
  rcases h2.2 with ⟨e, _⟩ | ⟨g', off, cap, cur, e, hcur, _⟩
  · rw [e] at hg'; simp [Value.ownBlock] at hg'
  · rw [e] at hg'
    simp [Value.ownBlock] at hg'
    subst hg'
    exact hg.block _ (Array.getElem?_eq_some_iff.1 hcur).1 (fun e => (hr _ cur _ _ e.symm hcur).1 rfl)
theorem OwnR.other {B : Nat} {w w' : World} {v : Value} {l : List T.Nd} {row : Option Nat} (h : OwnR (NdF B) B w v l) (hg : w.grownBy w' row) (hr : ∀ g cur T fr, row = some g → w.heap[g]? = some (.cells cur T fr) → T ≠ 3 ∧ T ≠ 62) : OwnR (NdF B) B w' v l := by
  obtain ⟨cells, h1, h2, h3⟩ := h
  refine ⟨cells, h1.same fun g hg' => ?_, fun k x hx => (h2 k x hx).other hg hr, h3⟩
  rcases h1.2 with ⟨rfl, _⟩ | ⟨g', off, cap, cur, rfl, hcur, _⟩
  · simp [Value.ownBlock] at hg'
  · simp [Value.ownBlock] at hg'
    subst hg'
    exact hg.block _ (Array.getElem?_eq_some_iff.1 hcur).1 (fun e => (hr _ cur _ _ e.symm hcur).2 rfl)

namespace R
end R

end Go.Proofs.YtbiopedpceddeaaGreatDoor
end
section
namespace Go.Proofs.YtbiopedpceddeaaGreatDoor
open Go.RowKit
set_option linter.unusedVariables false
set_option linter.unusedSimpArgs false

/-- conditions in memory of the call's own -/
def OwnC (B : Nat) (w : World) (v : Value) (cs : List R.Cd) : Prop :=
  ∃ us, OwnAt w 88 3 v cs.length us ∧ (∀ (k : Nat) (x : R.Cd), cs[k]? = some x → CdR w ((us.drop (k * 3)).take 3) x) ∧ ∀ g, v.ownBlock = some g → B ≤ g
section
variable {B B' : Nat} {w w' : World} {v : Value} {cs : List R.Cd}
theorem OwnC.nil_ (B : Nat) (w : World) : OwnC B w (.slice none 0 0) [] := ⟨[], OwnAt.nil_ _ _ _, fun k l h => by simp at h, fun g h => by simp [Value.ownBlock] at h⟩
theorem OwnC.form (h : OwnC B w v cs) : ∃ A c, v = .slice A cs.length c := by
  obtain ⟨us, h1, _⟩ := h
  exact h1.form
theorem OwnC.below (h : OwnC B w v cs) (hb : Below w.heap.size w w') : OwnC B w' v cs := by
  obtain ⟨us, h1, h2, h3⟩ := h
  exact ⟨us, h1.below hb h1.lt, fun k x hx => h2 k x hx, h3⟩
theorem OwnC.weak (h : OwnC B' w v cs) (hb : B ≤ B') : OwnC B w v cs := by
  obtain ⟨us, h1, h2, h3⟩ := h
  exact ⟨us, h1, h2, fun g hg => Nat.le_trans hb (h3 g hg)⟩
theorem OwnC.stAt {A : Option Addr} {n c : Nat} (h : OwnC B w (.slice A n c) cs) (hn : cs.length = n) : StAt 3 CdR w A n cs := by
  obtain ⟨us, h1, h2, h3⟩ := h
  rw [hn] at h1
  exact h1.stAt hn h2
end

/-- a rule in memory of the call's own, from its three parts -/
structure OwnRl (B : Nat) (w : World) (v1 v2 v3 : Value) (r : R.Rl) : Prop where
  ol : OwnR (NdF B) B w v1 r.left
  or_ : OwnR (NdF B) B w v2 r.right
  op : OwnC B w v3 r.pre
theorem OwnRl.below {B : Nat} {w w' : World} {v1 v2 v3 : Value} {r : R.Rl} (h : OwnRl B w v1 v2 v3 r) (hb : Below w.heap.size w w') : OwnRl B w' v1 v2 v3 r := ⟨h.ol.below (ndF_rel _) hb, h.or_.below (ndF_rel _) hb, h.op.below hb⟩
theorem OwnRl.weak {B B' : Nat} {w : World} {v1 v2 v3 : Value} {r : R.Rl} (h : OwnRl B' w v1 v2 v3 r) (hb : B ≤ B') : OwnRl B w v1 v2 v3 r := ⟨h.ol.weak hb, h.or_.weak hb, h.op.weak hb⟩

theorem rl_cells {w : World} {g : Nat} {T : TypeId} {a0 a1 a2 : Value} (h : w.heap[g]? = some (.cells #[a0, a1, a2] T (0, 0))) : w.cell? ⟨g, 0, none⟩ = some a0 ∧ w.cell? ⟨g, 1, none⟩ = some a1 ∧ w.cell? ⟨g, 2, none⟩ = some a2 ∧ ∀ k, w.frozen? ⟨g, k, none⟩ = false := by
  refine ⟨?_, ?_, ?_, fun k => frozen_row h k⟩
  all_goals rw [cell_of_row _ _ _ _ _ (0, 0) h]; rfl
theorem OwnC.other {B : Nat} {w w' : World} {v : Value} {l : List R.Cd} {row : Option Nat} (h : OwnC B w v l) (hg : w.grownBy w' row) (hr : ∀ g cur T fr, row = some g → w.heap[g]? = some (.cells cur T fr) → T ≠ 88) : OwnC B w' v l := by
  obtain ⟨cells, h1, h2, h3⟩ := h
  refine ⟨cells, h1.same fun g hg' => ?_, h2, h3⟩
  rcases h1.2 with ⟨rfl, _⟩ | ⟨g', off, cap, cur, rfl, hcur, _⟩
  · simp [Value.ownBlock] at hg'
  · simp [Value.ownBlock] at hg'
    subst hg'
    exact hg.block _ (Array.getElem?_eq_some_iff.1 hcur).1 (fun e => hr _ cur _ _ e.symm hcur rfl)

def set3 (w : World) (g : Nat) (a0 a1 a2 : Value) : World := ((w.setCell ⟨g, 0, none⟩ a0).setCell ⟨g, 1, none⟩ a1).setCell ⟨g, 2, none⟩ a2
theorem set3_row {w : World} {g : Nat} {T : TypeId} {b0 b1 b2 : Value} (a0 a1 a2 : Value) (h : w.heap[g]? = some (.cells #[b0, b1, b2] T (0, 0))) : (set3 w g a0 a1 a2).heap[g]? = some (.cells #[a0, a1, a2] T (0, 0)) :=
  heap_setCell_same _ g 2 _ _ a2 (heap_setCell_same _ g 1 _ _ a1 (heap_setCell_same w g 0 _ _ a0 h))
theorem set3_below {B : Nat} {W w : World} {g : Nat} (a0 a1 a2 : Value) (h : Below B W w) (hg : B ≤ g) : Below B W (set3 w g a0 a1 a2) :=
  ((h.setCell (p := ⟨g, 0, none⟩) hg _).setCell (p := ⟨g, 1, none⟩) hg _).setCell (p := ⟨g, 2, none⟩) hg _
theorem set3_grown (w : World) (g : Nat) (a0 a1 a2 : Value) : w.grownBy (set3 w g a0 a1 a2) (some g) := by
  refine ⟨rfl, rfl, rfl, by simp [set3], fun k hk hn => ?_⟩
  have : k ≠ g := fun e => hn (by rw [e])
  unfold set3
  rw [heap_setCell_other _ _ _ _ this, heap_setCell_other _ _ _ _ this, heap_setCell_other _ _ _ _ this]
namespace R
end R

end Go.Proofs.YtbiopedpceddeaaGreatDoor
end
section
namespace Go.Proofs.YtbiopedpceddeaaGreatDoor
open Go.RowKit
set_option linter.unusedVariables false
set_option linter.unusedSimpArgs false

namespace T
def long (t : List Nd) : Bool := decide (400 < t.length) || t.any fun x => decide (20 < x.args.length)
end T

theorem Long_any (t : List T.Nd) (n ct : Nat) (At : Option Addr) (W : World) (hT : StAt 5 NdR W At n t) :
    Calls Tryz.prog 13 #[.slice At n ct] W fun e w' => e = .returned (.bool (T.long t)) ∧ W = w' := by
  have HT := Lib.hid hT
  have hle := hT.le
  have hln := hT.len
  by_cases h4 : 400 < n
  · have e : T.long t = true := by unfold T.long; rw [hln, decide_eq_true h4]; rfl
    rw [e]
    clear e hT hln
    go_enter Tryz.func13, Tryz.ntmps13
    go_wp2
    go_ret
    exact ⟨rfl, rfl⟩
  · have e : T.long t = t.any fun x => decide (20 < x.args.length) := by unfold T.long; rw [hln, decide_eq_false h4]; rfl
    rw [e]
    have Hln := Lib.hid hln
    obtain ⟨r, hr⟩ : ∃ r, r = t.any fun x => decide (20 < x.args.length) := ⟨_, rfl⟩
    rw [← hr]
    have Hr := Lib.hid hr
    clear e hT hln hr
    go_enter Tryz.func13, Tryz.ntmps13
    go_wp2
    go_loop [3] (fun i => ∃ j : Nat, j ≤ n ∧ i = .int .i64 (j : Int) ∧ Hid ((t.take j).any (fun x => decide (20 < x.args.length)) = false)) (fun i => n - (intOf i).toNat)
    case atStart => exact ⟨0, Nat.zero_le _, rfl, Lib.hid rfl⟩
    case round =>
      obtain ⟨j, hj, rfl, Hany⟩ := hrel
      by_cases hlt : j < n
      · obtain ⟨x, b, off, A, c, hx, rfl, hb, _, _, _, h3, _, hs, _, _⟩ := nd_cells HT.out hlt
        have hle3 := hs.le
        by_cases h20 : 20 < x.args.length
        · have Ht := Lib.hid (show r = true from by rw [Hr.out]; exact any_true_at hx (by simpa using h20))
          clear hx hs hb
          go_wp2
          go_ret
          exact ⟨by rw [Ht.out]; rfl, rfl⟩
        · have Ht := Lib.hid (show (t.take (j + 1)).any (fun x => decide (20 < x.args.length)) = false from any_take_step hx Hany.out (by simpa using h20))
          clear hx hs hb
          go_wp2
          go_round
          case rel => exact ⟨j + 1, by omega, by go_num, Ht⟩
          case measure => simp [intOf]; omega
      · obtain rfl : j = n := by omega
        have Ht := Lib.hid (show r = false from by
          have := Hany.out
          rw [List.take_of_length_le (by rw [Hln.out]; exact Nat.le_refl _)] at this
          rw [Hr.out]; exact this)
        go_wp2
        go_ret
        exact ⟨by rw [Ht.out]; rfl, rfl⟩

theorem SameInts_any (A B : Option Addr) (n m c d : Nat) (xs ys : List Int) (W : World) (hA : SlAt (IntR .i64) W A n xs) (hB : SlAt (IntR .i64) W B m ys) :
    Calls Tryz.prog 154 #[.slice A n c, .slice B m d] W fun e w' => e = .returned (.bool (decide (xs = ys))) ∧ Dr W w' := by
  have HA := Lib.hid hA
  have HB := Lib.hid hB
  have h1 := hA.le
  have h2 := hB.le
  have Hl1 := Lib.hid hA.len
  have Hl2 := Lib.hid hB.len
  clear hA hB
  obtain ⟨r, hr⟩ : ∃ r, r = decide (xs = ys) := ⟨_, rfl⟩
  rw [← hr]
  have Hr := Lib.hid hr
  clear hr
  by_cases hnm : n = m
  · subst hnm
    have q : ((n : Int) != (n : Int)) = false := by simp
    go_enter Tryz.func154, Tryz.ntmps154
    go_wp2
    go_loopg [5] (n + 1) (fun g i wr => ∃ j : Nat, j ≤ n ∧ i = .int .i64 (j : Int) ∧ g + j = n + 1 ∧ Hid (xs.take j = ys.take j) ∧ Hid (Dr W wr))
    case atStart => exact ⟨0, Nat.zero_le _, rfl, rfl, Lib.hid rfl, Lib.hid (Dr.refl _)⟩
    case round =>
      obtain ⟨j, hj, rfl, hgk, Heq, HD⟩ := hrel
      have Hgk := Lib.hid hgk; clear hgk
      by_cases hlt : j < n
      · obtain ⟨x, b, off, u, hx, rfl, hb, hc, hu⟩ := (HA.out.dr (monoInt _) HD.out).at_ hlt
        obtain rfl : u = .int .i64 x := hu
        obtain ⟨y, b2, off2, u2, hy, rfl, hb2, hc2, hu2⟩ := (HB.out.dr (monoInt _) HD.out).at_ hlt
        obtain rfl : u2 = .int .i64 y := hu2
        by_cases hxy : x = y
        · have Ht := Lib.hid (show xs.take (j + 1) = ys.take (j + 1) from by rw [K.take_succ_at hx, K.take_succ_at hy, Heq.out, hxy])
          have q : (x != y) = false := by simpa using hxy
          clear hx hy hb hb2 hxy
          go_wp2
          go_quiet (fail)
          generalize hW3 : wr.drewN _ = w3
          have Hd3 := Lib.hid (HD.out.trans ⟨_, hW3.symm⟩)
          clear hW3 hc hc2
          go_wp2
          go_roundg (gk - 1)
          case measure => have := Hgk.out; omega
          case rel => have := Hgk.out; exact ⟨j + 1, by omega, by go_num, by omega, Ht, Hd3⟩
        · have Ht := Lib.hid (show r = false from by
            rw [Hr.out, decide_eq_false_iff_not]
            intro e
            subst e
            rw [hx] at hy
            exact hxy (Option.some.inj hy))
          have q : (x != y) = true := by simpa using hxy
          clear hx hy hb hb2 hxy
          go_wp2
          go_quiet (fail)
          generalize hW3 : wr.drewN _ = w3
          have Hd3 := Lib.hid (HD.out.trans ⟨_, hW3.symm⟩)
          clear hW3 hc hc2
          go_wp2
          go_ret
          exact ⟨by rw [Ht.out]; rfl, Hd3.out⟩
      · obtain rfl : j = n := by omega
        have Ht := Lib.hid (show r = true from by
          have := Heq.out
          rw [List.take_of_length_le (by rw [Hl1.out]; exact Nat.le_refl _), List.take_of_length_le (by rw [Hl2.out]; exact Nat.le_refl _)] at this
          rw [Hr.out, decide_eq_true this])
        go_wp2
        go_ret
        exact ⟨by rw [Ht.out]; rfl, HD.out⟩
  · have Ht := Lib.hid (show r = false from by
      rw [Hr.out, decide_eq_false_iff_not]
      intro e
      exact hnm (by rw [← Hl1.out, ← Hl2.out, e]))
    have q : ((n : Int) != (m : Int)) = true := by rw [bne_iff_ne]; omega
    clear hnm
    go_enter Tryz.func154, Tryz.ntmps154
    go_wp2
    go_ret
    exact ⟨by rw [Ht.out]; rfl, Dr.refl _⟩

set_option maxRecDepth 100000 in
set_option maxHeartbeats 2000000 in
theorem rsameNode_any {x y : T.Nd} {A A' : Option Addr} {c c' : Nat} {W : World} (hx : SlAt (IntR .i64) W A x.args.length x.args) (hy : SlAt (IntR .i64) W A' y.args.length y.args) :
    Calls Tryz.prog 97 #[ndV x A c, ndV y A' c'] W fun e W' => e = .returned (.bool (decide (x = y))) ∧ Below W.heap.size W W' := by
  obtain ⟨W2, hW2⟩ : ∃ W2, W2 = (W.alloc (.cells #[.int .i64 x.op, .int .i64 x.w, .int .i64 x.fl, .slice A x.args.length c, .int .u32 x.imm] 62)).alloc (.cells #[.int .i64 y.op, .int .i64 y.w, .int .i64 y.fl, .slice A' y.args.length c', .int .u32 y.imm] 62) := ⟨_, rfl⟩
  have hb2 : Below W.heap.size W W2 := by rw [hW2]; exact ((Below.refl _ _).alloc (Nat.le_refl _) _).alloc (by simp) _
  have hrx : W2.heap[W.heap.size]? = some (.cells #[.int .i64 x.op, .int .i64 x.w, .int .i64 x.fl, .slice A x.args.length c, .int .u32 x.imm] 62 (0, 0)) := by rw [hW2]; exact row_alloc (heap_alloc_new W _) _
  have hry : W2.heap[W.heap.size + 1]? = some (.cells #[.int .i64 y.op, .int .i64 y.w, .int .i64 y.fl, .slice A' y.args.length c', .int .u32 y.imm] 62 (0, 0)) := by rw [hW2]; exact new_two W _ _
  have Heq := Lib.hid (SameInts_any A A' _ _ c c' _ _ W2 (hx.below (monoInt _) hb2) (hy.below (monoInt _) hb2))
  obtain ⟨op, w, fl, args, imm⟩ := x
  obtain ⟨op', w', fl', args', imm'⟩ := y
  dsimp only at *
  obtain ⟨x0, x1, x2, x3, x4⟩ := nd5_cells hrx
  obtain ⟨y0, y1, y2, y3, y4⟩ := nd5_cells hry
  have Hb2 := Lib.hid hb2
  unfold ndV
  dsimp only
  rw [hW2] at x0 x1 x2 x3 x4 y0 y1 y2 y3 y4
  obtain ⟨r, hr⟩ : ∃ r, decide (args = args') = r := ⟨_, rfl⟩
  rw [hr] at Heq
  have Hr := Lib.hid hr
  subst hW2
  clear hx hy hb2 hrx hry hr
  by_cases e0 : op = op'
  rotate_left
  · have q : (op == op') = false := by simpa using e0
    have Hne := Lib.hid (show decide ((⟨op, w, fl, args, imm⟩ : T.Nd) = ⟨op', w', fl', args', imm'⟩) = false from by simp [e0])
    clear e0 Heq
    go_enter Tryz.func97, Tryz.ntmps97
    go_wp2
    go_ret
    exact ⟨ret_bool Hne.out.symm, Hb2.out⟩
  subst e0
  have q0 : (op == op) = true := by simp
  by_cases e1 : w = w'
  rotate_left
  · have q : (w == w') = false := by simpa using e1
    have Hne := Lib.hid (show decide ((⟨op, w, fl, args, imm⟩ : T.Nd) = ⟨op, w', fl', args', imm'⟩) = false from by simp [e1])
    clear e1 Heq
    go_enter Tryz.func97, Tryz.ntmps97
    go_wp2
    go_ret
    exact ⟨ret_bool Hne.out.symm, Hb2.out⟩
  subst e1
  have q1 : (w == w) = true := by simp
  by_cases e2 : fl = fl'
  rotate_left
  · have q : (fl == fl') = false := by simpa using e2
    have Hne := Lib.hid (show decide ((⟨op, w, fl, args, imm⟩ : T.Nd) = ⟨op, w, fl', args', imm'⟩) = false from by simp [e2])
    clear e2 Heq
    go_enter Tryz.func97, Tryz.ntmps97
    go_wp2
    go_ret
    exact ⟨ret_bool Hne.out.symm, Hb2.out⟩
  subst e2
  have q2 : (fl == fl) = true := by simp
  by_cases e3 : imm = imm'
  rotate_left
  · have q : (imm == imm') = false := by simpa using e3
    have Hne := Lib.hid (show decide ((⟨op, w, fl, args, imm⟩ : T.Nd) = ⟨op, w, fl, args', imm'⟩) = false from by simp [e3])
    clear e3 Heq
    go_enter Tryz.func97, Tryz.ntmps97
    go_wp2
    go_ret
    exact ⟨ret_bool Hne.out.symm, Hb2.out⟩
  subst e3
  have q3 : (imm == imm) = true := by simp
  have Hd := Lib.hid (show decide ((⟨op, w, fl, args, imm⟩ : T.Nd) = ⟨op, w, fl, args', imm⟩) = r from by rw [← Hr.out]; simp)
  go_enter Tryz.func97, Tryz.ntmps97
  go_wp2_with fail
  (with_reducible refine Heq.out.mono ?_)
  rintro e w3 ⟨rfl, hb3⟩
  have Hb3 := Lib.hid (Hb2.out.dr hb3)
  clear hb3 x0 x1 x2 x3 x4 y0 y1 y2 y3 y4
  go_wp2
  go_ret
  exact ⟨ret_bool Hd.out.symm, Hb3.out⟩

set_option maxRecDepth 100000 in
set_option maxHeartbeats 2000000 in
theorem SameNodes_any {t u : List T.Nd} {A A' : Option Addr} {n n' c c' : Nat} {W : World} (hx : StAt 5 NdR W A n t) (hy : StAt 5 NdR W A' n' u) :
    Calls Tryz.prog 43 #[.slice A n c, .slice A' n' c'] W fun e W' => e = .returned (.bool (decide (t = u))) ∧ Below W.heap.size W W' := by
  have hlx := hx.len
  have hly := hy.len
  have hlex := hx.le
  have hley := hy.le
  have HX := Lib.hid hx
  have HY := Lib.hid hy
  have Hlx := Lib.hid hlx
  have Hly := Lib.hid hly
  clear hx hy hlx hly
  by_cases hn : n = n'
  rotate_left
  · have q : ((n : Int) != (n' : Int)) = true := by simp; omega
    have Hne := Lib.hid (show decide (t = u) = false from by simp; rintro rfl; exact hn (Hlx.out.symm.trans Hly.out))
    clear hn
    go_enter Tryz.func43, Tryz.ntmps43
    go_wp2
    go_ret
    exact ⟨ret_bool Hne.out.symm, Below.refl _ _⟩
  subst hn
  have q : ((n : Int) != (n : Int)) = false := by simp
  go_enter Tryz.func43, Tryz.ntmps43
  go_wp2
  clear q
  go_loopg [5] (n + 1) (fun gg i wr => ∃ (j : Nat), j ≤ n ∧ i = .int .i64 (j : Int) ∧ gg + j = n + 1 ∧ Hid (Below W.heap.size W wr) ∧ Hid (t.take j = u.take j))
  case atStart => exact ⟨0, Nat.zero_le _, rfl, rfl, Lib.hid (Below.refl _ _), Lib.hid rfl⟩
  case round =>
    obtain ⟨j, hj, rfl, hgk, Hbw, HO⟩ := hrel
    have Hgk := Lib.hid hgk; clear hgk
    by_cases hjn : j < n
    · obtain ⟨x, b, off, Ax, cx, ex, rfl, hb, h0, h1, h2, h3, h4, hs, i0, i1⟩ := nd_cells HX.out hjn
      obtain ⟨y, b', off', Ay, cy, ey, rfl, hb', h0', h1', h2', h3', h4', hs', i0', i1'⟩ := nd_cells HY.out hjn
      have hbel := Hbw.out
      have k0 := (hbel.cell (p := ⟨b, off + j * 5, none⟩) hb).trans h0
      have k1 := (hbel.cell (p := ⟨b, off + j * 5 + 1, none⟩) hb).trans h1
      have k2 := (hbel.cell (p := ⟨b, off + j * 5 + 2, none⟩) hb).trans h2
      have k3 := (hbel.cell (p := ⟨b, off + j * 5 + 3, none⟩) hb).trans h3
      have k4 := (hbel.cell (p := ⟨b, off + j * 5 + 4, none⟩) hb).trans h4
      have l0 := (hbel.cell (p := ⟨b', off' + j * 5, none⟩) hb').trans h0'
      have l1 := (hbel.cell (p := ⟨b', off' + j * 5 + 1, none⟩) hb').trans h1'
      have l2 := (hbel.cell (p := ⟨b', off' + j * 5 + 2, none⟩) hb').trans h2'
      have l3 := (hbel.cell (p := ⟨b', off' + j * 5 + 3, none⟩) hb').trans h3'
      have l4 := (hbel.cell (p := ⟨b', off' + j * 5 + 4, none⟩) hb').trans h4'
      obtain ⟨r, hr⟩ : ∃ r, decide (x = y) = r := ⟨_, rfl⟩
      have Hr := Lib.hid hr
      obtain ⟨ov⟩ := ov_ex wr
      have HQ := Lib.hid (show ∀ z, Calls Tryz.prog 97 #[.agg #[.int .i64 x.op, .int .i64 x.w, .int .i64 x.fl, .slice Ax x.args.length cx, .int .u32 x.imm], .agg #[.int .i64 y.op, .int .i64 y.w, .int .i64 y.fl, .slice Ay y.args.length cy, .int .u32 y.imm]] (ov.f z) (fun e w' => e = .returned (.bool r) ∧ ∃ m, w' = ov.f m) from fun z => by
        have := rsameNode_any (x := x) (y := y) (c := cx) (c' := cy) (W := ov.f z) ((hs.below (monoInt _) hbel).below (monoInt _) (ov.below z)) ((hs'.below (monoInt _) hbel).below (monoInt _) (ov.below z))
        rw [hr] at this
        exact calls_over this)
      have o0 := ov.cell k0
      have o1 := ov.cell k1
      have o2 := ov.cell k2
      have o3 := ov.cell k3
      have o4 := ov.cell k4
      have p0 := ov.cell l0
      have p1 := ov.cell l1
      have p2 := ov.cell l2
      have p3 := ov.cell l3
      have p4 := ov.cell l4
      have Hex := Lib.hid ex
      have Hey := Lib.hid ey
      clear h0 h1 h2 h3 h4 h0' h1' h2' h3' h4' hs hs' i0 i1 i0' i1' hbel hb hb' ex ey hr
      cases r
      · go_wp2
        refine wp_region_ovq ov (by kernel_rfl) (by kernel_rfl) ?_
        repeat (go_big_quiet_step ((go_at_call 97; with_reducible exact HQ.out _)))
        refine wpQuiet_nil ?_
        rintro _ ⟨z, rfl⟩
        have Hb3 := Lib.hid (Hbw.out.trans ((ov.below z).mono Hbw.out.size))
        have Hne := Lib.hid (show decide (t = u) = false from by
          simp
          rintro rfl
          have e := Option.some.inj (Hex.out.symm.trans Hey.out)
          have := Hr.out
          simp [e] at this)
        clear o0 o1 o2 o3 o4 p0 p1 p2 p3 p4 k0 k1 k2 k3 k4 l0 l1 l2 l3 l4
        generalize ov.f z = w3 at *
        go_wp2
        go_ret
        exact ⟨ret_bool Hne.out.symm, Hb3.out⟩
      · go_wp2
        refine wp_region_ovq ov (by kernel_rfl) (by kernel_rfl) ?_
        repeat (go_big_quiet_step ((go_at_call 97; with_reducible exact HQ.out _)))
        refine wpQuiet_nil ?_
        rintro _ ⟨z, rfl⟩
        have Hb3 := Lib.hid (Hbw.out.trans ((ov.below z).mono Hbw.out.size))
        have Hst := Lib.hid (show t.take (j + 1) = u.take (j + 1) from by
          have e : x = y := of_decide_eq_true Hr.out
          exact take_eq_step HO.out Hex.out (e ▸ Hey.out))
        clear o0 o1 o2 o3 o4 p0 p1 p2 p3 p4 k0 k1 k2 k3 k4 l0 l1 l2 l3 l4
        generalize ov.f z = w3 at *
        go_wp2
        go_roundg (gk - 1)
        case measure => have := Hgk.out; omega
        case rel =>
          have := Hgk.out
          exact ⟨j + 1, by omega, by go_num, by omega, Hb3, Hst⟩
    · obtain rfl : j = n := by omega
      have he := HO.out
      rw [List.take_of_length_le (by rw [Hlx.out]; exact Nat.le_refl _), List.take_of_length_le (by rw [Hly.out]; exact Nat.le_refl _)] at he
      have Heq := Lib.hid (show decide (t = u) = true from by simpa using he)
      clear he
      go_wp2
      go_ret
      exact ⟨ret_bool Heq.out.symm, Hbw.out⟩
end Go.Proofs.YtbiopedpceddeaaGreatDoor
end
