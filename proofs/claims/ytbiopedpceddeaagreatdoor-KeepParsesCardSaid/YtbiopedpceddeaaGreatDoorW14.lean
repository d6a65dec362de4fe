/- Merged: C4V20, C4V22, C4V23, C4Z1, C4Z2. -/
import Derived.Test.YtbiopedpceddeaaGreatDoorW12
import Derived.Test.YtbiopedpceddeaaGreatDoorW13
import Derived.Deep.DeepCutAuto
set_option linter.unusedVariables false
set_option linter.unusedSimpArgs false
section
namespace Go.Proofs.YtbiopedpceddeaaGreatDoor
open Go.RowKit Go.MapKept Go.Maps Go.WideMaps
set_option linter.unusedVariables false
set_option linter.unusedSimpArgs false

/-- a rule that came in -/
structure RlAt (W : World) (r : R.Rl) (nl nr np : Nat) (AL AR AP : Option Addr) : Prop where
  sl : StAt 5 NdR W AL nl r.left
  sr : StAt 5 NdR W AR nr r.right
  sp : StAt 3 CdR W AP np r.pre
  fl : R.flr r.left
  fr : R.flr r.right
theorem RlAt.below {W W' : World} {r : R.Rl} {nl nr np : Nat} {AL AR AP : Option Addr} (h : RlAt W r nl nr np AL AR AP) (hb : Below W.heap.size W W') : RlAt W' r nl nr np AL AR AP := ⟨h.sl.below monoNd hb, h.sr.below monoNd hb, h.sp.below monoCd hb, h.fl, h.fr⟩

theorem NdF.weak {B B' : Nat} {w : World} {us : List Value} {x : T.Nd} (h : NdF B' w us x) (hb : B ≤ B') : NdF B w us x := by
  obtain ⟨A, c, h1, h2, h3, h4, h5⟩ := h
  exact ⟨A, c, h1, h2, h3, h4, fun g hg => Nat.le_trans hb (h5 g hg)⟩
theorem OwnR.weak {B B' : Nat} {w : World} {v : Value} {l : List T.Nd} (h : OwnR (NdF B') B' w v l) (hb : B ≤ B') : OwnR (NdF B) B w v l := by
  obtain ⟨cells, h1, h2, h3⟩ := h
  exact ⟨cells, h1, fun k x hx => (h2 k x hx).weak hb, fun g hg => Nat.le_trans hb (h3 g hg)⟩

end Go.Proofs.YtbiopedpceddeaaGreatDoor
end
section
namespace Go.Proofs.YtbiopedpceddeaaGreatDoor
open Go.RowKit
set_option linter.unusedVariables false
set_option linter.unusedSimpArgs false

/-- another block turns: no block of nodes, nor of numbers -/
theorem NdF.other {B : Nat} {w w' : World} {us : List Value} {x : T.Nd} {row : Option Nat} (h : NdF B w us x) (hg : w.grownBy w' row) (hr : ∀ g cur T fr, row = some g → w.heap[g]? = some (.cells cur T fr) → T ≠ 3 ∧ T ≠ 62) : NdF B w' us x := by
  obtain ⟨A, c, h1, h2, h3, h4, h5⟩ := h
  refine ⟨A, c, h1, h2.same fun g hg' => ?_, h3, h4, h5⟩
  rcases h2.2 with ⟨e, _⟩ | ⟨g', off, cap, cur, e, hcur, _⟩
  · rw [e] at hg'; simp [Value.ownBlock] at hg'
  · rw [e] at hg'
    simp [Value.ownBlock] at hg'
    subst hg'
    exact hg.block _ (Array.getElem?_eq_some_iff.1 hcur).1 (fun e => (hr _ cur _ _ e.symm hcur).1 rfl)
theorem OwnR.other {B : Nat} {w w' : World} {v : Value} {l : List T.Nd} {row : Option Nat} (h : OwnR (NdF B) B w v l) (hg : w.grownBy w' row) (hr : ∀ g cur T fr, row = some g → w.heap[g]? = some (.cells cur T fr) → T ≠ 3 ∧ T ≠ 62) : OwnR (NdF B) B w' v l := by
  obtain ⟨cells, h1, h2, h3⟩ := h
  refine ⟨cells, h1.same fun g hg' => ?_, fun k x hx => (h2 k x hx).other hg hr, h3⟩
  rcases h1.2 with ⟨rfl, _⟩ | ⟨g', off, cap, cur, rfl, hcur, _⟩
  · simp [Value.ownBlock] at hg'
  · simp [Value.ownBlock] at hg'
    subst hg'
    exact hg.block _ (Array.getElem?_eq_some_iff.1 hcur).1 (fun e => (hr _ cur _ _ e.symm hcur).2 rfl)

namespace R
end R

end Go.Proofs.YtbiopedpceddeaaGreatDoor
end
section
namespace Go.Proofs.YtbiopedpceddeaaGreatDoor
open Go.RowKit
set_option linter.unusedVariables false
set_option linter.unusedSimpArgs false

/-- conditions in memory of the call's own -/
def OwnC (B : Nat) (w : World) (v : Value) (cs : List R.Cd) : Prop :=
  ∃ us, OwnAt w 88 3 v cs.length us ∧ (∀ (k : Nat) (x : R.Cd), cs[k]? = some x → CdR w ((us.drop (k * 3)).take 3) x) ∧ ∀ g, v.ownBlock = some g → B ≤ g
section
variable {B B' : Nat} {w w' : World} {v : Value} {cs : List R.Cd}
theorem OwnC.nil_ (B : Nat) (w : World) : OwnC B w (.slice none 0 0) [] := ⟨[], OwnAt.nil_ _ _ _, fun k l h => by simp at h, fun g h => by simp [Value.ownBlock] at h⟩
theorem OwnC.form (h : OwnC B w v cs) : ∃ A c, v = .slice A cs.length c := by
  obtain ⟨us, h1, _⟩ := h
  exact h1.form
theorem OwnC.below (h : OwnC B w v cs) (hb : Below w.heap.size w w') : OwnC B w' v cs := by
  obtain ⟨us, h1, h2, h3⟩ := h
  exact ⟨us, h1.below hb h1.lt, fun k x hx => h2 k x hx, h3⟩
theorem OwnC.weak (h : OwnC B' w v cs) (hb : B ≤ B') : OwnC B w v cs := by
  obtain ⟨us, h1, h2, h3⟩ := h
  exact ⟨us, h1, h2, fun g hg => Nat.le_trans hb (h3 g hg)⟩
theorem OwnC.stAt {A : Option Addr} {n c : Nat} (h : OwnC B w (.slice A n c) cs) (hn : cs.length = n) : StAt 3 CdR w A n cs := by
  obtain ⟨us, h1, h2, h3⟩ := h
  rw [hn] at h1
  exact h1.stAt hn h2
end

/-- a rule in memory of the call's own, from its three parts -/
structure OwnRl (B : Nat) (w : World) (v1 v2 v3 : Value) (r : R.Rl) : Prop where
  ol : OwnR (NdF B) B w v1 r.left
  or_ : OwnR (NdF B) B w v2 r.right
  op : OwnC B w v3 r.pre
theorem OwnRl.nil_ (B : Nat) (w : World) : OwnRl B w (.slice none 0 0) (.slice none 0 0) (.slice none 0 0) ⟨[], [], []⟩ := ⟨OwnR.nil_ _ _ _, OwnR.nil_ _ _ _, OwnC.nil_ _ _⟩
theorem OwnRl.below {B : Nat} {w w' : World} {v1 v2 v3 : Value} {r : R.Rl} (h : OwnRl B w v1 v2 v3 r) (hb : Below w.heap.size w w') : OwnRl B w' v1 v2 v3 r := ⟨h.ol.below (ndF_rel _) hb, h.or_.below (ndF_rel _) hb, h.op.below hb⟩
theorem OwnRl.weak {B B' : Nat} {w : World} {v1 v2 v3 : Value} {r : R.Rl} (h : OwnRl B' w v1 v2 v3 r) (hb : B ≤ B') : OwnRl B w v1 v2 v3 r := ⟨h.ol.weak hb, h.or_.weak hb, h.op.weak hb⟩

theorem rl_cells {w : World} {g : Nat} {T : TypeId} {a0 a1 a2 : Value} (h : w.heap[g]? = some (.cells #[a0, a1, a2] T (0, 0))) : w.cell? ⟨g, 0, none⟩ = some a0 ∧ w.cell? ⟨g, 1, none⟩ = some a1 ∧ w.cell? ⟨g, 2, none⟩ = some a2 ∧ ∀ k, w.frozen? ⟨g, k, none⟩ = false := by
  refine ⟨?_, ?_, ?_, fun k => frozen_row h k⟩
  all_goals rw [cell_of_row _ _ _ _ _ (0, 0) h]; rfl
theorem OwnC.other {B : Nat} {w w' : World} {v : Value} {l : List R.Cd} {row : Option Nat} (h : OwnC B w v l) (hg : w.grownBy w' row) (hr : ∀ g cur T fr, row = some g → w.heap[g]? = some (.cells cur T fr) → T ≠ 88) : OwnC B w' v l := by
  obtain ⟨cells, h1, h2, h3⟩ := h
  refine ⟨cells, h1.same fun g hg' => ?_, h2, h3⟩
  rcases h1.2 with ⟨rfl, _⟩ | ⟨g', off, cap, cur, rfl, hcur, _⟩
  · simp [Value.ownBlock] at hg'
  · simp [Value.ownBlock] at hg'
    subst hg'
    exact hg.block _ (Array.getElem?_eq_some_iff.1 hcur).1 (fun e => hr _ cur _ _ e.symm hcur rfl)

def set3 (w : World) (g : Nat) (a0 a1 a2 : Value) : World := ((w.setCell ⟨g, 0, none⟩ a0).setCell ⟨g, 1, none⟩ a1).setCell ⟨g, 2, none⟩ a2
theorem set3_row {w : World} {g : Nat} {T : TypeId} {b0 b1 b2 : Value} (a0 a1 a2 : Value) (h : w.heap[g]? = some (.cells #[b0, b1, b2] T (0, 0))) : (set3 w g a0 a1 a2).heap[g]? = some (.cells #[a0, a1, a2] T (0, 0)) :=
  heap_setCell_same _ g 2 _ _ a2 (heap_setCell_same _ g 1 _ _ a1 (heap_setCell_same w g 0 _ _ a0 h))
theorem set3_below {B : Nat} {W w : World} {g : Nat} (a0 a1 a2 : Value) (h : Below B W w) (hg : B ≤ g) : Below B W (set3 w g a0 a1 a2) :=
  ((h.setCell (p := ⟨g, 0, none⟩) hg _).setCell (p := ⟨g, 1, none⟩) hg _).setCell (p := ⟨g, 2, none⟩) hg _
theorem set3_grown (w : World) (g : Nat) (a0 a1 a2 : Value) : w.grownBy (set3 w g a0 a1 a2) (some g) := by
  refine ⟨rfl, rfl, rfl, by simp [set3], fun k hk hn => ?_⟩
  have : k ≠ g := fun e => hn (by rw [e])
  unfold set3
  rw [heap_setCell_other _ _ _ _ this, heap_setCell_other _ _ _ _ this, heap_setCell_other _ _ _ _ this]
theorem OwnRl.set3 {B g : Nat} {w : World} {v1 v2 v3 b0 b1 b2 : Value} {r : R.Rl} (h : OwnRl B w v1 v2 v3 r) (a0 a1 a2 : Value) (hr : w.heap[g]? = some (.cells #[b0, b1, b2] 33 (0, 0))) : OwnRl B (set3 w g a0 a1 a2) v1 v2 v3 r := by
  have hg := set3_grown w g a0 a1 a2
  have key : ∀ g' cur T fr, some g = some g' → w.heap[g']? = some (.cells cur T fr) → T = 33 := fun g' cur T fr e hc => by
    injection e with e
    subst e
    rw [hr] at hc
    injection hc with hc
    injection hc with _ hc _
    exact hc.symm
  exact ⟨h.ol.other hg fun g' cur T fr e hc => by rw [key g' cur T fr e hc]; exact ⟨by decide, by decide⟩, h.or_.other hg fun g' cur T fr e hc => by rw [key g' cur T fr e hc]; exact ⟨by decide, by decide⟩, h.op.other hg fun g' cur T fr e hc => by rw [key g' cur T fr e hc]; decide⟩

namespace R
end R

end Go.Proofs.YtbiopedpceddeaaGreatDoor
end
section
namespace Go.Proofs.YtbiopedpceddeaaGreatDoor
open Go.RowKit
set_option linter.unusedVariables false
set_option linter.unusedSimpArgs false

namespace T
def long (t : List Nd) : Bool := decide (400 < t.length) || t.any fun x => decide (20 < x.args.length)
end T

theorem Long_any (t : List T.Nd) (n ct : Nat) (At : Option Addr) (W : World) (hT : StAt 5 NdR W At n t) :
    Calls Tryz.prog 13 #[.slice At n ct] W fun e w' => e = .returned (.bool (T.long t)) ∧ W = w' := by
  have HT := Lib.hid hT
  have hle := hT.le
  have hln := hT.len
  by_cases h4 : 400 < n
  · have e : T.long t = true := by unfold T.long; rw [hln, decide_eq_true h4]; rfl
    rw [e]
    clear e hT hln
    go_enter Tryz.func13, Tryz.ntmps13
    go_wp2
    go_ret
    exact ⟨rfl, rfl⟩
  · have e : T.long t = t.any fun x => decide (20 < x.args.length) := by unfold T.long; rw [hln, decide_eq_false h4]; rfl
    rw [e]
    have Hln := Lib.hid hln
    obtain ⟨r, hr⟩ : ∃ r, r = t.any fun x => decide (20 < x.args.length) := ⟨_, rfl⟩
    rw [← hr]
    have Hr := Lib.hid hr
    clear e hT hln hr
    go_enter Tryz.func13, Tryz.ntmps13
    go_wp2
    go_loop [3] (fun i => ∃ j : Nat, j ≤ n ∧ i = .int .i64 (j : Int) ∧ Hid ((t.take j).any (fun x => decide (20 < x.args.length)) = false)) (fun i => n - (intOf i).toNat)
    case atStart => exact ⟨0, Nat.zero_le _, rfl, Lib.hid rfl⟩
    case round =>
      obtain ⟨j, hj, rfl, Hany⟩ := hrel
      by_cases hlt : j < n
      · obtain ⟨x, b, off, A, c, hx, rfl, hb, _, _, _, h3, _, hs, _, _⟩ := nd_cells HT.out hlt
        have hle3 := hs.le
        by_cases h20 : 20 < x.args.length
        · have Ht := Lib.hid (show r = true from by rw [Hr.out]; exact any_true_at hx (by simpa using h20))
          clear hx hs hb
          go_wp2
          go_ret
          exact ⟨by rw [Ht.out]; rfl, rfl⟩
        · have Ht := Lib.hid (show (t.take (j + 1)).any (fun x => decide (20 < x.args.length)) = false from any_take_step hx Hany.out (by simpa using h20))
          clear hx hs hb
          go_wp2
          go_round
          case rel => exact ⟨j + 1, by omega, by go_num, Ht⟩
          case measure => simp [intOf]; omega
      · obtain rfl : j = n := by omega
        have Ht := Lib.hid (show r = false from by
          have := Hany.out
          rw [List.take_of_length_le (by rw [Hln.out]; exact Nat.le_refl _)] at this
          rw [Hr.out]; exact this)
        go_wp2
        go_ret
        exact ⟨by rw [Ht.out]; rfl, rfl⟩

theorem SameInts_any (A B : Option Addr) (n m c d : Nat) (xs ys : List Int) (W : World) (hA : SlAt (IntR .i64) W A n xs) (hB : SlAt (IntR .i64) W B m ys) :
    Calls Tryz.prog 154 #[.slice A n c, .slice B m d] W fun e w' => e = .returned (.bool (decide (xs = ys))) ∧ Dr W w' := by
  have HA := Lib.hid hA
  have HB := Lib.hid hB
  have h1 := hA.le
  have h2 := hB.le
  have Hl1 := Lib.hid hA.len
  have Hl2 := Lib.hid hB.len
  clear hA hB
  obtain ⟨r, hr⟩ : ∃ r, r = decide (xs = ys) := ⟨_, rfl⟩
  rw [← hr]
  have Hr := Lib.hid hr
  clear hr
  by_cases hnm : n = m
  · subst hnm
    have q : ((n : Int) != (n : Int)) = false := by simp
    go_enter Tryz.func154, Tryz.ntmps154
    go_wp2
    go_loopg [5] (n + 1) (fun g i wr => ∃ j : Nat, j ≤ n ∧ i = .int .i64 (j : Int) ∧ g + j = n + 1 ∧ Hid (xs.take j = ys.take j) ∧ Hid (Dr W wr))
    case atStart => exact ⟨0, Nat.zero_le _, rfl, rfl, Lib.hid rfl, Lib.hid (Dr.refl _)⟩
    case round =>
      obtain ⟨j, hj, rfl, hgk, Heq, HD⟩ := hrel
      have Hgk := Lib.hid hgk; clear hgk
      by_cases hlt : j < n
      · obtain ⟨x, b, off, u, hx, rfl, hb, hc, hu⟩ := (HA.out.dr (monoInt _) HD.out).at_ hlt
        obtain rfl : u = .int .i64 x := hu
        obtain ⟨y, b2, off2, u2, hy, rfl, hb2, hc2, hu2⟩ := (HB.out.dr (monoInt _) HD.out).at_ hlt
        obtain rfl : u2 = .int .i64 y := hu2
        by_cases hxy : x = y
        · have Ht := Lib.hid (show xs.take (j + 1) = ys.take (j + 1) from by rw [K.take_succ_at hx, K.take_succ_at hy, Heq.out, hxy])
          have q : (x != y) = false := by simpa using hxy
          clear hx hy hb hb2 hxy
          go_wp2
          go_quiet (fail)
          generalize hW3 : wr.drewN _ = w3
          have Hd3 := Lib.hid (HD.out.trans ⟨_, hW3.symm⟩)
          clear hW3 hc hc2
          go_wp2
          go_roundg (gk - 1)
          case measure => have := Hgk.out; omega
          case rel => have := Hgk.out; exact ⟨j + 1, by omega, by go_num, by omega, Ht, Hd3⟩
        · have Ht := Lib.hid (show r = false from by
            rw [Hr.out, decide_eq_false_iff_not]
            intro e
            subst e
            rw [hx] at hy
            exact hxy (Option.some.inj hy))
          have q : (x != y) = true := by simpa using hxy
          clear hx hy hb hb2 hxy
          go_wp2
          go_quiet (fail)
          generalize hW3 : wr.drewN _ = w3
          have Hd3 := Lib.hid (HD.out.trans ⟨_, hW3.symm⟩)
          clear hW3 hc hc2
          go_wp2
          go_ret
          exact ⟨by rw [Ht.out]; rfl, Hd3.out⟩
      · obtain rfl : j = n := by omega
        have Ht := Lib.hid (show r = true from by
          have := Heq.out
          rw [List.take_of_length_le (by rw [Hl1.out]; exact Nat.le_refl _), List.take_of_length_le (by rw [Hl2.out]; exact Nat.le_refl _)] at this
          rw [Hr.out, decide_eq_true this])
        go_wp2
        go_ret
        exact ⟨by rw [Ht.out]; rfl, HD.out⟩
  · have Ht := Lib.hid (show r = false from by
      rw [Hr.out, decide_eq_false_iff_not]
      intro e
      exact hnm (by rw [← Hl1.out, ← Hl2.out, e]))
    have q : ((n : Int) != (m : Int)) = true := by rw [bne_iff_ne]; omega
    clear hnm
    go_enter Tryz.func154, Tryz.ntmps154
    go_wp2
    go_ret
    exact ⟨by rw [Ht.out]; rfl, Dr.refl _⟩

set_option maxRecDepth 100000 in
set_option maxHeartbeats 2000000 in
theorem rsameNode_any {x y : T.Nd} {A A' : Option Addr} {c c' : Nat} {W : World} (hx : SlAt (IntR .i64) W A x.args.length x.args) (hy : SlAt (IntR .i64) W A' y.args.length y.args) :
    Calls Tryz.prog 97 #[ndV x A c, ndV y A' c'] W fun e W' => e = .returned (.bool (decide (x = y))) ∧ Below W.heap.size W W' := by
  obtain ⟨W2, hW2⟩ : ∃ W2, W2 = (W.alloc (.cells #[.int .i64 x.op, .int .i64 x.w, .int .i64 x.fl, .slice A x.args.length c, .int .u32 x.imm] 62)).alloc (.cells #[.int .i64 y.op, .int .i64 y.w, .int .i64 y.fl, .slice A' y.args.length c', .int .u32 y.imm] 62) := ⟨_, rfl⟩
  have hb2 : Below W.heap.size W W2 := by rw [hW2]; exact ((Below.refl _ _).alloc (Nat.le_refl _) _).alloc (by simp) _
  have hrx : W2.heap[W.heap.size]? = some (.cells #[.int .i64 x.op, .int .i64 x.w, .int .i64 x.fl, .slice A x.args.length c, .int .u32 x.imm] 62 (0, 0)) := by rw [hW2]; exact row_alloc (heap_alloc_new W _) _
  have hry : W2.heap[W.heap.size + 1]? = some (.cells #[.int .i64 y.op, .int .i64 y.w, .int .i64 y.fl, .slice A' y.args.length c', .int .u32 y.imm] 62 (0, 0)) := by rw [hW2]; exact new_two W _ _
  have Heq := Lib.hid (SameInts_any A A' _ _ c c' _ _ W2 (hx.below (monoInt _) hb2) (hy.below (monoInt _) hb2))
  obtain ⟨op, w, fl, args, imm⟩ := x
  obtain ⟨op', w', fl', args', imm'⟩ := y
  dsimp only at *
  obtain ⟨x0, x1, x2, x3, x4⟩ := nd5_cells hrx
  obtain ⟨y0, y1, y2, y3, y4⟩ := nd5_cells hry
  have Hb2 := Lib.hid hb2
  unfold ndV
  dsimp only
  rw [hW2] at x0 x1 x2 x3 x4 y0 y1 y2 y3 y4
  obtain ⟨r, hr⟩ : ∃ r, decide (args = args') = r := ⟨_, rfl⟩
  rw [hr] at Heq
  have Hr := Lib.hid hr
  subst hW2
  clear hx hy hb2 hrx hry hr
  by_cases e0 : op = op'
  rotate_left
  · have q : (op == op') = false := by simpa using e0
    have Hne := Lib.hid (show decide ((⟨op, w, fl, args, imm⟩ : T.Nd) = ⟨op', w', fl', args', imm'⟩) = false from by simp [e0])
    clear e0 Heq
    go_enter Tryz.func97, Tryz.ntmps97
    go_wp2
    go_ret
    exact ⟨ret_bool Hne.out.symm, Hb2.out⟩
  subst e0
  have q0 : (op == op) = true := by simp
  by_cases e1 : w = w'
  rotate_left
  · have q : (w == w') = false := by simpa using e1
    have Hne := Lib.hid (show decide ((⟨op, w, fl, args, imm⟩ : T.Nd) = ⟨op, w', fl', args', imm'⟩) = false from by simp [e1])
    clear e1 Heq
    go_enter Tryz.func97, Tryz.ntmps97
    go_wp2
    go_ret
    exact ⟨ret_bool Hne.out.symm, Hb2.out⟩
  subst e1
  have q1 : (w == w) = true := by simp
  by_cases e2 : fl = fl'
  rotate_left
  · have q : (fl == fl') = false := by simpa using e2
    have Hne := Lib.hid (show decide ((⟨op, w, fl, args, imm⟩ : T.Nd) = ⟨op, w, fl', args', imm'⟩) = false from by simp [e2])
    clear e2 Heq
    go_enter Tryz.func97, Tryz.ntmps97
    go_wp2
    go_ret
    exact ⟨ret_bool Hne.out.symm, Hb2.out⟩
  subst e2
  have q2 : (fl == fl) = true := by simp
  by_cases e3 : imm = imm'
  rotate_left
  · have q : (imm == imm') = false := by simpa using e3
    have Hne := Lib.hid (show decide ((⟨op, w, fl, args, imm⟩ : T.Nd) = ⟨op, w, fl, args', imm'⟩) = false from by simp [e3])
    clear e3 Heq
    go_enter Tryz.func97, Tryz.ntmps97
    go_wp2
    go_ret
    exact ⟨ret_bool Hne.out.symm, Hb2.out⟩
  subst e3
  have q3 : (imm == imm) = true := by simp
  have Hd := Lib.hid (show decide ((⟨op, w, fl, args, imm⟩ : T.Nd) = ⟨op, w, fl, args', imm⟩) = r from by rw [← Hr.out]; simp)
  go_enter Tryz.func97, Tryz.ntmps97
  go_wp2_with fail
  (with_reducible refine Heq.out.mono ?_)
  rintro e w3 ⟨rfl, hb3⟩
  have Hb3 := Lib.hid (Hb2.out.dr hb3)
  clear hb3 x0 x1 x2 x3 x4 y0 y1 y2 y3 y4
  go_wp2
  go_ret
  exact ⟨ret_bool Hd.out.symm, Hb3.out⟩

end Go.Proofs.YtbiopedpceddeaaGreatDoor
end
section
namespace Go.Proofs.YtbiopedpceddeaaGreatDoor
open Go.RowKit
set_option linter.unusedVariables false
set_option linter.unusedSimpArgs false

theorem dec_beq (a b : Int) : decide (a = b) = (a == b) := by rw [Bool.eq_iff_iff]; simp
theorem nd_box (W : World) (op w fl imm : Int) (A : Option Addr) (n c : Nat) : Below W.heap.size W (W.alloc (.cells #[.int .i64 op, .int .i64 w, .int .i64 fl, .slice A n c, .int .u32 imm] 62)) := (Below.refl _ _).alloc (Nat.le_refl _) _

set_option maxRecDepth 100000 in
set_option maxHeartbeats 1000000 in
theorem rflagsOf_any (x : T.Nd) (A : Option Addr) (c : Nat) (W : World) :
    Calls Tryz.prog 109 #[ndV x A c] W fun e W' => e = .returned (.bool (R.flOk x.op x.fl)) ∧ Below W.heap.size W W' := by
  obtain ⟨op, w, fl, args, imm⟩ := x
  unfold ndV
  dsimp only
  have Hb := Lib.hid (nd_box W op w fl imm A args.length c)
  by_cases h1 : op = 1 ∨ op = 2 ∨ op = 3 ∨ op = 11
  · have Hv := Lib.hid (show R.flOk op fl = (decide (0 ≤ fl) && decide (fl ≤ 3)) from by unfold R.flOk; rw [if_pos h1])
    by_cases h0 : 0 ≤ fl
    · have q : decide (0 ≤ fl) = true := by simpa using h0
      have Hv2 := Lib.hid (show R.flOk op fl = decide (fl ≤ 3) from by rw [Hv.out, q]; rfl)
      clear Hv h0
      rcases h1 with rfl | rfl | rfl | rfl
      all_goals
        go_enter Tryz.func109, Tryz.ntmps109
        go_wp2
        go_ret
        exact ⟨ret_bool Hv2.out.symm, Hb.out⟩
    · have q : decide (0 ≤ fl) = false := by simpa using h0
      have Hv2 := Lib.hid (show R.flOk op fl = false from by rw [Hv.out, q]; rfl)
      clear Hv h0
      rcases h1 with rfl | rfl | rfl | rfl
      all_goals
        go_enter Tryz.func109, Tryz.ntmps109
        go_wp2
        go_ret
        exact ⟨ret_bool Hv2.out.symm, Hb.out⟩
  by_cases h2 : op = 4 ∨ op = 6 ∨ op = 12 ∨ op = 13
  · have Hv := Lib.hid (show R.flOk op fl = (decide (fl = 0) || decide (fl = 4)) from by unfold R.flOk; rw [if_neg h1, if_pos h2])
    clear h1
    by_cases h0 : fl = 0
    · have q : (fl == 0) = true := by simpa using h0
      have Hv2 := Lib.hid (show R.flOk op fl = true from by rw [Hv.out, decide_eq_true h0]; rfl)
      clear Hv h0
      rcases h2 with rfl | rfl | rfl | rfl
      all_goals
        go_enter Tryz.func109, Tryz.ntmps109
        go_wp2
        go_ret
        exact ⟨ret_bool Hv2.out.symm, Hb.out⟩
    · have q : (fl == 0) = false := by simpa using h0
      have Hv2 := Lib.hid (show R.flOk op fl = (fl == 4) from by rw [Hv.out, decide_eq_false h0, Bool.false_or, dec_beq])
      clear Hv h0
      rcases h2 with rfl | rfl | rfl | rfl
      all_goals
        go_enter Tryz.func109, Tryz.ntmps109
        go_wp2
        go_ret
        exact ⟨ret_bool Hv2.out.symm, Hb.out⟩
  have Hv := Lib.hid (show R.flOk op fl = (fl == 0) from by unfold R.flOk; rw [if_neg h1, if_neg h2, dec_beq])
  have q1 : (op == 1) = false := by simp; omega
  have q2 : (op == 2) = false := by simp; omega
  have q3 : (op == 3) = false := by simp; omega
  have q4 : (op == 11) = false := by simp; omega
  have q5 : (op == 4) = false := by simp; omega
  have q6 : (op == 6) = false := by simp; omega
  have q7 : (op == 12) = false := by simp; omega
  have q8 : (op == 13) = false := by simp; omega
  clear h1 h2
  go_enter Tryz.func109, Tryz.ntmps109
  go_wp2
  go_ret
  exact ⟨ret_bool Hv.out.symm, Hb.out⟩

set_option maxRecDepth 100000 in
theorem rargs_any (op : Int) (W : World) : Calls Tryz.prog 131 #[.int .i64 op] W fun e W' => e = .returned (.int .i64 (R.par op)) ∧ W = W' := by
  by_cases h0 : op = 0 ∨ op = 33 ∨ op = 34 ∨ op = 35 ∨ op = 15
  · rcases h0 with rfl | rfl | rfl | rfl | rfl
    all_goals
      go_enter Tryz.func131, Tryz.ntmps131
      go_wp2
      go_ret
      exact ⟨ret_int (by decide), rfl⟩
  have q1 : (op == 0) = false := by simp; omega
  have q2 : (op == 33) = false := by simp; omega
  have q3 : (op == 34) = false := by simp; omega
  have q4 : (op == 35) = false := by simp; omega
  have q5 : (op == 15) = false := by simp; omega
  by_cases h1 : 1 ≤ op
  · have p1 : decide (1 ≤ op) = true := by simpa using h1
    by_cases h2 : op ≤ 14
    · have p2 : decide (op ≤ 14) = true := by simpa using h2
      have Hv := Lib.hid (show R.par op = 2 from by unfold R.par T.ar; rw [if_neg (by omega), if_neg (by omega), if_neg (by omega), if_neg (by omega), if_pos (by omega)])
      clear h0 h1 h2
      go_enter Tryz.func131, Tryz.ntmps131
      go_wp2
      go_ret
      exact ⟨ret_int Hv.out.symm, rfl⟩
    · have p2 : decide (op ≤ 14) = false := by simpa using h2
      have Hv := Lib.hid (show R.par op = -1 from by
        unfold R.par T.ar
        rw [if_neg (by omega), if_neg (by omega)]
        split
        · rfl
        · rw [if_neg (by omega), if_neg (by omega), if_neg (by omega)])
      clear h0 h1 h2
      go_enter Tryz.func131, Tryz.ntmps131
      go_wp2
      go_ret
      exact ⟨ret_int Hv.out.symm, rfl⟩
  · have p1 : decide (1 ≤ op) = false := by simpa using h1
    have Hv := Lib.hid (show R.par op = -1 from by unfold R.par T.ar; rw [if_neg (by omega), if_neg (by omega), if_neg (by omega), if_neg (by omega), if_neg (by omega), if_neg (by omega), if_neg (by omega)])
    clear h0 h1
    go_enter Tryz.func131, Tryz.ntmps131
    go_wp2
    go_ret
    exact ⟨ret_int Hv.out.symm, rfl⟩

set_option maxRecDepth 100000 in
theorem rcond_any (x : R.Cd) (W : World) : Calls Tryz.prog 67 #[.agg #[.int .i64 x.kind, .int .i64 x.hole, .int .u32 x.imm]] W fun e W' => e = .returned (.bool (R.cdOk x)) ∧ Below W.heap.size W W' := by
  obtain ⟨kd, ho, im⟩ := x
  dsimp only
  have Hb := Lib.hid (show Below W.heap.size W (W.alloc (.cells #[.int .i64 kd, .int .i64 ho, .int .u32 im] 88)) from (Below.refl _ _).alloc (Nat.le_refl _) _)
  by_cases h0 : 0 ≤ kd
  rotate_left
  · have q : decide (0 ≤ kd) = false := by simpa using h0
    have Hv := Lib.hid (show R.cdOk ⟨kd, ho, im⟩ = false from by unfold R.cdOk; simp [h0])
    clear h0
    go_enter Tryz.func67, Tryz.ntmps67
    go_wp2
    go_ret
    exact ⟨ret_bool Hv.out.symm, Hb.out⟩
  have q0 : decide (0 ≤ kd) = true := by simpa using h0
  by_cases h1 : kd ≤ 4
  rotate_left
  · have q : decide (kd ≤ 4) = false := by simpa using h1
    have Hv := Lib.hid (show R.cdOk ⟨kd, ho, im⟩ = false from by unfold R.cdOk; simp [h1])
    clear h0 h1
    go_enter Tryz.func67, Tryz.ntmps67
    go_wp2
    go_ret
    exact ⟨ret_bool Hv.out.symm, Hb.out⟩
  have q1 : decide (kd ≤ 4) = true := by simpa using h1
  by_cases h2 : 0 ≤ ho
  rotate_left
  · have q : decide (0 ≤ ho) = false := by simpa using h2
    have Hv := Lib.hid (show R.cdOk ⟨kd, ho, im⟩ = false from by unfold R.cdOk; simp [h2])
    clear h0 h1 h2
    go_enter Tryz.func67, Tryz.ntmps67
    go_wp2
    go_ret
    exact ⟨ret_bool Hv.out.symm, Hb.out⟩
  have q2 : decide (0 ≤ ho) = true := by simpa using h2
  by_cases h3 : ho < 2
  rotate_left
  · have q : decide (ho < 2) = false := by simpa using h3
    have Hv := Lib.hid (show R.cdOk ⟨kd, ho, im⟩ = false from by unfold R.cdOk; simp [h3])
    clear h0 h1 h2 h3
    go_enter Tryz.func67, Tryz.ntmps67
    go_wp2
    go_ret
    exact ⟨ret_bool Hv.out.symm, Hb.out⟩
  have q3 : decide (ho < 2) = true := by simpa using h3
  by_cases h4 : kd = 4
  · have q4 : (kd == 4) = true := by simpa using h4
    have Hv := Lib.hid (show R.cdOk ⟨kd, ho, im⟩ = true from by unfold R.cdOk; simp [h0, h1, h2, h3, h4])
    clear h0 h1 h2 h3 h4
    go_enter Tryz.func67, Tryz.ntmps67
    go_wp2
    go_ret
    exact ⟨ret_bool Hv.out.symm, Hb.out⟩
  · have q4 : (kd == 4) = false := by simpa using h4
    have Hv := Lib.hid (show R.cdOk ⟨kd, ho, im⟩ = (im == 0) from by unfold R.cdOk; rw [← dec_beq]; simp [h0, h1, h2, h3, h4])
    clear h0 h1 h2 h3 h4
    go_enter Tryz.func67, Tryz.ntmps67
    go_wp2
    go_ret
    exact ⟨ret_bool Hv.out.symm, Hb.out⟩

/-- a label stands in a list -/
def R.names (l : List T.Nd) (op imm : Int) : Bool := l.any fun x => decide (x.op = op) && decide (x.imm = imm)

set_option maxRecDepth 100000 in
theorem rnames_any (l : List T.Nd) (n c : Nat) (A : Option Addr) (op imm : Int) (W : World) (hL : StAt 5 NdR W A n l) :
    Calls Tryz.prog 69 #[.slice A n c, .int .i64 op, .int .u32 imm] W fun e W' => e = .returned (.bool (R.names l op imm)) ∧ W = W' := by
  have HL := Lib.hid hL
  have hle := hL.le
  have Hln := Lib.hid hL.len
  obtain ⟨r, hr⟩ : ∃ r, r = R.names l op imm := ⟨_, rfl⟩
  rw [← hr]
  have Hr := Lib.hid hr
  clear hL hr
  go_enter Tryz.func69, Tryz.ntmps69
  go_wp2
  go_loop [7] (fun i => ∃ j : Nat, j ≤ n ∧ i = .int .i64 (j : Int) ∧ Hid ((l.take j).any (fun x => decide (x.op = op) && decide (x.imm = imm)) = false)) (fun i => n - (intOf i).toNat)
  case atStart => exact ⟨0, Nat.zero_le _, rfl, Lib.hid rfl⟩
  case round =>
    obtain ⟨j, hj, rfl, Hany⟩ := hrel
    by_cases hlt : j < n
    · obtain ⟨x, b, off, A, c, hx, rfl, hb, h0, _, _, _, h4, _, _, _⟩ := nd_cells HL.out hlt
      by_cases e1 : x.op = op
      · have q1 : (x.op == op) = true := by simpa using e1
        by_cases e2 : x.imm = imm
        · have q2 : (x.imm == imm) = true := by simpa using e2
          have Ht := Lib.hid (show r = true from by rw [Hr.out]; exact any_true_at hx (by simp [e1, e2]))
          clear hx hb e1 e2
          go_wp2
          go_ret
          exact ⟨ret_bool Ht.out.symm, rfl⟩
        · have q2 : (x.imm == imm) = false := by simpa using e2
          have Ht := Lib.hid (show (l.take (j + 1)).any (fun x => decide (x.op = op) && decide (x.imm = imm)) = false from any_take_step hx Hany.out (by simp [e2]))
          clear hx hb e1 e2
          go_wp2
          go_round
          case rel => exact ⟨j + 1, by omega, by go_num, Ht⟩
          case measure => simp [intOf]; omega
      · have q1 : (x.op == op) = false := by simpa using e1
        have Ht := Lib.hid (show (l.take (j + 1)).any (fun x => decide (x.op = op) && decide (x.imm = imm)) = false from any_take_step hx Hany.out (by simp [e1]))
        clear hx hb e1
        go_wp2
        go_round
        case rel => exact ⟨j + 1, by omega, by go_num, Ht⟩
        case measure => simp [intOf]; omega
    · obtain rfl : j = n := by omega
      have Ht := Lib.hid (show r = false from by
        have := Hany.out
        rw [List.take_of_length_le (by rw [Hln.out]; exact Nat.le_refl _)] at this
        rw [Hr.out]; exact this)
      go_wp2
      go_ret
      exact ⟨ret_bool Ht.out.symm, rfl⟩

set_option maxRecDepth 100000 in
theorem rtyped_any (t : List T.Nd) (x : T.Nd) (n ct : Nat) (At A : Option Addr) (c : Nat) (W : World) (hT : StAt 5 NdR W At n t) (hA : SlAt (IntR .i64) W A x.args.length x.args) (hlen : (x.args.length : Int) = R.par x.op) (har : 0 ≤ R.par x.op) (harg : ∀ a ∈ x.args, 0 ≤ a ∧ a < (n : Int)) :
    Calls Tryz.prog 68 #[.slice At n ct, ndV x A c] W fun e W' => e = .returned (.bool (T.typed t x)) ∧ Below W.heap.size W W' := by
  by_cases ho : x.op = 34 ∨ x.op = 35
  · have Hv := Lib.hid (show T.typed t x = true from by unfold T.typed; rw [if_neg (by omega), if_neg (by omega), if_neg (by omega), if_neg (by omega), if_neg (by omega)])
    clear hT hA hlen har harg
    obtain ⟨op, w, fl, args, imm⟩ := x
    unfold ndV
    dsimp only at ho Hv ⊢
    have Hb := Lib.hid (nd_box W op w fl imm A args.length c)
    rcases ho with rfl | rfl
    all_goals
      go_enter Tryz.func68, Tryz.ntmps68
      go_wp2
      go_ret
      exact ⟨ret_bool Hv.out.symm, Hb.out⟩
  · have hp : R.par x.op = T.ar x.op := by
      unfold R.par at har ⊢
      rw [if_neg (by omega), if_neg (by omega)] at har ⊢
      split at har
      · omega
      · rename_i h; rw [if_neg h]
    obtain ⟨W1, hW1⟩ : ∃ W1, W1 = W.alloc (.cells #[.int .i64 x.op, .int .i64 x.w, .int .i64 x.fl, .slice A x.args.length c, .int .u32 x.imm] 62) := ⟨_, rfl⟩
    have hb1 : Below W.heap.size W W1 := by rw [hW1]; exact (Below.refl _ _).alloc (Nat.le_refl _) _
    have Hcall := Lib.hid (rTyped_any t x n ct At A c W1 (hT.below monoNd hb1) (hA.below (monoInt _) hb1) (by rw [← hp]; exact hlen) (by rw [← hp]; exact har) harg)
    obtain ⟨r, hr⟩ : ∃ r, T.typed t x = r := ⟨_, rfl⟩
    rw [hr] at Hcall ⊢
    have q1 : (x.op == 34) = false := by simp; omega
    have q2 : (x.op == 35) = false := by simp; omega
    have Hb1 := Lib.hid hb1
    have HW1 := Lib.hid hW1
    clear hT hA hlen har harg ho hp hb1 hW1 hr
    unfold ndV at Hcall ⊢
    go_enter Tryz.func68, Tryz.ntmps68
    go_wp2_with fail
    rw [← HW1.out]
    (with_reducible refine Hcall.out.mono ?_)
    rintro e w2 ⟨rfl, hb2⟩
    have Hb2 := Lib.hid (Hb1.out.trans (hb2.mono Hb1.out.size))
    clear hb2
    go_wp2
    go_ret
    exact ⟨rfl, Hb2.out⟩

/-- a rule is much longer than the limits -/
def R.rlong (r : R.Rl) : Bool := decide (60 < r.left.length) || decide (60 < r.right.length) || decide (60 < r.pre.length) || T.long r.left || T.long r.right

set_option maxRecDepth 100000 in
set_option maxHeartbeats 1000000 in
theorem rLong_any {r : R.Rl} {nl cl nr cr np cp : Nat} {AL AR AP : Option Addr} {W : World} (hR : RlAt W r nl nr np AL AR AP) :
    Calls Tryz.prog 17 #[.agg #[.slice AL nl cl, .slice AR nr cr, .slice AP np cp]] W fun e W' => e = .returned (.bool (R.rlong r)) ∧ Below W.heap.size W W' := by
  obtain ⟨W1, hW1⟩ : ∃ W1, W1 = W.alloc (.cells #[.slice AL nl cl, .slice AR nr cr, .slice AP np cp] 33) := ⟨_, rfl⟩
  have hb1 : Below W.heap.size W W1 := by rw [hW1]; exact (Below.refl _ _).alloc (Nat.le_refl _) _
  have hrow : W1.heap[W.heap.size]? = some (.cells #[.slice AL nl cl, .slice AR nr cr, .slice AP np cp] 33 (0, 0)) := by rw [hW1]; exact heap_alloc_new W _
  obtain ⟨c0, c1, c2, _⟩ := rl_cells hrow
  have Hb1 := Lib.hid hb1
  have hR1 := hR.below hb1
  have HL := Lib.hid (Long_any r.left nl cl AL W1 hR1.sl)
  have HR := Lib.hid (Long_any r.right nr cr AR W1 hR1.sr)
  have HW1 := Lib.hid hW1
  have e1 := hR.sl.len
  have e2 := hR.sr.len
  have e3 := hR.sp.len
  have l1 := hR.sl.le
  have l2 := hR.sr.le
  have l3 := hR.sp.le
  have Hv := Lib.hid (show R.rlong r = (decide (60 < nl) || decide (60 < nr) || decide (60 < np) || T.long r.left || T.long r.right) from by unfold R.rlong; rw [e1, e2, e3])
  rw [hW1] at c0 c1 c2
  clear hR hb1 hW1 hrow hR1 e1 e2 e3
  by_cases h1 : 60 < nl
  · have q1 : decide (60 < (nl : Int)) = true := by simp; omega
    have He := Lib.hid (show R.rlong r = true from by rw [Hv.out, decide_eq_true h1]; rfl)
    clear h1
    go_enter Tryz.func17, Tryz.ntmps17
    go_wp2
    go_ret
    rw [← HW1.out]
    exact ⟨ret_bool He.out.symm, Hb1.out⟩
  have q1 : decide (60 < (nl : Int)) = false := by simp; omega
  by_cases h2 : 60 < nr
  · have q2 : decide (60 < (nr : Int)) = true := by simp; omega
    have He := Lib.hid (show R.rlong r = true from by rw [Hv.out, decide_eq_true h2]; simp)
    clear h1 h2
    go_enter Tryz.func17, Tryz.ntmps17
    go_wp2
    go_ret
    rw [← HW1.out]
    exact ⟨ret_bool He.out.symm, Hb1.out⟩
  have q2 : decide (60 < (nr : Int)) = false := by simp; omega
  by_cases h3 : 60 < np
  · have q3 : decide (60 < (np : Int)) = true := by simp; omega
    have He := Lib.hid (show R.rlong r = true from by rw [Hv.out, decide_eq_true h3]; simp)
    clear h1 h2 h3
    go_enter Tryz.func17, Tryz.ntmps17
    go_wp2
    go_ret
    rw [← HW1.out]
    exact ⟨ret_bool He.out.symm, Hb1.out⟩
  have q3 : decide (60 < (np : Int)) = false := by simp; omega
  have Hv2 := Lib.hid (show R.rlong r = (T.long r.left || T.long r.right) from by rw [Hv.out, decide_eq_false h1, decide_eq_false h2, decide_eq_false h3]; rfl)
  clear h1 h2 h3 Hv
  obtain ⟨a, ha⟩ : ∃ a, T.long r.left = a := ⟨_, rfl⟩
  obtain ⟨b, hb⟩ : ∃ b, T.long r.right = b := ⟨_, rfl⟩
  rw [ha] at HL Hv2
  rw [hb] at HR Hv2
  clear ha hb
  cases a
  · go_enter Tryz.func17, Tryz.ntmps17
    go_wp2_with fail
    rw [← HW1.out]
    rw [← HW1.out] at c0 c1 c2
    (with_reducible refine HL.out.mono ?_)
    rintro e w2 ⟨rfl, rfl⟩
    go_wp2_with fail
    (with_reducible refine HR.out.mono ?_)
    rintro e w3 ⟨rfl, rfl⟩
    go_wp2
    go_ret
    exact ⟨ret_bool (by rw [Hv2.out]; rfl), Hb1.out⟩
  · go_enter Tryz.func17, Tryz.ntmps17
    go_wp2_with fail
    rw [← HW1.out]
    (with_reducible refine HL.out.mono ?_)
    rintro e w2 ⟨rfl, rfl⟩
    go_wp2
    go_ret
    exact ⟨ret_bool (by rw [Hv2.out]; rfl), Hb1.out⟩
end Go.Proofs.YtbiopedpceddeaaGreatDoor
end
