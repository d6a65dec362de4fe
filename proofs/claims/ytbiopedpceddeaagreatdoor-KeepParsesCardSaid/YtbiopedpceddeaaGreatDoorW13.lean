/- Merged: C4U11. -/
import Derived.Test.YtbiopedpceddeaaGreatDoorW09
set_option linter.unusedVariables false
set_option linter.unusedSimpArgs false
namespace Go.Proofs.YtbiopedpceddeaaGreatDoor
open Go.RowKit
set_option linter.unusedVariables false
set_option linter.unusedSimpArgs false

theorem cells6 {X : World} {g : Nat} {T : TypeId} (h : X.heap[g]? = some (.cells #[.bool false, .bool false, .bool false, .bool false, .bool false, .bool false] T (0, 0))) : X.cell? ⟨g, 0, none⟩ = some (.bool false) ∧ X.cell? ⟨g, 1, none⟩ = some (.bool false) ∧ X.cell? ⟨g, 2, none⟩ = some (.bool false) ∧ X.cell? ⟨g, 3, none⟩ = some (.bool false) ∧ X.cell? ⟨g, 4, none⟩ = some (.bool false) ∧ X.cell? ⟨g, 5, none⟩ = some (.bool false) ∧ X.frozen? ⟨g, 0, none⟩ = false ∧ X.frozen? ⟨g, 1, none⟩ = false ∧ X.frozen? ⟨g, 2, none⟩ = false ∧ X.frozen? ⟨g, 3, none⟩ = false ∧ X.frozen? ⟨g, 4, none⟩ = false ∧ X.frozen? ⟨g, 5, none⟩ = false := by
  refine ⟨?_, ?_, ?_, ?_, ?_, ?_, frozen_row h _, frozen_row h _, frozen_row h _, frozen_row h _, frozen_row h _, frozen_row h _⟩
  all_goals rw [cell_of_row _ _ _ _ _ (0, 0) h]; rfl
set_option maxRecDepth 100000 in
set_option maxHeartbeats 1000000 in
theorem vclo1_any (x : R.Cd) (W : World) :
    Calls Tryz.prog 123 #[cdV x] W fun e w' => e = .returned (.bool (!R.cdOk x)) ∧ Below W.heap.size W w' := by
  have hB1 : Below W.heap.size W (W.alloc (.cells #[.int .i64 x.kind, .int .i64 x.hole, .int .u32 x.imm] 88)) := (Below.refl _ _).alloc (Nat.le_refl _) _
  have HB1 := Lib.hid hB1
  have H := Lib.hid (gisCond_any x (W.alloc (.cells #[.int .i64 x.kind, .int .i64 x.hole, .int .u32 x.imm] 88)))
  generalize R.cdOk x = b at *
  unfold cdV at *
  clear hB1
  go_enter Tryz.func123, Tryz.ntmps123
  go_wp2_with fail
  (with_reducible refine H.out.mono ?_)
  rintro e w2 ⟨rfl, hb2⟩
  have Hb2 := Lib.hid (HB1.out.trans (hb2.mono HB1.out.size))
  clear hb2
  go_wp2
  go_ret
  exact ⟨rfl, Hb2.out⟩

set_option maxRecDepth 100000 in
set_option maxHeartbeats 1000000 in
theorem vclo2_any (x : R.Cd) (g : Nat) (cs : List Bool) (b : Bool) (h : Nat) (W : World) (hh : x.hole = h) (h2 : h < 2) (hc : W.cell? ⟨g, 4 + h, none⟩ = some (.bool b)) :
    Calls Tryz.prog 126 #[cdV x, .pointer (some ⟨g, 0, none⟩)] W fun e w' => e = .returned (.bool (!b)) ∧ Below W.heap.size W w' := by
  have hB1 : Below W.heap.size W (W.alloc (.cells #[.int .i64 x.kind, .int .i64 x.hole, .int .u32 x.imm] 88)) := (Below.refl _ _).alloc (Nat.le_refl _) _
  have hc1 := (hB1.cell (p := ⟨g, 4 + h, none⟩) (cell_below hc)).trans hc
  have HB1 := Lib.hid hB1
  obtain ⟨kind, hole, imm⟩ := x
  dsimp only at *
  subst hh
  unfold cdV at *
  dsimp only at *
  clear hB1 hc
  go_enter Tryz.func126, Tryz.ntmps126
  go_wp2
  go_ret
  exact ⟨rfl, HB1.out⟩

namespace R
/-- a rule's two sides -/
def side (r : Rl) (k : Nat) : List T.Nd := if k = 0 then r.left else r.right
def okSide (r : Rl) (k : Nat) : Bool := (side r k).zipIdx.all fun q => pnode (side r k) ((k : Int) == 1) q.2 q.1
theorem okSide_iff {r : Rl} {k : Nat} : okSide r k = true ↔ ∀ i x, (side r k)[i]? = some x → pnode (side r k) ((k : Int) == 1) i x = true := by
  unfold okSide
  rw [List.all_eq_true]
  constructor
  · intro h i x hx
    exact h (x, i) (List.mem_zipIdx_iff_getElem?.2 hx)
  · rintro h ⟨x, i⟩ hp
    exact h i x (List.mem_zipIdx_iff_getElem?.1 hp)
theorem okSide_bad {r : Rl} {k i : Nat} {x : T.Nd} (hx : (side r k)[i]? = some x) (h : pnode (side r k) ((k : Int) == 1) i x = false) : okSide r k = false := by
  rw [Bool.eq_false_iff]
  intro h'
  rw [okSide_iff.1 h' i x hx] at h
  cases h
def okTyped (r : Rl) : Bool := (r.left.all (T.typed r.left)) && (r.right.all (T.typed r.right)) && decide (rootW r.left ≤ 1) && decide (rootW r.right = rootW r.left)
theorem rvalid_len {r : Rl} (h : r.left.length < 1 ∨ 12 < r.left.length ∨ r.right.length < 1 ∨ 12 < r.right.length ∨ 4 < r.pre.length) : rvalid r = 3 := by
  unfold rvalid; rw [if_pos h]
theorem rvalid_next {r : Rl} (h : ¬ (r.left.length < 1 ∨ 12 < r.left.length ∨ r.right.length < 1 ∨ 12 < r.right.length ∨ 4 < r.pre.length)) : rvalid r = if (okSide r 0 && okSide r 1) = false then 1 else if (r.pre.all cdOk) = false then 1 else if okTyped r = false then 6 else if ((r.right.all fun x => (!decide (x.op = 33 ∨ x.op = 34)) || occ r.left x.op x.imm) && (r.pre.all fun c => occ r.left 34 c.hole)) = false then 7 else 0 := by
  unfold rvalid; rw [if_neg h]; rfl
end R

theorem run_idx4 (f : Nat → Bool) (k : Nat) (hk : k < 4) (W : World) : (Instr.index 178 (.agg #[.bool (f 0), .bool (f 1), .bool (f 2), .bool (f 3)]) (.int .i64 (k : Int))).run Tryz.prog W = .ok (.bool (f k)) W := by
  have h4 : (k : Int) < 4 := by omega
  rcases (show k = 0 ∨ k = 1 ∨ k = 2 ∨ k = 3 by omega) with rfl | rfl | rfl | rfl
  all_goals simp [Instr.index, run_underlying Tryz.underlying178, asIntOf, part, go_sem]
theorem run_idx2 (f : Nat → Bool) (k : Nat) (hk : k < 2) (W : World) : (Instr.index 142 (.agg #[.bool (f 4), .bool (f 5)]) (.int .i64 (k : Int))).run Tryz.prog W = .ok (.bool (f (4 + k))) W := by
  have h4 : (k : Int) < 2 := by omega
  rcases (show k = 0 ∨ k = 1 by omega) with rfl | rfl
  all_goals simp [Instr.index, run_underlying Tryz.underlying142, asIntOf, part, go_sem]
theorem cells_six {w : World} {g : Nat} {T : TypeId} (f : Nat → Bool) (h : w.heap[g]? = some (.cells #[.bool (f 0), .bool (f 1), .bool (f 2), .bool (f 3), .bool (f 4), .bool (f 5)] T (0, 0))) : ∀ k, k < 6 → w.cell? ⟨g, k, none⟩ = some (.bool (f k)) := by
  intro k hk
  rw [cell_of_row _ _ _ _ _ (0, 0) h]
  rcases (show k = 0 ∨ k = 1 ∨ k = 2 ∨ k = 3 ∨ k = 4 ∨ k = 5 by omega) with rfl | rfl | rfl | rfl | rfl | rfl <;> rfl
def set6 (w : World) (g : Nat) (l : List Bool) : World := (((((w.setCell ⟨g, 0, none⟩ (.bool (l[0]?.getD false))).setCell ⟨g, 1, none⟩ (.bool (l[1]?.getD false))).setCell ⟨g, 2, none⟩ (.bool (l[2]?.getD false))).setCell ⟨g, 3, none⟩ (.bool (l[3]?.getD false))).setCell ⟨g, 4, none⟩ (.bool (l[4]?.getD false))).setCell ⟨g, 5, none⟩ (.bool (l[5]?.getD false))
theorem set6_row {w : World} {g : Nat} {T : TypeId} (l : List Bool) (h : w.heap[g]? = some (.cells #[.bool false, .bool false, .bool false, .bool false, .bool false, .bool false] T (0, 0))) :
    (set6 w g l).heap[g]? = some (.cells #[.bool (l[0]?.getD false), .bool (l[1]?.getD false), .bool (l[2]?.getD false), .bool (l[3]?.getD false), .bool (l[4]?.getD false), .bool (l[5]?.getD false)] T (0, 0)) := by
  have h1 := heap_setCell_same w g 0 _ _ (.bool (l[0]?.getD false)) h
  have h2 := heap_setCell_same _ g 1 _ _ (.bool (l[1]?.getD false)) h1
  have h3 := heap_setCell_same _ g 2 _ _ (.bool (l[2]?.getD false)) h2
  have h4 := heap_setCell_same _ g 3 _ _ (.bool (l[3]?.getD false)) h3
  have h5 := heap_setCell_same _ g 4 _ _ (.bool (l[4]?.getD false)) h4
  exact heap_setCell_same _ g 5 _ _ (.bool (l[5]?.getD false)) h5
theorem set6_other {w : World} {g g' : Nat} (l : List Bool) (h : g' ≠ g) : (set6 w g l).heap[g']? = w.heap[g']? := by
  unfold set6
  rw [heap_setCell_other _ _ _ _ h, heap_setCell_other _ _ _ _ h, heap_setCell_other _ _ _ _ h, heap_setCell_other _ _ _ _ h, heap_setCell_other _ _ _ _ h, heap_setCell_other _ _ _ _ h]
theorem set6_below {W w : World} {g : Nat} (l : List Bool) (h : Below W.heap.size W w) (hg : W.heap.size ≤ g) : Below W.heap.size W (set6 w g l) := by
  unfold set6
  exact (((((h.setCell (p := ⟨g, 0, none⟩) hg _).setCell (p := ⟨g, 1, none⟩) hg _).setCell (p := ⟨g, 2, none⟩) hg _).setCell (p := ⟨g, 3, none⟩) hg _).setCell (p := ⟨g, 4, none⟩) hg _).setCell (p := ⟨g, 5, none⟩) hg _
theorem within_six {r : R.Rl} : R.within r = ((!(R.unk true r.right)[0]?.getD false || (R.unk false r.left)[0]?.getD false) && (!(R.unk true r.right)[1]?.getD false || (R.unk false r.left)[1]?.getD false) && (!(R.unk true r.right)[2]?.getD false || (R.unk false r.left)[2]?.getD false) && (!(R.unk true r.right)[3]?.getD false || (R.unk false r.left)[3]?.getD false) && (!(R.unk true r.right)[4]?.getD false || (R.unk false r.left)[4]?.getD false) && (!(R.unk true r.right)[5]?.getD false || (R.unk false r.left)[5]?.getD false)) := by
  unfold R.within
  simp [List.range, List.range.loop, List.getD_eq_getElem?_getD, Bool.and_assoc]

set_option maxRecDepth 100000 in
set_option maxHeartbeats 4000000 in
theorem gValidate_any (r : R.Rl) (nl cl nr cr np cp : Nat) (AL AR AP : Option Addr) (W : World) (hL : StAt 5 NdR W AL nl r.left) (hR : StAt 5 NdR W AR nr r.right) (hP : StAt 3 CdR W AP np r.pre) (fL : R.flr r.left) (fR : R.flr r.right) :
    Calls Tryz.prog 58 #[.agg #[.slice AL nl cl, .slice AR nr cr, .slice AP np cp]] W fun e w' => e = .returned (.int .i64 (R.rvalid r)) ∧ Below W.heap.size W w' := by
  have hlL := hL.le
  have hlR := hR.le
  have hlP := hP.le
  obtain ⟨W2, hW2⟩ : ∃ W2, W2 = (W.alloc (.cells #[.slice AL nl cl, .slice AR nr cr, .slice AP np cp] 33)).alloc (.cells #[.slice AL nl cl, .slice AR nr cr] 22) := ⟨_, rfl⟩
  have hb2 : Below W.heap.size W W2 := by rw [hW2]; exact ((Below.refl _ _).alloc (Nat.le_refl _) _).alloc (by simp) _
  have hr0 : W2.heap[W.heap.size]? = some (.cells #[.slice AL nl cl, .slice AR nr cr, .slice AP np cp] 33 (0, 0)) := by rw [hW2]; exact row_alloc (heap_alloc_new W _) _
  have hr1 : W2.heap[W.heap.size + 1]? = some (.cells #[.slice AL nl cl, .slice AR nr cr] 22 (0, 0)) := by rw [hW2]; exact new_two W _ _
  have hs2 : W2.heap.size = W.heap.size + 2 := by rw [hW2]; simp
  have HL := Lib.hid (hL.below monoNd hb2)
  have HR := Lib.hid (hR.below monoNd hb2)
  have HP := Lib.hid (hP.below monoCd hb2)
  have HlL := Lib.hid hL.len
  have HlR := Lib.hid hR.len
  have HlP := Lib.hid hP.len
  have FL := Lib.hid fL
  have FR := Lib.hid fR
  have Hb2 := Lib.hid hb2
  have Hc := Lib.hid (show ∀ X, Below W2.heap.size W2 X → X.cell? ⟨W.heap.size, 0, none⟩ = some (.slice AL nl cl) ∧ X.cell? ⟨W.heap.size, 1, none⟩ = some (.slice AR nr cr) ∧ X.cell? ⟨W.heap.size, 2, none⟩ = some (.slice AP np cp) from fun X hX => by
    have hr := row_step (Lib.hid hX) hr0
    refine ⟨?_, ?_, ?_⟩
    all_goals rw [cell_of_row _ _ _ _ _ (0, 0) hr]; rfl)
  have HS := Lib.hid (show ∀ k, k < 2 → ∃ A n c, n ≤ 9223372036854775807 ∧ StAt 5 NdR W2 A n (R.side r k) ∧ (R.side r k).length = n ∧ R.flr (R.side r k) ∧ (k = 0 → n = nl) ∧ (k = 1 → n = nr) ∧ ∀ X, Below W2.heap.size W2 X → X.cell? ⟨W.heap.size + 1, k, none⟩ = some (.slice A n c) from fun k hk => by
    have : k = 0 ∨ k = 1 := by omega
    rcases this with rfl | rfl
    · exact ⟨AL, nl, cl, hlL, HL.out, HlL.out, FL.out, fun _ => rfl, fun h => by omega, fun X hX => by rw [cell_of_row _ _ _ _ _ (0, 0) (row_step (Lib.hid hX) hr1)]; rfl⟩
    · exact ⟨AR, nr, cr, hlR, HR.out, HlR.out, FR.out, fun h => by omega, fun _ => rfl, fun X hX => by rw [cell_of_row _ _ _ _ _ (0, 0) (row_step (Lib.hid hX) hr1)]; rfl⟩)
  clear hL hR hP fL fR hb2 hr0 hr1
  go_enter Tryz.func58, Tryz.ntmps58
  go_wp2
  rw [← hW2]
  clear hW2
  go_loopg [24] 3 (fun g i wr => ∃ (k : Nat), k ≤ 2 ∧ i = .int .i64 (k : Int) ∧ g + k = 3 ∧ W2 = wr ∧ (1 ≤ k → 1 ≤ nl ∧ nl ≤ 12) ∧ (2 ≤ k → 1 ≤ nr ∧ nr ≤ 12))
  case atStart => exact ⟨0, Nat.zero_le _, rfl, rfl, rfl, fun h => by omega, fun h => by omega⟩
  case round =>
    obtain ⟨k, hk, rfl, hgk, rfl, b1, b2⟩ := hrel
    have Hgk := Lib.hid hgk; clear hgk
    have B1 := Lib.hid b1
    have B2 := Lib.hid b2
    clear b1 b2
    by_cases hlt : k < 2
    · obtain ⟨A, n, c, hn, hst, hln, _, e0, e1, hcc⟩ := HS.out k hlt
      have hc := hcc _ (Below.refl _ _)
      have E0 := Lib.hid e0
      have E1 := Lib.hid e1
      clear hst hln e0 e1 hcc
      by_cases hbad : n < 1 ∨ 12 < n
      · have Hv := Lib.hid (show R.rvalid r = 3 from R.rvalid_len (by
          have h1 := HlL.out; have h2 := HlR.out
          have : k = 0 ∨ k = 1 := by omega
          rcases this with h | h
          · have := E0.out h; omega
          · have := E1.out h; omega))
        by_cases h0 : n < 1
        · have q0 : decide ((n : Int) < 1) = true := by simp; omega
          clear hbad h0
          go_wp2
          go_ret
          exact ⟨ret_int Hv.out.symm, Hb2.out⟩
        · have q0 : decide ((n : Int) < 1) = false := by simp; omega
          have q1 : decide (12 < (n : Int)) = true := by simp; omega
          clear hbad h0
          go_wp2
          go_ret
          exact ⟨ret_int Hv.out.symm, Hb2.out⟩
      · have q0 : decide ((n : Int) < 1) = false := by simp; omega
        have q1 : decide (12 < (n : Int)) = false := by simp; omega
        go_wp2
        go_roundg (gk - 1)
        case measure => have := Hgk.out; omega
        case rel =>
          have := Hgk.out
          exact ⟨k + 1, by omega, by go_num, by omega, rfl, fun h => by
            by_cases h0 : k = 0
            · have := E0.out h0; omega
            · exact B1.out (by omega), fun h => by
            have := E1.out (by omega); omega⟩
    · obtain rfl : k = 2 := by omega
      rw [show ((2 : Nat) : Int) = 2 from rfl]
      obtain ⟨l1, l2⟩ := B1.out (by omega)
      obtain ⟨r1, r2⟩ := B2.out (by omega)
      obtain ⟨x0, x1, x2⟩ := Hc.out _ (Below.refl _ _)
      clear B1 B2 Hgk
      by_cases h4 : 4 < np
      · have q : decide (4 < (np : Int)) = true := by simp; omega
        have Hv := Lib.hid (show R.rvalid r = 3 from R.rvalid_len (by have := HlP.out; omega))
        clear h4
        go_wp2
        go_ret
        exact ⟨ret_int Hv.out.symm, Hb2.out⟩
      have q : decide (4 < (np : Int)) = false := by simp; omega
      have Hv := Lib.hid (R.rvalid_next (r := r) (by have h1 := HlL.out; have h2 := HlR.out; have h3 := HlP.out; omega))
      have HN := Lib.hid (show nl ≤ 12 ∧ nr ≤ 12 ∧ 1 ≤ nl ∧ 1 ≤ nr from ⟨l2, r2, l1, r1⟩)
      have hg1 : np ≤ 4 := by omega
      clear q h4 l1 l2 r1 r2
      go_wp2
      go_loopg [43] 3 (fun g i wr => ∃ (k : Nat), k ≤ 2 ∧ i = .int .i64 (k : Int) ∧ g + k = 3 ∧ Below W2.heap.size W2 wr ∧ Hid (∀ i, i < k → R.okSide r i = true))
      case atStart => exact ⟨0, Nat.zero_le _, rfl, rfl, Below.refl _ _, fun i hi => by omega⟩
      case round =>
        obtain ⟨k, hk, rfl, hgk, hbw, HO⟩ := hrel
        have Hgk := Lib.hid hgk; clear hgk x0 x1 x2
        have HB := Lib.hid hbw; clear hbw
        by_cases hlt : k < 2
        · obtain ⟨A, n, c, hn, hst, hln, hfl, e0, e1, hcc⟩ := HS.out k hlt
          have hc := hcc _ HB.out
          have hn12 : n ≤ 12 := by
            have := HN.out
            have : k = 0 ∨ k = 1 := by omega
            rcases this with h | h
            · have := e0 h; omega
            · have := e1 h; omega
          have HT := Lib.hid hst
          have Hln := Lib.hid hln
          have Hf := Lib.hid hfl
          clear hst hln hfl e0 e1 hcc hn
          obtain ⟨rt, hrt⟩ : ∃ rt, ((k : Int) == 1) = rt := ⟨_, rfl⟩
          have Hrt := Lib.hid hrt
          obtain ⟨gO, rfl⟩ : ∃ g, g = gk := ⟨_, rfl⟩
          have q : decide ((k : Int) < 2) = true := by simp; omega
          go_wp2
          try simp only [q]
          clear q
          go_loopg [50] (n + 1) (fun g i wr => ∃ (j : Nat), j ≤ n ∧ i = .int .i64 (j : Int) ∧ g + j = n + 1 ∧ Below W2.heap.size W2 wr ∧ Hid (∀ i x, i < j → (R.side r k)[i]? = some x → R.pnode (R.side r k) rt i x = true))
          case atStart => exact ⟨0, Nat.zero_le _, rfl, rfl, HB.out, fun i x hi => by omega⟩
          case round =>
            clear hc HB
            obtain ⟨j, hj, rfl, hgk2, hbw, HQ⟩ := hrel
            have Hgk2 := Lib.hid hgk2; clear hgk2
            by_cases hjn : j < n
            · obtain ⟨x, b, off, A', c', hx, rfl, hb, h0, h1, h2, h3, h4, hs, i0, i1⟩ := nd_cells HT.out hjn
              have k0 := (hbw.cell (p := ⟨b, off + j * 5, none⟩) hb).trans h0
              have k1 := (hbw.cell (p := ⟨b, off + j * 5 + 1, none⟩) hb).trans h1
              have k2 := (hbw.cell (p := ⟨b, off + j * 5 + 2, none⟩) hb).trans h2
              have k3 := (hbw.cell (p := ⟨b, off + j * 5 + 3, none⟩) hb).trans h3
              have k4 := (hbw.cell (p := ⟨b, off + j * 5 + 4, none⟩) hb).trans h4
              have Hx := Lib.hid hx
              have Hbw := Lib.hid (hbw.alloc hbw.size (.cells #[.int .i64 x.op, .int .i64 x.w, .int .i64 x.fl, .slice A' x.args.length c', .int .u32 x.imm] 62))
              have Hc2 := Lib.hid (gPatternNode_any (R.side r k) n c _ rt j x A' c' (wr.alloc (.cells #[.int .i64 x.op, .int .i64 x.w, .int .i64 x.fl, .slice A' x.args.length c', .int .u32 x.imm] 62)) (HT.out.below monoNd Hbw.out) hjn (hs.below (monoInt _) Hbw.out) (Hf.out x (List.mem_of_getElem? hx)) ⟨i0, i1⟩)
              unfold ndV at Hc2
              clear h0 h1 h2 h3 h4 hs hx hb hbw i0 i1
              cases hsh : R.pnode (R.side r k) rt j x
              · rw [hsh] at Hc2
                have Hsh := Lib.hid hsh
                clear hsh
                go_wp2_with fail
                (with_reducible refine Hc2.out.mono ?_)
                rintro e w2 ⟨rfl, hb2⟩
                have HbE := Lib.hid (Hb2.out.trans ((Hbw.out.trans (hb2.mono Hbw.out.size)).mono Hb2.out.size))
                clear hb2 k0 k1 k2 k3 k4
                go_wp2
                go_ret
                exact ⟨ret_int (by
                  have hbad := R.okSide_bad (r := r) (k := k) Hx.out (by rw [Hrt.out]; exact Hsh.out)
                  have : (R.okSide r 0 && R.okSide r 1) = false := by
                    have : k = 0 ∨ k = 1 := by omega
                    rcases this with rfl | rfl
                    · rw [hbad]; rfl
                    · rw [hbad, Bool.and_false]
                  rw [Hv.out, if_pos this]), HbE.out⟩
              · rw [hsh] at Hc2
                have Hsh := Lib.hid hsh
                clear hsh
                go_wp2_with fail
                (with_reducible refine Hc2.out.mono ?_)
                rintro e w2 ⟨rfl, hb2⟩
                have HbE := Lib.hid (Hbw.out.trans (hb2.mono Hbw.out.size))
                clear hb2 k0 k1 k2 k3 k4
                go_wp2
                go_roundg (gk - 1)
                case measure => have := Hgk2.out; omega
                case rel =>
                  have := Hgk2.out
                  exact ⟨j + 1, by omega, by go_num, by omega, HbE.out, Lib.hid (fun i y hi hy => by
                    by_cases e : i = j
                    · subst e
                      have := Hx.out.symm.trans hy
                      cases this
                      exact Hsh.out
                    · exact HQ.out i y (by omega) hy)⟩
            · obtain rfl : j = n := by omega
              have Hok := Lib.hid (show R.okSide r k = true from R.okSide_iff.2 (fun i x hx => by
                rw [Hrt.out]
                exact HQ.out i x (by have := (List.getElem?_eq_some_iff.1 hx).1; have := Hln.out; omega) hx))
              have Hbw := Lib.hid hbw
              clear hbw HQ
              go_wp2
              go_roundg (gO - 1)
              case measure => have := Hgk.out; omega
              case rel =>
                have := Hgk.out
                exact ⟨k + 1, by omega, by go_num, by omega, Hbw.out, Lib.hid (fun i hi => by
                  by_cases e : i = k
                  · rw [e]; exact Hok.out
                  · exact HO.out i (by omega))⟩
        · obtain rfl : k = 2 := by omega
          have Ho := Lib.hid (show (∀ i x, (R.side r 0)[i]? = some x → R.pnode r.left false i x = true) ∧ (∀ i x, (R.side r 1)[i]? = some x → R.pnode r.right true i x = true) from ⟨R.okSide_iff.1 (HO.out 0 (by omega)), R.okSide_iff.1 (HO.out 1 (by omega))⟩)
          have Hv2 := Lib.hid (show R.rvalid r = if (r.pre.all R.cdOk) = false then 1 else if R.okTyped r = false then 6 else if ((r.right.all fun x => (!decide (x.op = 33 ∨ x.op = 34)) || R.occ r.left x.op x.imm) && (r.pre.all fun c => R.occ r.left 34 c.hole)) = false then 7 else 0 from by rw [Hv.out, HO.out 0 (by omega), HO.out 1 (by omega)]; rfl)
          obtain ⟨x0, x1, x2⟩ := Hc.out _ HB.out
          have HPc := Lib.hid (hasCd_any 123 #[] (fun x => !R.cdOk x) AP np cp r.pre wr (HP.out.below monoCd HB.out) (enters_of Tryz.func123 (by kernel_rfl) rfl) (fun X hX j x hx _ _ => by simpa using vclo1_any x X))
          have HPe := Lib.hid (all_any R.cdOk r.pre)
          clear Hgk HO Hv
          cases hpc : r.pre.any (fun x => !R.cdOk x)
          rotate_left
          · rw [hpc] at HPc HPe
            clear hpc
            go_wp2_with fail
            (with_reducible refine HPc.out.mono ?_)
            rintro e w2 ⟨rfl, hb2⟩
            have HbE := Lib.hid (Hb2.out.trans ((HB.out.trans (hb2.mono HB.out.size)).mono Hb2.out.size))
            clear hb2 x0 x1 x2
            go_wp2
            go_ret
            exact ⟨ret_int (by rw [Hv2.out, ← HPe.out]; rfl), HbE.out⟩
          rw [hpc] at HPc HPe
          clear hpc
          have HcdOk := Lib.hid (show r.pre.all R.cdOk = true from HPe.out.symm)
          have Hv3 := Lib.hid (show R.rvalid r = if R.okTyped r = false then 6 else if ((r.right.all fun x => (!decide (x.op = 33 ∨ x.op = 34)) || R.occ r.left x.op x.imm) && (r.pre.all fun c => R.occ r.left 34 c.hole)) = false then 7 else 0 from by rw [Hv2.out, HcdOk.out]; rfl)
          go_wp2_with fail
          (with_reducible refine HPc.out.mono ?_)
          rintro e w2 ⟨rfl, hb2⟩
          have HB2 := Lib.hid (HB.out.trans (hb2.mono HB.out.size))
          clear hb2 x0 x1 x2 HPc HB HPe Hv2
          obtain ⟨x0, x1, x2⟩ := Hc.out _ HB2.out
          obtain ⟨hn1, hn2, hn3, hn4⟩ := HN.out
          obtain ⟨ml, rfl⟩ : ∃ m, nl = m + 1 := ⟨nl - 1, by omega⟩
          obtain ⟨mr, rfl⟩ : ∃ m, nr = m + 1 := ⟨nr - 1, by omega⟩
          have el : (ml : Int) + 1 - 1 = (ml : Int) := by omega
          have er : (mr : Int) + 1 - 1 = (mr : Int) := by omega
          obtain ⟨y, b, off, Ay, cy, hy, rfl, hb, _, hy1, _, _, _, _, _, _⟩ := nd_cells HL.out (show ml < ml + 1 by omega)
          obtain ⟨z, b', off', Az, cz, hz, rfl, hb', _, hz1, _, _, _, _, _, _⟩ := nd_cells HR.out (show mr < mr + 1 by omega)
          have y1 := (HB2.out.cell (p := ⟨b, off + ml * 5 + 1, none⟩) hb).trans hy1
          have Hyz := Lib.hid (show ∀ X, Below W2.heap.size W2 X → X.cell? ⟨b', off' + mr * 5 + 1, none⟩ = some (.int .i64 z.w) from fun X hX => (hX.cell (p := ⟨b', off' + mr * 5 + 1, none⟩) hb').trans hz1)
          have Hok := Lib.hid (show R.okTyped r = ((r.left.all (T.typed r.left)) && (r.right.all (T.typed r.right)) && decide (y.w ≤ 1) && decide (z.w = y.w)) from by
            have h1 : R.rootW r.left = y.w := by
              unfold R.rootW
              rw [HlL.out, Nat.add_sub_cancel, List.getD_eq_getElem?_getD, hy]; rfl
            have h2 : R.rootW r.right = z.w := by
              unfold R.rootW
              rw [HlR.out, Nat.add_sub_cancel, List.getD_eq_getElem?_getD, hz]; rfl
            unfold R.okTyped
            rw [h1, h2])
          have HTL := Lib.hid (fun X (hX : Below W2.heap.size W2 X) => gallTyped_any r.left (ml + 1) cl _ X (HL.out.below monoNd hX) (fun x hx h1 h2 => by
            obtain ⟨i, hi⟩ := List.mem_iff_getElem?.1 hx
            exact R.pnode_ar (Ho.out.1 i x hi) h1 h2) (fun x hx a ha => by
            obtain ⟨i, hi⟩ := List.mem_iff_getElem?.1 hx
            have := R.pnode_args (Ho.out.1 i x hi) a ha
            have := (List.getElem?_eq_some_iff.1 hi).1
            have := HlL.out
            omega))
          have HTR := Lib.hid (fun X (hX : Below W2.heap.size W2 X) => gallTyped_any r.right (mr + 1) cr _ X (HR.out.below monoNd hX) (fun x hx h1 h2 => by
            obtain ⟨i, hi⟩ := List.mem_iff_getElem?.1 hx
            exact R.pnode_ar (Ho.out.2 i x hi) h1 h2) (fun x hx a ha => by
            obtain ⟨i, hi⟩ := List.mem_iff_getElem?.1 hx
            have := R.pnode_args (Ho.out.2 i x hi) a ha
            have := (List.getElem?_eq_some_iff.1 hi).1
            have := HlR.out
            omega))
          clear hy hz hb hb' hy1 hz1
          generalize y.w = yw at *
          generalize z.w = zw at *
          cases htl : r.left.all (T.typed r.left)
          · rw [htl] at HTL Hok
            clear htl HTR Hyz
            go_wp2_with fail
            (with_reducible refine (HTL.out _ HB2.out).mono ?_)
            rintro e w3 ⟨rfl, hb3⟩
            have HbE := Lib.hid (Hb2.out.trans ((HB2.out.trans (hb3.mono HB2.out.size)).mono Hb2.out.size))
            clear hb3 x0 x1 x2
            go_wp2
            go_ret
            exact ⟨ret_int (by rw [Hv3.out, Hok.out]; rfl), HbE.out⟩
          rw [htl] at HTL Hok
          clear htl
          go_wp2_with fail
          (with_reducible refine (HTL.out _ HB2.out).mono ?_)
          rintro e w3 ⟨rfl, hb3⟩
          have HB3 := Lib.hid (HB2.out.trans (hb3.mono HB2.out.size))
          clear hb3 x0 x1 x2 y1 HTL el HB2
          obtain ⟨x0, x1, x2⟩ := Hc.out _ HB3.out
          cases htr : r.right.all (T.typed r.right)
          · rw [htr] at HTR Hok
            clear htr Hyz
            go_wp2_with fail
            (with_reducible refine (HTR.out _ HB3.out).mono ?_)
            rintro e w4 ⟨rfl, hb4⟩
            have HbE := Lib.hid (Hb2.out.trans ((HB3.out.trans (hb4.mono HB3.out.size)).mono Hb2.out.size))
            clear hb4 x0 x1 x2
            go_wp2
            go_ret
            exact ⟨ret_int (by rw [Hv3.out, Hok.out]; rfl), HbE.out⟩
          rw [htr] at HTR Hok
          clear htr
          go_wp2_with fail
          (with_reducible refine (HTR.out _ HB3.out).mono ?_)
          rintro e w4 ⟨rfl, hb4⟩
          have HB4 := Lib.hid (HB3.out.trans (hb4.mono HB3.out.size))
          clear hb4 x0 x1 x2 HTR HB3
          obtain ⟨x0, x1, x2⟩ := Hc.out _ HB4.out
          have z1 := Hyz.out _ HB4.out
          by_cases hy1 : yw ≤ 1
          rotate_left
          · have q : decide (1 < yw) = true := by simp; omega
            have HbE := Lib.hid (Hb2.out.trans (HB4.out.mono Hb2.out.size))
            have hd : decide (yw ≤ 1) = false := by simpa using hy1
            rw [hd] at Hok
            clear hy1 hd
            go_wp2
            go_ret
            exact ⟨ret_int (by rw [Hv3.out, Hok.out]; rfl), HbE.out⟩
          have q : decide (1 < yw) = false := by simp; omega
          have hd : decide (yw ≤ 1) = true := by simpa using hy1
          rw [hd] at Hok
          clear hd hy1
          by_cases hzy : zw = yw
          rotate_left
          · have q2 : (zw != yw) = true := by simpa using hzy
            have HbE := Lib.hid (Hb2.out.trans (HB4.out.mono Hb2.out.size))
            have hd : decide (zw = yw) = false := by simpa using hzy
            rw [hd] at Hok
            clear hzy hd
            go_wp2
            go_ret
            exact ⟨ret_int (by rw [Hv3.out, Hok.out]; rfl), HbE.out⟩
          subst hzy
          have q2 : (zw != zw) = false := by simp
          have Hv4 := Lib.hid (show R.rvalid r = if ((r.right.all fun x => (!decide (x.op = 33 ∨ x.op = 34)) || R.occ r.left x.op x.imm) && (r.pre.all fun c => R.occ r.left 34 c.hole)) = false then 7 else 0 from by rw [Hv3.out, Hok.out]; simp)
          clear Hv3 Hok
          go_wp2_with fail
          have HUL := Lib.hid (fun X (hX : Below W2.heap.size W2 X) => gunknowns_any false r.left (ml + 1) cl _ X (HL.out.below monoNd hX) (by omega) (by omega) (fun x hx a ha => by
            obtain ⟨i, hi⟩ := List.mem_iff_getElem?.1 hx
            have := R.pnode_args (Ho.out.1 i x hi) a ha
            have := (List.getElem?_eq_some_iff.1 hi).1
            have := HlL.out
            omega) (fun x hx => by
            obtain ⟨i, hi⟩ := List.mem_iff_getElem?.1 hx
            have hp := R.pnode_imm (Ho.out.1 i x hi)
            exact ⟨fun h => by have := hp (.inl h); omega, fun h => hp (.inr h)⟩))
          have HUR := Lib.hid (fun X (hX : Below W2.heap.size W2 X) => gunknowns_any true r.right (mr + 1) cr _ X (HR.out.below monoNd hX) (by omega) (by omega) (fun x hx a ha => by
            obtain ⟨i, hi⟩ := List.mem_iff_getElem?.1 hx
            have := R.pnode_args (Ho.out.2 i x hi) a ha
            have := (List.getElem?_eq_some_iff.1 hi).1
            have := HlR.out
            omega) (fun x hx => by
            obtain ⟨i, hi⟩ := List.mem_iff_getElem?.1 hx
            have hp := R.pnode_imm (Ho.out.2 i x hi)
            exact ⟨fun h => by have := hp (.inl h); omega, fun h => hp (.inr h)⟩))
          generalize hul : R.unk false r.left = ul at HUL
          generalize hur : R.unk true r.right = ur at HUR
          have Hul := Lib.hid hul
          have Hur := Lib.hid hur
          clear hul hur x0 x1 x2 z1 er q q2 Hyz
          unfold unkV at HUL HUR
          refine wp_region_fr 6 2 (.cells #[.bool false, .bool false, .bool false, .bool false, .bool false, .bool false] 180) ?af (by kernel_rfl) (by kernel_rfl) (by kernel_rfl) (by kernel_rfl) ?_ ?_ ?_
          rotate_left
          · intro i h1 h2
            have : i = 6 ∨ i = 7 := by omega
            rcases this with rfl | rfl
            · exact ⟨_, rfl, rfl, fun ρ w => by go_simp⟩
            · exact ⟨_, rfl, rfl, fun ρ w => by go_simp⟩
          · intro X hX ov
            obtain ⟨x0, x1, x2⟩ := Hc.out X (HB4.out.trans (hX.mono HB4.out.size))
            have c0 := ov.cell x0
            have c1 := ov.cell x1
            have HX := Lib.hid (fun u => HB4.out.trans ((hX.trans ((ov.below u).mono hX.size)).mono HB4.out.size))
            have HUL2 := Lib.hid (fun u => calls_over (HUL.out (ov.f u) (HX.out u)))
            have HUR2 := Lib.hid (fun u => calls_over (HUR.out (ov.f u) (HX.out u)))
            clear x0 x1 x2
            simp only [Nat.reduceAdd, List.take_succ_cons, List.take_zero]
            repeat (go_big_quiet_step ((first | (go_at_call 125; with_reducible exact HUL2.out _) | (go_at_call 125; with_reducible exact HUR2.out _))))
            refine wpQuiet_nil ?_
            rfl
          · intro g w5 hb5 hrow hne
            obtain ⟨hg1, r1⟩ := hrow 6 (by omega) (by omega)
            obtain ⟨hg2, r2⟩ := hrow 7 (by omega) (by omega)
            have hne2 := hne 6 7 (by omega) (by omega) (by omega) (by omega) (by omega)
            simp only [List.range, List.range.loop, List.foldl_cons, List.foldl_nil, Nat.reduceAdd]
            clear hrow hne
            generalize g 6 = g1 at *
            generalize g 7 = g2 at *
            have hb25 := HB4.out.trans (hb5.mono HB4.out.size)
            obtain ⟨p0, p1, p2, p3, p4, p5, p6, p7, p8, p9, p10, p11⟩ := cells6 r1
            obtain ⟨s0, s1, s2, s3, s4, s5, s6, s7, s8, s9, s10, s11⟩ := cells6 r2
            clear HUL HUR
            simp only [Nat.reduceAdd, List.drop_succ_cons, List.drop_zero]
            have hne3 : g2 ≠ g1 := fun h => hne2 h.symm
            have Hb25 := Lib.hid hb25
            clear hb25 hb5
            simp only [Rg.dst, Act.put]
            go_wp2
            obtain ⟨W6, hW6⟩ : ∃ W6, W6 = set6 (set6 w5 g1 ul) g2 ur := ⟨_, rfl⟩
            have hz1 : W2.heap.size ≤ g1 := Nat.le_trans HB4.out.size hg1
            have hz2 : W2.heap.size ≤ g2 := Nat.le_trans HB4.out.size hg2
            have HB6 := Lib.hid (show Below W2.heap.size W2 W6 from by rw [hW6]; exact set6_below _ (set6_below _ Hb25.out hz1) hz2)
            have hR1 : W6.heap[g1]? = some (.cells #[.bool (ul[0]?.getD false), .bool (ul[1]?.getD false), .bool (ul[2]?.getD false), .bool (ul[3]?.getD false), .bool (ul[4]?.getD false), .bool (ul[5]?.getD false)] 180 (0, 0)) := by rw [hW6]; exact (set6_other _ hne2).trans (set6_row ul r1)
            have hR2 : W6.heap[g2]? = some (.cells #[.bool (ur[0]?.getD false), .bool (ur[1]?.getD false), .bool (ur[2]?.getD false), .bool (ur[3]?.getD false), .bool (ur[4]?.getD false), .bool (ur[5]?.getD false)] 180 (0, 0)) := by rw [hW6]; exact set6_row ur ((set6_other _ hne3).trans r2)
            unfold set6 at hW6
            rw [← hW6]
            clear hW6 p0 p1 p2 p3 p4 p5 p6 p7 p8 p9 p10 p11 s0 s1 s2 s3 s4 s5 s6 s7 s8 s9 s10 s11 r1 r2 Hb25 hg1 hg2 hne2 hne3 hz1 hz2
            have hwi := within_six (r := r)
            have ho0 := R.unk_left (p := r.left) (i := 4) (by omega)
            have ho1 := R.unk_left (p := r.left) (i := 5) (by omega)
            rw [Hur.out, Hul.out] at hwi
            rw [Hul.out, List.getD_eq_getElem?_getD, if_neg (by omega)] at ho0 ho1
            have hwe : _ = R.within r := R.within_iff (r := r) (fun x hx ho => by
              obtain ⟨i, hi⟩ := List.mem_iff_getElem?.1 hx
              obtain ⟨_, _, _, _, _, _, _, _, _, _, _, h0, _⟩ := HR.out.2.2 i x hi
              exact ⟨h0, R.pnode_imm (Ho.out.2 i x hi) ho⟩)
            have Hbad := Lib.hid (show R.within r = false → R.rvalid r = 7 from fun h => by rw [Hv4.out, hwe, h]; simp)
            have Hv5 := Lib.hid (show R.rvalid r = if (R.within r && (r.pre.all fun c => R.occ r.left 34 c.hole)) = false then 7 else 0 from by rw [Hv4.out, hwe])
            obtain ⟨av, hav⟩ : ∃ av : Nat → Bool, ∀ i, ul[i]?.getD false = av i := ⟨_, fun _ => rfl⟩
            obtain ⟨bv, hbv⟩ : ∃ bv : Nat → Bool, ∀ i, ur[i]?.getD false = bv i := ⟨_, fun _ => rfl⟩
            simp only [hav, hbv] at hR1 hR2 hwi ho0 ho1 ⊢
            have R1 := Lib.hid hR1
            have R2 := Lib.hid hR2
            have Hwi := Lib.hid hwi
            have Ho0 := Lib.hid ho0
            have Ho1 := Lib.hid ho1
            clear hR1 hR2 hwi ho0 ho1 hav hbv hwe
            go_loopg [111] 5 (fun g i wr => ∃ (k : Nat), k ≤ 4 ∧ i = .int .i64 (k : Int) ∧ g + k = 5 ∧ W6 = wr ∧ Hid (∀ i, i < k → (!bv i || av i) = true))
            case atStart => exact ⟨0, Nat.zero_le _, rfl, rfl, rfl, Lib.hid (fun i hi => by omega)⟩
            case round =>
              obtain ⟨k, hk, rfl, hgk, rfl, HO⟩ := hrel
              have Hgk := Lib.hid hgk; clear hgk
              by_cases hlt : k < 4
              · have hidx := run_idx4 bv k hlt W6
                have hcell := cells_six av R1.out k (by omega)
                cases hb : bv k
                · rw [hb] at hidx
                  have Hq := Lib.hid hb
                  clear hb
                  go_wp2
                  go_roundg (gk - 1)
                  case measure => have := Hgk.out; omega
                  case rel =>
                    have := Hgk.out
                    exact ⟨k + 1, by omega, by go_num, by omega, rfl, Lib.hid (fun i hi => by
                      by_cases e : i = k
                      · rw [e, Hq.out]; rfl
                      · exact HO.out i (by omega))⟩
                · rw [hb] at hidx
                  cases ha : av k
                  · rw [ha] at hcell
                    have Hr := Lib.hid (show R.rvalid r = 7 from Hbad.out (by
                      rw [Hwi.out]
                      rcases (show k = 0 ∨ k = 1 ∨ k = 2 ∨ k = 3 by omega) with rfl | rfl | rfl | rfl <;> simp [ha, hb]))
                    have HbE := Lib.hid (Hb2.out.trans (HB6.out.mono Hb2.out.size))
                    clear ha hb
                    go_wp2
                    go_ret
                    exact ⟨ret_int Hr.out.symm, HbE.out⟩
                  · rw [ha] at hcell
                    have Hq := Lib.hid ha
                    clear ha hb
                    go_wp2
                    go_roundg (gk - 1)
                    case measure => have := Hgk.out; omega
                    case rel =>
                      have := Hgk.out
                      exact ⟨k + 1, by omega, by go_num, by omega, rfl, Lib.hid (fun i hi => by
                        by_cases e : i = k
                        · rw [e, Hq.out]; simp
                        · exact HO.out i (by omega))⟩
              · obtain rfl : k = 4 := by omega
                rw [show ((4 : Nat) : Int) = 4 from rfl]
                have e4 := cells_six bv R2.out 4 (by omega)
                have e5 := cells_six bv R2.out 5 (by omega)
                have HO4 := Lib.hid HO.out
                clear hk hlt Hgk HO
                go_wp2
                clear e4 e5
                go_loopg [126] 3 (fun g i wr => ∃ (k : Nat), k ≤ 2 ∧ i = .int .i64 (k : Int) ∧ g + k = 3 ∧ W6 = wr ∧ Hid (∀ i, i < k → (!bv (4 + i) || av (4 + i)) = true))
                case atStart => exact ⟨0, Nat.zero_le _, rfl, rfl, rfl, Lib.hid (fun i hi => by omega)⟩
                case round =>
                  obtain ⟨k, hk, rfl, hgk, rfl, HO⟩ := hrel
                  have Hgk := Lib.hid hgk; clear hgk
                  by_cases hlt : k < 2
                  · have hidx := run_idx2 bv k hlt W6
                    have hcell := cells_six av R1.out (4 + k) (by omega)
                    cases hb : bv (4 + k)
                    · rw [hb] at hidx
                      have Hq := Lib.hid hb
                      clear hb
                      go_wp2
                      go_roundg (gk - 1)
                      case measure => have := Hgk.out; omega
                      case rel =>
                        have := Hgk.out
                        exact ⟨k + 1, by omega, by go_num, by omega, rfl, Lib.hid (fun i hi => by
                          by_cases e : i = k
                          · rw [e, Hq.out]; rfl
                          · exact HO.out i (by omega))⟩
                    · rw [hb] at hidx
                      cases ha : av (4 + k)
                      · rw [ha] at hcell
                        have Hr := Lib.hid (show R.rvalid r = 7 from Hbad.out (by
                          rw [Hwi.out]
                          rcases (show k = 0 ∨ k = 1 by omega) with rfl | rfl <;> (simp only [Nat.add_zero, Nat.reduceAdd] at ha hb; simp [ha, hb])))
                        have HbE := Lib.hid (Hb2.out.trans (HB6.out.mono Hb2.out.size))
                        clear ha hb
                        go_wp2
                        go_ret
                        exact ⟨ret_int Hr.out.symm, HbE.out⟩
                      · rw [ha] at hcell
                        have Hq := Lib.hid ha
                        clear ha hb
                        go_wp2
                        go_roundg (gk - 1)
                        case measure => have := Hgk.out; omega
                        case rel =>
                          have := Hgk.out
                          exact ⟨k + 1, by omega, by go_num, by omega, rfl, Lib.hid (fun i hi => by
                            by_cases e : i = k
                            · rw [e, Hq.out]; simp
                            · exact HO.out i (by omega))⟩
                  · obtain rfl : k = 2 := by omega
                    rw [show ((2 : Nat) : Int) = 2 from rfl]
                    have Hw := Lib.hid (show R.within r = true from by
                      have a0 := HO4.out 0 (by omega); have a1 := HO4.out 1 (by omega); have a2 := HO4.out 2 (by omega); have a3 := HO4.out 3 (by omega)
                      have a4 := HO.out 0 (by omega); have a5 := HO.out 1 (by omega)
                      simp only [Nat.add_zero, Nat.reduceAdd] at a4 a5
                      rw [Hwi.out, a0, a1, a2, a3, a4, a5]; rfl)
                    obtain ⟨x0, x1, x2⟩ := Hc.out _ HB6.out
                    have Hcd := Lib.hid (hasCd_any 126 #[.pointer (some ⟨g1, 0, none⟩)] (fun x => !R.occ r.left 34 x.hole) AP np cp r.pre W6 (HP.out.below monoCd HB6.out) (enters_of Tryz.func126 (by kernel_rfl) rfl) (fun X hX j x hx _ _ => by
                      have hok := List.all_eq_true.1 HcdOk.out x (List.mem_of_getElem? hx)
                      unfold R.cdOk at hok
                      simp only [Bool.and_eq_true, decide_eq_true_eq] at hok
                      obtain ⟨⟨⟨_, c1⟩, c2⟩, _⟩ := hok
                      obtain ⟨h, hh⟩ : ∃ h : Nat, x.hole = h := ⟨x.hole.toNat, by omega⟩
                      have hb : R.occ r.left 34 x.hole = av (4 + h) := by
                        rw [hh]
                        rcases (show h = 0 ∨ h = 1 by omega) with rfl | rfl
                        · exact Ho0.out.symm
                        · exact Ho1.out.symm
                      rw [hb]
                      have hc := cells_six av R1.out (4 + h) (by omega)
                      exact vclo2_any x g1 [] (av (4 + h)) h X hh (by omega) ((hX.cell (p := ⟨g1, 4 + h, none⟩) (cell_below hc)).trans hc)))
                    have Hall := Lib.hid (all_any (fun x : R.Cd => R.occ r.left 34 x.hole) r.pre)
                    clear hk hlt Hgk HO HO4 Ho0 Ho1 Hwi
                    cases hpc : r.pre.any (fun x => !R.occ r.left 34 x.hole)
                    · rw [hpc] at Hcd Hall
                      clear hpc
                      go_wp2_with fail
                      (with_reducible refine Hcd.out.mono ?_)
                      rintro e w7 ⟨rfl, hb7⟩
                      have HbE := Lib.hid (Hb2.out.trans ((HB6.out.trans (hb7.mono HB6.out.size)).mono Hb2.out.size))
                      clear hb7 x0 x1 x2
                      go_wp2
                      go_ret
                      exact ⟨ret_int (by rw [Hv5.out, Hw.out, ← Hall.out]; rfl), HbE.out⟩
                    · rw [hpc] at Hcd Hall
                      clear hpc
                      go_wp2_with fail
                      (with_reducible refine Hcd.out.mono ?_)
                      rintro e w7 ⟨rfl, hb7⟩
                      have HbE := Lib.hid (Hb2.out.trans ((HB6.out.trans (hb7.mono HB6.out.size)).mono Hb2.out.size))
                      clear hb7 x0 x1 x2
                      go_wp2
                      go_ret
                      exact ⟨ret_int (by rw [Hv5.out, Hw.out, ← Hall.out]; rfl), HbE.out⟩
end Go.Proofs.YtbiopedpceddeaaGreatDoor
