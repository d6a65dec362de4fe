/- Part. -/
import Derived.Test.YtbiopedpceddeaaGreatDoorQz05
import Derived.Deep.DeepCutAuto
set_option linter.unusedVariables false
set_option linter.unusedSimpArgs false
set_option maxRecDepth 100000
set_option maxHeartbeats 16000000
namespace Go.Proofs.YtbiopedpceddeaaGreatDoor
section
open Go.RowKit
theorem cells6 {X : World} {g : Nat} {T : TypeId} (h : X.heap[g]? = some (.cells #[.bool false, .bool false, .bool false, .bool false, .bool false, .bool false] T (0, 0))) : X.cell? ⟨g, 0, none⟩ = some (.bool false) ∧ X.cell? ⟨g, 1, none⟩ = some (.bool false) ∧ X.cell? ⟨g, 2, none⟩ = some (.bool false) ∧ X.cell? ⟨g, 3, none⟩ = some (.bool false) ∧ X.cell? ⟨g, 4, none⟩ = some (.bool false) ∧ X.cell? ⟨g, 5, none⟩ = some (.bool false) ∧ X.frozen? ⟨g, 0, none⟩ = false ∧ X.frozen? ⟨g, 1, none⟩ = false ∧ X.frozen? ⟨g, 2, none⟩ = false ∧ X.frozen? ⟨g, 3, none⟩ = false ∧ X.frozen? ⟨g, 4, none⟩ = false ∧ X.frozen? ⟨g, 5, none⟩ = false := by
 refine ⟨?_, ?_, ?_, ?_, ?_, ?_, frozen_row h _, frozen_row h _, frozen_row h _, frozen_row h _, frozen_row h _, frozen_row h _⟩
 all_goals rw [cell_of_row _ _ _ _ _ (0, 0) h]; rfl
theorem vclo1_any (x : R.Cd) (W : World) :
 Calls Tryz.prog 123 #[cdV x] W fun e w' => e = .returned (.bool (!R.cdOk x)) ∧ Below W.heap.size W w' := by
 have hB1 : Below W.heap.size W (W.alloc (.cells #[.int .i64 x.kind, .int .i64 x.hole, .int .u32 x.imm] 88)) := al0
 have HB1 := kH hB1
 have H := kH (gisCond_any x (W.alloc (.cells #[.int .i64 x.kind, .int .i64 x.hole, .int .u32 x.imm] 88)))
 generalize R.cdOk x = b at *
 unfold cdV at *
 clear hB1
 go_enter Tryz.func123, Tryz.ntmps123
 go_wp2_with fail
 (with_reducible refine H.out.mono ?_)
 rintro e w2 ⟨rfl, hb2⟩
 have Hb2 := kH (HB1.out.trans (hb2.mono HB1.out.size))
 clear hb2
 go_wp2
 go_ret
 exact ⟨rfl, Hb2.out⟩
theorem vclo2_any (x : R.Cd) (g : Nat) (cs : List Bool) (b : Bool) (h : Nat) (W : World) (hh : x.hole = h) (h2 : h < 2) (hc : W.cell? ⟨g, 4 + h, none⟩ = some (.bool b)) :
 Calls Tryz.prog 126 #[cdV x, .pointer (some ⟨g, 0, none⟩)] W fun e w' => e = .returned (.bool (!b)) ∧ Below W.heap.size W w' := by
 have hB1 : Below W.heap.size W (W.alloc (.cells #[.int .i64 x.kind, .int .i64 x.hole, .int .u32 x.imm] 88)) := al0
 have hc1 := (hB1.cell (p := ⟨g, 4 + h, none⟩) (cell_below hc)).trans hc
 have HB1 := kH hB1
 obtain ⟨kind, hole, imm⟩ := x
 dsimp only at *
 subst hh
 unfold cdV at *
 dsimp only at *
 clear hB1 hc
 go_enter Tryz.func126, Tryz.ntmps126
 go_wp2
 go_ret
 exact ⟨rfl, HB1.out⟩
namespace R
def side (r : Rl) (k : Nat) : List T.Nd := if k = 0 then r.left else r.right
def okSide (r : Rl) (k : Nat) : Bool := (side r k).zipIdx.all fun q => pnode (side r k) ((k : Int) == 1) q.2 q.1
theorem okSide_iff {r : Rl} {k : Nat} : okSide r k = true ↔ ∀ i x, (side r k)[i]? = some x → pnode (side r k) ((k : Int) == 1) i x = true := by
 unfold okSide
 rw [List.all_eq_true]
 constructor
 · intro h i x hx
   exact h (x, i) (List.mem_zipIdx_iff_getElem?.2 hx)
 · rintro h ⟨x, i⟩ hp
   exact h i x (List.mem_zipIdx_iff_getElem?.1 hp)
theorem okSide_bad {r : Rl} {k i : Nat} {x : T.Nd} (hx : (side r k)[i]? = some x) (h : pnode (side r k) ((k : Int) == 1) i x = false) : okSide r k = false := by
 rw [Bool.eq_false_iff]
 intro h'
 rw [okSide_iff.1 h' i x hx] at h
 cases h
def okTyped (r : Rl) : Bool := (r.left.all (T.typed r.left)) && (r.right.all (T.typed r.right)) && decide (rootW r.left ≤ 1) && decide (rootW r.right = rootW r.left)
theorem rvalid_len {r : Rl} (h : r.left.length < 1 ∨ 12 < r.left.length ∨ r.right.length < 1 ∨ 12 < r.right.length ∨ 4 < r.pre.length) : rvalid r = 3 := by
 unfold rvalid; rw [if_pos h]
theorem rvalid_next {r : Rl} (h : ¬ (r.left.length < 1 ∨ 12 < r.left.length ∨ r.right.length < 1 ∨ 12 < r.right.length ∨ 4 < r.pre.length)) : rvalid r = if (okSide r 0 && okSide r 1) = false then 1 else if (r.pre.all cdOk) = false then 1 else if okTyped r = false then 6 else if ((r.right.all fun x => (!decide (x.op = 33 ∨ x.op = 34)) || occ r.left x.op x.imm) && (r.pre.all fun c => occ r.left 34 c.hole)) = false then 7 else 0 := by
 unfold rvalid; rw [if_neg h]; rfl
end R
theorem run_idx4 (f : Nat → Bool) (k : Nat) (hk : k < 4) (W : World) : (Instr.index 178 (.agg #[.bool (f 0), .bool (f 1), .bool (f 2), .bool (f 3)]) (.int .i64 (k : Int))).run Tryz.prog W = .ok (.bool (f k)) W := by
 have h4 : (k : Int) < 4 := by omega
 rcases (show k = 0 ∨ k = 1 ∨ k = 2 ∨ k = 3 by omega) with rfl | rfl | rfl | rfl
 all_goals simp [Instr.index, run_underlying Tryz.underlying178, asIntOf, part, go_sem]
theorem run_idx2 (f : Nat → Bool) (k : Nat) (hk : k < 2) (W : World) : (Instr.index 142 (.agg #[.bool (f 4), .bool (f 5)]) (.int .i64 (k : Int))).run Tryz.prog W = .ok (.bool (f (4 + k))) W := by
 have h4 : (k : Int) < 2 := by omega
 rcases (show k = 0 ∨ k = 1 by omega) with rfl | rfl
 all_goals simp [Instr.index, run_underlying Tryz.underlying142, asIntOf, part, go_sem]
theorem cells_six {w : World} {g : Nat} {T : TypeId} (f : Nat → Bool) (h : w.heap[g]? = some (.cells #[.bool (f 0), .bool (f 1), .bool (f 2), .bool (f 3), .bool (f 4), .bool (f 5)] T (0, 0))) : ∀ k, k < 6 → w.cell? ⟨g, k, none⟩ = some (.bool (f k)) := by
 intro k hk
 rw [cell_of_row _ _ _ _ _ (0, 0) h]
 rcases (show k = 0 ∨ k = 1 ∨ k = 2 ∨ k = 3 ∨ k = 4 ∨ k = 5 by omega) with rfl | rfl | rfl | rfl | rfl | rfl <;> rfl
def set6 (w : World) (g : Nat) (l : List Bool) : World := (((((w.setCell ⟨g, 0, none⟩ (.bool (l[0]?.getD false))).setCell ⟨g, 1, none⟩ (.bool (l[1]?.getD false))).setCell ⟨g, 2, none⟩ (.bool (l[2]?.getD false))).setCell ⟨g, 3, none⟩ (.bool (l[3]?.getD false))).setCell ⟨g, 4, none⟩ (.bool (l[4]?.getD false))).setCell ⟨g, 5, none⟩ (.bool (l[5]?.getD false))
theorem set6_row {w : World} {g : Nat} {T : TypeId} (l : List Bool) (h : w.heap[g]? = some (.cells #[.bool false, .bool false, .bool false, .bool false, .bool false, .bool false] T (0, 0))) :
 (set6 w g l).heap[g]? = some (.cells #[.bool (l[0]?.getD false), .bool (l[1]?.getD false), .bool (l[2]?.getD false), .bool (l[3]?.getD false), .bool (l[4]?.getD false), .bool (l[5]?.getD false)] T (0, 0)) := by
 have h1 := heap_setCell_same w g 0 _ _ (.bool (l[0]?.getD false)) h
 have h2 := heap_setCell_same _ g 1 _ _ (.bool (l[1]?.getD false)) h1
 have h3 := heap_setCell_same _ g 2 _ _ (.bool (l[2]?.getD false)) h2
 have h4 := heap_setCell_same _ g 3 _ _ (.bool (l[3]?.getD false)) h3
 have h5 := heap_setCell_same _ g 4 _ _ (.bool (l[4]?.getD false)) h4
 exact heap_setCell_same _ g 5 _ _ (.bool (l[5]?.getD false)) h5
theorem set6_other {w : World} {g g' : Nat} (l : List Bool) (h : g' ≠ g) : (set6 w g l).heap[g']? = w.heap[g']? := by
 unfold set6
 rw [heap_setCell_other _ _ _ _ h, heap_setCell_other _ _ _ _ h, heap_setCell_other _ _ _ _ h, heap_setCell_other _ _ _ _ h, heap_setCell_other _ _ _ _ h, heap_setCell_other _ _ _ _ h]
theorem set6_below {W w : World} {g : Nat} (l : List Bool) (h : Below W.heap.size W w) (hg : W.heap.size ≤ g) : Below W.heap.size W (set6 w g l) := by
 unfold set6
 exact (((((h.setCell (p := ⟨g, 0, none⟩) hg _).setCell (p := ⟨g, 1, none⟩) hg _).setCell (p := ⟨g, 2, none⟩) hg _).setCell (p := ⟨g, 3, none⟩) hg _).setCell (p := ⟨g, 4, none⟩) hg _).setCell (p := ⟨g, 5, none⟩) hg _
theorem within_six {r : R.Rl} : R.within r = ((!(R.unk true r.right)[0]?.getD false || (R.unk false r.left)[0]?.getD false) && (!(R.unk true r.right)[1]?.getD false || (R.unk false r.left)[1]?.getD false) && (!(R.unk true r.right)[2]?.getD false || (R.unk false r.left)[2]?.getD false) && (!(R.unk true r.right)[3]?.getD false || (R.unk false r.left)[3]?.getD false) && (!(R.unk true r.right)[4]?.getD false || (R.unk false r.left)[4]?.getD false) && (!(R.unk true r.right)[5]?.getD false || (R.unk false r.left)[5]?.getD false)) := by
 unfold R.within
 simp [List.range, List.range.loop, List.getD_eq_getElem?_getD, Bool.and_assoc]
theorem gValidate_any (r : R.Rl) (nl cl nr cr np cp : Nat) (AL AR AP : Option Addr) (W : World) (hL : StAt 5 NdR W AL nl r.left) (hR : StAt 5 NdR W AR nr r.right) (hP : StAt 3 CdR W AP np r.pre) (fL : R.flr r.left) (fR : R.flr r.right) :
 Calls Tryz.prog 58 #[.agg #[.slice AL nl cl, .slice AR nr cr, .slice AP np cp]] W fun e w' => e = .returned (.int .i64 (R.rvalid r)) ∧ Below W.heap.size W w' := by
 have hlL := hL.le
 have hlR := hR.le
 have hlP := hP.le
 obtain ⟨W2, hW2⟩ : ∃ W2, W2 = (W.alloc (.cells #[.slice AL nl cl, .slice AR nr cr, .slice AP np cp] 33)).alloc (.cells #[.slice AL nl cl, .slice AR nr cr] 22) := ⟨_, rfl⟩
 have hb2 : Below W.heap.size W W2 := by rw [hW2]; exact (al0).alloc (by simp) _
 have hr0 : W2.heap[W.heap.size]? = some (.cells #[.slice AL nl cl, .slice AR nr cr, .slice AP np cp] 33 (0, 0)) := by rw [hW2]; exact row_alloc (heap_alloc_new W _) _
 have hr1 : W2.heap[W.heap.size + 1]? = some (.cells #[.slice AL nl cl, .slice AR nr cr] 22 (0, 0)) := by rw [hW2]; exact new_two W _ _
 have hs2 : W2.heap.size = W.heap.size + 2 := by rw [hW2]; simp
 have HL := kH (hL.below monoNd hb2)
 have HR := kH (hR.below monoNd hb2)
 have HP := kH (hP.below monoCd hb2)
 have HlL := kH hL.len
 have HlR := kH hR.len
 have HlP := kH hP.len
 have FL := kH fL
 have FR := kH fR
 have Hb2 := kH hb2
 have Hc := kH (show ∀ X, Below W2.heap.size W2 X → X.cell? ⟨W.heap.size, 0, none⟩ = some (.slice AL nl cl) ∧ X.cell? ⟨W.heap.size, 1, none⟩ = some (.slice AR nr cr) ∧ X.cell? ⟨W.heap.size, 2, none⟩ = some (.slice AP np cp) from fun X hX => by
  have hr := row_step (kH hX) hr0
  refine ⟨?_, ?_, ?_⟩
  all_goals rw [cell_of_row _ _ _ _ _ (0, 0) hr]; rfl)
 have HS := kH (show ∀ k, k < 2 → ∃ A n c, n ≤ 9223372036854775807 ∧ StAt 5 NdR W2 A n (R.side r k) ∧ (R.side r k).length = n ∧ R.flr (R.side r k) ∧ (k = 0 → n = nl) ∧ (k = 1 → n = nr) ∧ ∀ X, Below W2.heap.size W2 X → X.cell? ⟨W.heap.size + 1, k, none⟩ = some (.slice A n c) from fun k hk => by
  have : k = 0 ∨ k = 1 := by omega
  rcases this with rfl | rfl
  · exact ⟨AL, nl, cl, hlL, HL.out, HlL.out, FL.out, fun _ => rfl, fun h => by omega, fun X hX => by rw [cell_of_row _ _ _ _ _ (0, 0) (row_step (kH hX) hr1)]; rfl⟩
  · exact ⟨AR, nr, cr, hlR, HR.out, HlR.out, FR.out, fun h => by omega, fun _ => rfl, fun X hX => by rw [cell_of_row _ _ _ _ _ (0, 0) (row_step (kH hX) hr1)]; rfl⟩)
 clear hL hR hP fL fR hb2 hr0 hr1
 go_enter Tryz.func58, Tryz.ntmps58
 go_wp2
 rw [← hW2]
 clear hW2
 go_loopg [24] 3 (fun g i wr => ∃ (k : Nat), k ≤ 2 ∧ i = .int .i64 (k : Int) ∧ g + k = 3 ∧ W2 = wr ∧ (1 ≤ k → 1 ≤ nl ∧ nl ≤ 12) ∧ (2 ≤ k → 1 ≤ nr ∧ nr ≤ 12))
 case atStart => exact ⟨0, Nat.zero_le _, rfl, rfl, rfl, fun h => by omega, fun h => by omega⟩
 case round =>
  obtain ⟨k, hk, rfl, hgk, rfl, b1, b2⟩ := hrel
  have Hgk := kH hgk; clear hgk
  have B1 := kH b1
  have B2 := kH b2
  clear b1 b2
  by_cases hlt : k < 2
  · obtain ⟨A, n, c, hn, hst, hln, _, e0, e1, hcc⟩ := HS.out k hlt
    have hc := hcc _ (Below.refl _ _)
    have E0 := kH e0
    have E1 := kH e1
    clear hst hln e0 e1 hcc
    by_cases hbad : n < 1 ∨ 12 < n
    · have Hv := kH (show R.rvalid r = 3 from R.rvalid_len (by
       have h1 := HlL.out; have h2 := HlR.out
       have : k = 0 ∨ k = 1 := by omega
       rcases this with h | h
       · have := E0.out h; omega
       · have := E1.out h; omega))
      by_cases h0 : n < 1
      · have q0 : decide ((n : Int) < 1) = true := by simp; omega
        clear hbad h0
        go_wp2
        go_ret
        exact ⟨ret_int Hv.out.symm, Hb2.out⟩
      · have q0 : decide ((n : Int) < 1) = false := by simp; omega
        have q1 : decide (12 < (n : Int)) = true := by simp; omega
        clear hbad h0
        go_wp2
        go_ret
        exact ⟨ret_int Hv.out.symm, Hb2.out⟩
    · have q0 : decide ((n : Int) < 1) = false := by simp; omega
      have q1 : decide (12 < (n : Int)) = false := by simp; omega
      go_wp2
      go_roundg (gk - 1)
      case measure => have := Hgk.out; omega
      case rel =>
       have := Hgk.out
       exact ⟨k + 1, by omega, by go_num, by omega, rfl, fun h => by
        by_cases h0 : k = 0
        · have := E0.out h0; omega
        · exact B1.out (by omega), fun h => by
        have := E1.out (by omega); omega⟩
  · obtain rfl : k = 2 := by omega
    rw [show ((2 : Nat) : Int) = 2 from rfl]
    obtain ⟨l1, l2⟩ := B1.out (by omega)
    obtain ⟨r1, r2⟩ := B2.out (by omega)
    obtain ⟨x0, x1, x2⟩ := Hc.out _ (Below.refl _ _)
    clear B1 B2 Hgk
    by_cases h4 : 4 < np
    · have q : decide (4 < (np : Int)) = true := by simp; omega
      have Hv := kH (show R.rvalid r = 3 from R.rvalid_len (by have := HlP.out; omega))
      clear h4
      go_wp2
      go_ret
      exact ⟨ret_int Hv.out.symm, Hb2.out⟩
    have q : decide (4 < (np : Int)) = false := by simp; omega
    have Hv := kH (R.rvalid_next (r := r) (by have h1 := HlL.out; have h2 := HlR.out; have h3 := HlP.out; omega))
    have HN := kH (show nl ≤ 12 ∧ nr ≤ 12 ∧ 1 ≤ nl ∧ 1 ≤ nr from ⟨l2, r2, l1, r1⟩)
    have hg1 : np ≤ 4 := by omega
    clear q h4 l1 l2 r1 r2
    go_wp2
    go_loopg [43] 3 (fun g i wr => ∃ (k : Nat), k ≤ 2 ∧ i = .int .i64 (k : Int) ∧ g + k = 3 ∧ Below W2.heap.size W2 wr ∧ Hid (∀ i, i < k → R.okSide r i = true))
    case atStart => exact ⟨0, Nat.zero_le _, rfl, rfl, Below.refl _ _, fun i hi => by omega⟩
    case round =>
     obtain ⟨k, hk, rfl, hgk, hbw, HO⟩ := hrel
     have Hgk := kH hgk; clear hgk x0 x1 x2
     have HB := kH hbw; clear hbw
     by_cases hlt : k < 2
     · obtain ⟨A, n, c, hn, hst, hln, hfl, e0, e1, hcc⟩ := HS.out k hlt
       have hc := hcc _ HB.out
       have hn12 : n ≤ 12 := by
        have := HN.out
        have : k = 0 ∨ k = 1 := by omega
        rcases this with h | h
        · have := e0 h; omega
        · have := e1 h; omega
       have HT := kH hst
       have Hln := kH hln
       have Hf := kH hfl
       clear hst hln hfl e0 e1 hcc hn
       obtain ⟨rt, hrt⟩ : ∃ rt, ((k : Int) == 1) = rt := ⟨_, rfl⟩
       have Hrt := kH hrt
       obtain ⟨gO, rfl⟩ : ∃ g, g = gk := ⟨_, rfl⟩
       have q : decide ((k : Int) < 2) = true := by simp; omega
       go_wp2
       try simp only [q]
       clear q
       go_loopg [50] (n + 1) (fun g i wr => ∃ (j : Nat), j ≤ n ∧ i = .int .i64 (j : Int) ∧ g + j = n + 1 ∧ Below W2.heap.size W2 wr ∧ Hid (∀ i x, i < j → (R.side r k)[i]? = some x → R.pnode (R.side r k) rt i x = true))
       case atStart => exact ⟨0, Nat.zero_le _, rfl, rfl, HB.out, fun i x hi => by omega⟩
       case round =>
        clear hc HB
        obtain ⟨j, hj, rfl, hgk2, hbw, HQ⟩ := hrel
        have Hgk2 := kH hgk2; clear hgk2
        by_cases hjn : j < n
        · obtain ⟨x, b, off, A', c', hx, rfl, hb, h0, h1, h2, h3, h4, hs, i0, i1⟩ := nd_cells HT.out hjn
          have k0 := (hbw.cell (p := ⟨b, off + j * 5, none⟩) hb).trans h0
          have k1 := (hbw.cell (p := ⟨b, off + j * 5 + 1, none⟩) hb).trans h1
          have k2 := (hbw.cell (p := ⟨b, off + j * 5 + 2, none⟩) hb).trans h2
          have k3 := (hbw.cell (p := ⟨b, off + j * 5 + 3, none⟩) hb).trans h3
          have k4 := (hbw.cell (p := ⟨b, off + j * 5 + 4, none⟩) hb).trans h4
          have Hx := kH hx
          have Hbw := kH (hbw.alloc hbw.size (.cells #[.int .i64 x.op, .int .i64 x.w, .int .i64 x.fl, .slice A' x.args.length c', .int .u32 x.imm] 62))
          have Hc2 := kH (gPatternNode_any (R.side r k) n c _ rt j x A' c' (wr.alloc (.cells #[.int .i64 x.op, .int .i64 x.w, .int .i64 x.fl, .slice A' x.args.length c', .int .u32 x.imm] 62)) (HT.out.below monoNd Hbw.out) hjn (hs.below (monoInt _) Hbw.out) (Hf.out x (List.mem_of_getElem? hx)) ⟨i0, i1⟩)
          unfold ndV at Hc2
          clear h0 h1 h2 h3 h4 hs hx hb hbw i0 i1
          cases hsh : R.pnode (R.side r k) rt j x
          · rw [hsh] at Hc2
            have Hsh := kH hsh
            clear hsh
            go_wp2_with fail
            (with_reducible refine Hc2.out.mono ?_)
            rintro e w2 ⟨rfl, hb2⟩
            have HbE := kH (Hb2.out.trans ((Hbw.out.trans (hb2.mono Hbw.out.size)).mono Hb2.out.size))
            clear hb2 k0 k1 k2 k3 k4
            go_wp2
            go_ret
            exact ⟨ret_int (by
             have hbad := R.okSide_bad (r := r) (k := k) Hx.out (by rw [Hrt.out]; exact Hsh.out)
             have : (R.okSide r 0 && R.okSide r 1) = false := by
              have : k = 0 ∨ k = 1 := by omega
              rcases this with rfl | rfl
              · rw [hbad]; rfl
              · rw [hbad, Bool.and_false]
             rw [Hv.out, if_pos this]), HbE.out⟩
          · rw [hsh] at Hc2
            have Hsh := kH hsh
            clear hsh
            go_wp2_with fail
            (with_reducible refine Hc2.out.mono ?_)
            rintro e w2 ⟨rfl, hb2⟩
            have HbE := kH (Hbw.out.trans (hb2.mono Hbw.out.size))
            clear hb2 k0 k1 k2 k3 k4
            go_wp2
            go_roundg (gk - 1)
            case measure => have := Hgk2.out; omega
            case rel =>
             have := Hgk2.out
             exact ⟨j + 1, by omega, by go_num, by omega, HbE.out, kH (fun i y hi hy => by
              by_cases e : i = j
              · subst e
                have := Hx.out.symm.trans hy
                cases this
                exact Hsh.out
              · exact HQ.out i y (by omega) hy)⟩
        · obtain rfl : j = n := by omega
          have Hok := kH (show R.okSide r k = true from R.okSide_iff.2 (fun i x hx => by
           rw [Hrt.out]
           exact HQ.out i x (by have := (List.getElem?_eq_some_iff.1 hx).1; have := Hln.out; omega) hx))
          have Hbw := kH hbw
          clear hbw HQ
          go_wp2
          go_roundg (gO - 1)
          case measure => have := Hgk.out; omega
          case rel =>
           have := Hgk.out
           exact ⟨k + 1, by omega, by go_num, by omega, Hbw.out, kH (fun i hi => by
            by_cases e : i = k
            · rw [e]; exact Hok.out
            · exact HO.out i (by omega))⟩
     · obtain rfl : k = 2 := by omega
       have Ho := kH (show (∀ i x, (R.side r 0)[i]? = some x → R.pnode r.left false i x = true) ∧ (∀ i x, (R.side r 1)[i]? = some x → R.pnode r.right true i x = true) from ⟨R.okSide_iff.1 (HO.out 0 (by omega)), R.okSide_iff.1 (HO.out 1 (by omega))⟩)
       have Hv2 := kH (show R.rvalid r = if (r.pre.all R.cdOk) = false then 1 else if R.okTyped r = false then 6 else if ((r.right.all fun x => (!decide (x.op = 33 ∨ x.op = 34)) || R.occ r.left x.op x.imm) && (r.pre.all fun c => R.occ r.left 34 c.hole)) = false then 7 else 0 from by rw [Hv.out, HO.out 0 (by omega), HO.out 1 (by omega)]; rfl)
       obtain ⟨x0, x1, x2⟩ := Hc.out _ HB.out
       have HPc := kH (hasCd_any 123 #[] (fun x => !R.cdOk x) AP np cp r.pre wr (HP.out.below monoCd HB.out) (enters_of Tryz.func123 (by kernel_rfl) rfl) (fun X hX j x hx _ _ => by simpa using vclo1_any x X))
       have HPe := kH (all_any R.cdOk r.pre)
       clear Hgk HO Hv
       cases hpc : r.pre.any (fun x => !R.cdOk x)
       rotate_left
       · rw [hpc] at HPc HPe
         clear hpc
         go_wp2_with fail
         (with_reducible refine HPc.out.mono ?_)
         rintro e w2 ⟨rfl, hb2⟩
         have HbE := kH (Hb2.out.trans ((HB.out.trans (hb2.mono HB.out.size)).mono Hb2.out.size))
         clear hb2 x0 x1 x2
         go_wp2
         go_ret
         exact ⟨ret_int (by rw [Hv2.out, ← HPe.out]; rfl), HbE.out⟩
       rw [hpc] at HPc HPe
       clear hpc
       have HcdOk := kH (show r.pre.all R.cdOk = true from HPe.out.symm)
       have Hv3 := kH (show R.rvalid r = if R.okTyped r = false then 6 else if ((r.right.all fun x => (!decide (x.op = 33 ∨ x.op = 34)) || R.occ r.left x.op x.imm) && (r.pre.all fun c => R.occ r.left 34 c.hole)) = false then 7 else 0 from by rw [Hv2.out, HcdOk.out]; rfl)
       go_wp2_with fail
       (with_reducible refine HPc.out.mono ?_)
       rintro e w2 ⟨rfl, hb2⟩
       have HB2 := kH (HB.out.trans (hb2.mono HB.out.size))
       clear hb2 x0 x1 x2 HPc HB HPe Hv2
       obtain ⟨x0, x1, x2⟩ := Hc.out _ HB2.out
       obtain ⟨hn1, hn2, hn3, hn4⟩ := HN.out
       obtain ⟨ml, rfl⟩ : ∃ m, nl = m + 1 := ⟨nl - 1, by omega⟩
       obtain ⟨mr, rfl⟩ : ∃ m, nr = m + 1 := ⟨nr - 1, by omega⟩
       have el : (ml : Int) + 1 - 1 = (ml : Int) := by omega
       have er : (mr : Int) + 1 - 1 = (mr : Int) := by omega
       obtain ⟨y, b, off, Ay, cy, hy, rfl, hb, _, hy1, _, _, _, _, _, _⟩ := nd_cells HL.out (show ml < ml + 1 by omega)
       obtain ⟨z, b', off', Az, cz, hz, rfl, hb', _, hz1, _, _, _, _, _, _⟩ := nd_cells HR.out (show mr < mr + 1 by omega)
       have y1 := (HB2.out.cell (p := ⟨b, off + ml * 5 + 1, none⟩) hb).trans hy1
       have Hyz := kH (show ∀ X, Below W2.heap.size W2 X → X.cell? ⟨b', off' + mr * 5 + 1, none⟩ = some (.int .i64 z.w) from fun X hX => (hX.cell (p := ⟨b', off' + mr * 5 + 1, none⟩) hb').trans hz1)
       have Hok := kH (show R.okTyped r = ((r.left.all (T.typed r.left)) && (r.right.all (T.typed r.right)) && decide (y.w ≤ 1) && decide (z.w = y.w)) from by
        have h1 : R.rootW r.left = y.w := by
         unfold R.rootW
         rw [HlL.out, Nat.add_sub_cancel, List.getD_eq_getElem?_getD, hy]; rfl
        have h2 : R.rootW r.right = z.w := by
         unfold R.rootW
         rw [HlR.out, Nat.add_sub_cancel, List.getD_eq_getElem?_getD, hz]; rfl
        unfold R.okTyped
        rw [h1, h2])
       have HTL := kH (fun X (hX : Below W2.heap.size W2 X) => gallTyped_any r.left (ml + 1) cl _ X (HL.out.below monoNd hX) (fun x hx h1 h2 => by
        obtain ⟨i, hi⟩ := List.mem_iff_getElem?.1 hx
        exact R.pnode_ar (Ho.out.1 i x hi) h1 h2) (fun x hx a ha => by
        obtain ⟨i, hi⟩ := List.mem_iff_getElem?.1 hx
        have := R.pnode_args (Ho.out.1 i x hi) a ha
        have := (List.getElem?_eq_some_iff.1 hi).1
        have := HlL.out
        omega))
       have HTR := kH (fun X (hX : Below W2.heap.size W2 X) => gallTyped_any r.right (mr + 1) cr _ X (HR.out.below monoNd hX) (fun x hx h1 h2 => by
        obtain ⟨i, hi⟩ := List.mem_iff_getElem?.1 hx
        exact R.pnode_ar (Ho.out.2 i x hi) h1 h2) (fun x hx a ha => by
        obtain ⟨i, hi⟩ := List.mem_iff_getElem?.1 hx
        have := R.pnode_args (Ho.out.2 i x hi) a ha
        have := (List.getElem?_eq_some_iff.1 hi).1
        have := HlR.out
        omega))
       clear hy hz hb hb' hy1 hz1
       generalize y.w = yw at *
       generalize z.w = zw at *
       cases htl : r.left.all (T.typed r.left)
       · rw [htl] at HTL Hok
         clear htl HTR Hyz
         go_wp2_with fail
         (with_reducible refine (HTL.out _ HB2.out).mono ?_)
         rintro e w3 ⟨rfl, hb3⟩
         have HbE := kH (Hb2.out.trans ((HB2.out.trans (hb3.mono HB2.out.size)).mono Hb2.out.size))
         clear hb3 x0 x1 x2
         go_wp2
         go_ret
         exact ⟨ret_int (by rw [Hv3.out, Hok.out]; rfl), HbE.out⟩
       rw [htl] at HTL Hok
       clear htl
       go_wp2_with fail
       (with_reducible refine (HTL.out _ HB2.out).mono ?_)
       rintro e w3 ⟨rfl, hb3⟩
       have HB3 := kH (HB2.out.trans (hb3.mono HB2.out.size))
       clear hb3 x0 x1 x2 y1 HTL el HB2
       obtain ⟨x0, x1, x2⟩ := Hc.out _ HB3.out
       cases htr : r.right.all (T.typed r.right)
       · rw [htr] at HTR Hok
         clear htr Hyz
         go_wp2_with fail
         (with_reducible refine (HTR.out _ HB3.out).mono ?_)
         rintro e w4 ⟨rfl, hb4⟩
         have HbE := kH (Hb2.out.trans ((HB3.out.trans (hb4.mono HB3.out.size)).mono Hb2.out.size))
         clear hb4 x0 x1 x2
         go_wp2
         go_ret
         exact ⟨ret_int (by rw [Hv3.out, Hok.out]; rfl), HbE.out⟩
       rw [htr] at HTR Hok
       clear htr
       go_wp2_with fail
       (with_reducible refine (HTR.out _ HB3.out).mono ?_)
       rintro e w4 ⟨rfl, hb4⟩
       have HB4 := kH (HB3.out.trans (hb4.mono HB3.out.size))
       clear hb4 x0 x1 x2 HTR HB3
       obtain ⟨x0, x1, x2⟩ := Hc.out _ HB4.out
       have z1 := Hyz.out _ HB4.out
       by_cases hy1 : yw ≤ 1
       rotate_left
       · have q : decide (1 < yw) = true := by simp; omega
         have HbE := kH (Hb2.out.trans (HB4.out.mono Hb2.out.size))
         have hd : decide (yw ≤ 1) = false := by simpa using hy1
         rw [hd] at Hok
         clear hy1 hd
         go_wp2
         go_ret
         exact ⟨ret_int (by rw [Hv3.out, Hok.out]; rfl), HbE.out⟩
       have q : decide (1 < yw) = false := by simp; omega
       have hd : decide (yw ≤ 1) = true := by simpa using hy1
       rw [hd] at Hok
       clear hd hy1
       by_cases hzy : zw = yw
       rotate_left
       · have q2 : (zw != yw) = true := by simpa using hzy
         have HbE := kH (Hb2.out.trans (HB4.out.mono Hb2.out.size))
         have hd : decide (zw = yw) = false := by simpa using hzy
         rw [hd] at Hok
         clear hzy hd
         go_wp2
         go_ret
         exact ⟨ret_int (by rw [Hv3.out, Hok.out]; rfl), HbE.out⟩
       subst hzy
       have q2 : (zw != zw) = false := by simp
       have Hv4 := kH (show R.rvalid r = if ((r.right.all fun x => (!decide (x.op = 33 ∨ x.op = 34)) || R.occ r.left x.op x.imm) && (r.pre.all fun c => R.occ r.left 34 c.hole)) = false then 7 else 0 from by rw [Hv3.out, Hok.out]; simp)
       clear Hv3 Hok
       go_wp2_with fail
       have HUL := kH (fun X (hX : Below W2.heap.size W2 X) => gunknowns_any false r.left (ml + 1) cl _ X (HL.out.below monoNd hX) (by omega) (by omega) (fun x hx a ha => by
        obtain ⟨i, hi⟩ := List.mem_iff_getElem?.1 hx
        have := R.pnode_args (Ho.out.1 i x hi) a ha
        have := (List.getElem?_eq_some_iff.1 hi).1
        have := HlL.out
        omega) (fun x hx => by
        obtain ⟨i, hi⟩ := List.mem_iff_getElem?.1 hx
        have hp := R.pnode_imm (Ho.out.1 i x hi)
        exact ⟨fun h => by have := hp (.inl h); omega, fun h => hp (.inr h)⟩))
       have HUR := kH (fun X (hX : Below W2.heap.size W2 X) => gunknowns_any true r.right (mr + 1) cr _ X (HR.out.below monoNd hX) (by omega) (by omega) (fun x hx a ha => by
        obtain ⟨i, hi⟩ := List.mem_iff_getElem?.1 hx
        have := R.pnode_args (Ho.out.2 i x hi) a ha
        have := (List.getElem?_eq_some_iff.1 hi).1
        have := HlR.out
        omega) (fun x hx => by
        obtain ⟨i, hi⟩ := List.mem_iff_getElem?.1 hx
        have hp := R.pnode_imm (Ho.out.2 i x hi)
        exact ⟨fun h => by have := hp (.inl h); omega, fun h => hp (.inr h)⟩))
       generalize hul : R.unk false r.left = ul at HUL
       generalize hur : R.unk true r.right = ur at HUR
       have Hul := kH hul
       have Hur := kH hur
       clear hul hur x0 x1 x2 z1 er q q2 Hyz
       unfold unkV at HUL HUR
       refine wp_region_fr 6 2 (.cells #[.bool false, .bool false, .bool false, .bool false, .bool false, .bool false] 180) ?af (by kernel_rfl) (by kernel_rfl) (by kernel_rfl) (by kernel_rfl) ?_ ?_ ?_
       rotate_left
       · intro i h1 h2
         have : i = 6 ∨ i = 7 := by omega
         rcases this with rfl | rfl
         · exact ⟨_, rfl, rfl, fun ρ w => by go_simp⟩
         · exact ⟨_, rfl, rfl, fun ρ w => by go_simp⟩
       · intro X hX ov
         obtain ⟨x0, x1, x2⟩ := Hc.out X (HB4.out.trans (hX.mono HB4.out.size))
         have c0 := ov.cell x0
         have c1 := ov.cell x1
         have HX := kH (fun u => HB4.out.trans ((hX.trans ((ov.below u).mono hX.size)).mono HB4.out.size))
         have HUL2 := kH (fun u => calls_over (HUL.out (ov.f u) (HX.out u)))
         have HUR2 := kH (fun u => calls_over (HUR.out (ov.f u) (HX.out u)))
         clear x0 x1 x2
         simp only [Nat.reduceAdd, List.take_succ_cons, List.take_zero]
         repeat (go_big_quiet_step ((first | (go_at_call 125; with_reducible exact HUL2.out _) | (go_at_call 125; with_reducible exact HUR2.out _))))
         refine wpQuiet_nil ?_
         rfl
       · intro g w5 hb5 hrow hne
         obtain ⟨hg1, r1⟩ := hrow 6 (by omega) (by omega)
         obtain ⟨hg2, r2⟩ := hrow 7 (by omega) (by omega)
         have hne2 := hne 6 7 (by omega) (by omega) (by omega) (by omega) (by omega)
         simp only [List.range, List.range.loop, List.foldl_cons, List.foldl_nil, Nat.reduceAdd]
         clear hrow hne
         generalize g 6 = g1 at *
         generalize g 7 = g2 at *
         have hb25 := HB4.out.trans (hb5.mono HB4.out.size)
         obtain ⟨p0, p1, p2, p3, p4, p5, p6, p7, p8, p9, p10, p11⟩ := cells6 r1
         obtain ⟨s0, s1, s2, s3, s4, s5, s6, s7, s8, s9, s10, s11⟩ := cells6 r2
         clear HUL HUR
         simp only [Nat.reduceAdd, List.drop_succ_cons, List.drop_zero]
         have hne3 : g2 ≠ g1 := fun h => hne2 h.symm
         have Hb25 := kH hb25
         clear hb25 hb5
         simp only [Rg.dst, Act.put]
         go_wp2
         obtain ⟨W6, hW6⟩ : ∃ W6, W6 = set6 (set6 w5 g1 ul) g2 ur := ⟨_, rfl⟩
         have hz1 : W2.heap.size ≤ g1 := Nat.le_trans HB4.out.size hg1
         have hz2 : W2.heap.size ≤ g2 := Nat.le_trans HB4.out.size hg2
         have HB6 := kH (show Below W2.heap.size W2 W6 from by rw [hW6]; exact set6_below _ (set6_below _ Hb25.out hz1) hz2)
         have hR1 : W6.heap[g1]? = some (.cells #[.bool (ul[0]?.getD false), .bool (ul[1]?.getD false), .bool (ul[2]?.getD false), .bool (ul[3]?.getD false), .bool (ul[4]?.getD false), .bool (ul[5]?.getD false)] 180 (0, 0)) := by rw [hW6]; exact (set6_other _ hne2).trans (set6_row ul r1)
         have hR2 : W6.heap[g2]? = some (.cells #[.bool (ur[0]?.getD false), .bool (ur[1]?.getD false), .bool (ur[2]?.getD false), .bool (ur[3]?.getD false), .bool (ur[4]?.getD false), .bool (ur[5]?.getD false)] 180 (0, 0)) := by rw [hW6]; exact set6_row ur ((set6_other _ hne3).trans r2)
         unfold set6 at hW6
         rw [← hW6]
         clear hW6 p0 p1 p2 p3 p4 p5 p6 p7 p8 p9 p10 p11 s0 s1 s2 s3 s4 s5 s6 s7 s8 s9 s10 s11 r1 r2 Hb25 hg1 hg2 hne2 hne3 hz1 hz2
         have hwi := within_six (r := r)
         have ho0 := R.unk_left (p := r.left) (i := 4) (by omega)
         have ho1 := R.unk_left (p := r.left) (i := 5) (by omega)
         rw [Hur.out, Hul.out] at hwi
         rw [Hul.out, List.getD_eq_getElem?_getD, if_neg (by omega)] at ho0 ho1
         have hwe : _ = R.within r := R.within_iff (r := r) (fun x hx ho => by
          obtain ⟨i, hi⟩ := List.mem_iff_getElem?.1 hx
          obtain ⟨_, _, _, _, _, _, _, _, _, _, _, h0, _⟩ := HR.out.2.2 i x hi
          exact ⟨h0, R.pnode_imm (Ho.out.2 i x hi) ho⟩)
         have Hbad := kH (show R.within r = false → R.rvalid r = 7 from fun h => by rw [Hv4.out, hwe, h]; simp)
         have Hv5 := kH (show R.rvalid r = if (R.within r && (r.pre.all fun c => R.occ r.left 34 c.hole)) = false then 7 else 0 from by rw [Hv4.out, hwe])
         obtain ⟨av, hav⟩ : ∃ av : Nat → Bool, ∀ i, ul[i]?.getD false = av i := ⟨_, fun _ => rfl⟩
         obtain ⟨bv, hbv⟩ : ∃ bv : Nat → Bool, ∀ i, ur[i]?.getD false = bv i := ⟨_, fun _ => rfl⟩
         simp only [hav, hbv] at hR1 hR2 hwi ho0 ho1 ⊢
         have R1 := kH hR1
         have R2 := kH hR2
         have Hwi := kH hwi
         have Ho0 := kH ho0
         have Ho1 := kH ho1
         clear hR1 hR2 hwi ho0 ho1 hav hbv hwe
         go_loopg [111] 5 (fun g i wr => ∃ (k : Nat), k ≤ 4 ∧ i = .int .i64 (k : Int) ∧ g + k = 5 ∧ W6 = wr ∧ Hid (∀ i, i < k → (!bv i || av i) = true))
         case atStart => exact ⟨0, Nat.zero_le _, rfl, rfl, rfl, kH (fun i hi => by omega)⟩
         case round =>
          obtain ⟨k, hk, rfl, hgk, rfl, HO⟩ := hrel
          have Hgk := kH hgk; clear hgk
          by_cases hlt : k < 4
          · have hidx := run_idx4 bv k hlt W6
            have hcell := cells_six av R1.out k (by omega)
            cases hb : bv k
            · rw [hb] at hidx
              have Hq := kH hb
              clear hb
              go_wp2
              go_roundg (gk - 1)
              case measure => have := Hgk.out; omega
              case rel =>
               have := Hgk.out
               exact ⟨k + 1, by omega, by go_num, by omega, rfl, kH (fun i hi => by
                by_cases e : i = k
                · rw [e, Hq.out]; rfl
                · exact HO.out i (by omega))⟩
            · rw [hb] at hidx
              cases ha : av k
              · rw [ha] at hcell
                have Hr := kH (show R.rvalid r = 7 from Hbad.out (by
                 rw [Hwi.out]
                 rcases (show k = 0 ∨ k = 1 ∨ k = 2 ∨ k = 3 by omega) with rfl | rfl | rfl | rfl <;> simp [ha, hb]))
                have HbE := kH (Hb2.out.trans (HB6.out.mono Hb2.out.size))
                clear ha hb
                go_wp2
                go_ret
                exact ⟨ret_int Hr.out.symm, HbE.out⟩
              · rw [ha] at hcell
                have Hq := kH ha
                clear ha hb
                go_wp2
                go_roundg (gk - 1)
                case measure => have := Hgk.out; omega
                case rel =>
                 have := Hgk.out
                 exact ⟨k + 1, by omega, by go_num, by omega, rfl, kH (fun i hi => by
                  by_cases e : i = k
                  · rw [e, Hq.out]; simp
                  · exact HO.out i (by omega))⟩
          · obtain rfl : k = 4 := by omega
            rw [show ((4 : Nat) : Int) = 4 from rfl]
            have e4 := cells_six bv R2.out 4 (by omega)
            have e5 := cells_six bv R2.out 5 (by omega)
            have HO4 := kH HO.out
            clear hk hlt Hgk HO
            go_wp2
            clear e4 e5
            go_loopg [126] 3 (fun g i wr => ∃ (k : Nat), k ≤ 2 ∧ i = .int .i64 (k : Int) ∧ g + k = 3 ∧ W6 = wr ∧ Hid (∀ i, i < k → (!bv (4 + i) || av (4 + i)) = true))
            case atStart => exact ⟨0, Nat.zero_le _, rfl, rfl, rfl, kH (fun i hi => by omega)⟩
            case round =>
             obtain ⟨k, hk, rfl, hgk, rfl, HO⟩ := hrel
             have Hgk := kH hgk; clear hgk
             by_cases hlt : k < 2
             · have hidx := run_idx2 bv k hlt W6
               have hcell := cells_six av R1.out (4 + k) (by omega)
               cases hb : bv (4 + k)
               · rw [hb] at hidx
                 have Hq := kH hb
                 clear hb
                 go_wp2
                 go_roundg (gk - 1)
                 case measure => have := Hgk.out; omega
                 case rel =>
                  have := Hgk.out
                  exact ⟨k + 1, by omega, by go_num, by omega, rfl, kH (fun i hi => by
                   by_cases e : i = k
                   · rw [e, Hq.out]; rfl
                   · exact HO.out i (by omega))⟩
               · rw [hb] at hidx
                 cases ha : av (4 + k)
                 · rw [ha] at hcell
                   have Hr := kH (show R.rvalid r = 7 from Hbad.out (by
                    rw [Hwi.out]
                    rcases (show k = 0 ∨ k = 1 by omega) with rfl | rfl <;> (simp only [Nat.add_zero, Nat.reduceAdd] at ha hb; simp [ha, hb])))
                   have HbE := kH (Hb2.out.trans (HB6.out.mono Hb2.out.size))
                   clear ha hb
                   go_wp2
                   go_ret
                   exact ⟨ret_int Hr.out.symm, HbE.out⟩
                 · rw [ha] at hcell
                   have Hq := kH ha
                   clear ha hb
                   go_wp2
                   go_roundg (gk - 1)
                   case measure => have := Hgk.out; omega
                   case rel =>
                    have := Hgk.out
                    exact ⟨k + 1, by omega, by go_num, by omega, rfl, kH (fun i hi => by
                     by_cases e : i = k
                     · rw [e, Hq.out]; simp
                     · exact HO.out i (by omega))⟩
             · obtain rfl : k = 2 := by omega
               rw [show ((2 : Nat) : Int) = 2 from rfl]
               have Hw := kH (show R.within r = true from by
                have a0 := HO4.out 0 (by omega); have a1 := HO4.out 1 (by omega); have a2 := HO4.out 2 (by omega); have a3 := HO4.out 3 (by omega)
                have a4 := HO.out 0 (by omega); have a5 := HO.out 1 (by omega)
                simp only [Nat.add_zero, Nat.reduceAdd] at a4 a5
                rw [Hwi.out, a0, a1, a2, a3, a4, a5]; rfl)
               obtain ⟨x0, x1, x2⟩ := Hc.out _ HB6.out
               have Hcd := kH (hasCd_any 126 #[.pointer (some ⟨g1, 0, none⟩)] (fun x => !R.occ r.left 34 x.hole) AP np cp r.pre W6 (HP.out.below monoCd HB6.out) (enters_of Tryz.func126 (by kernel_rfl) rfl) (fun X hX j x hx _ _ => by
                have hok := List.all_eq_true.1 HcdOk.out x (List.mem_of_getElem? hx)
                unfold R.cdOk at hok
                simp only [Bool.and_eq_true, decide_eq_true_eq] at hok
                obtain ⟨⟨⟨_, c1⟩, c2⟩, _⟩ := hok
                obtain ⟨h, hh⟩ : ∃ h : Nat, x.hole = h := ⟨x.hole.toNat, by omega⟩
                have hb : R.occ r.left 34 x.hole = av (4 + h) := by
                 rw [hh]
                 rcases (show h = 0 ∨ h = 1 by omega) with rfl | rfl
                 · exact Ho0.out.symm
                 · exact Ho1.out.symm
                rw [hb]
                have hc := cells_six av R1.out (4 + h) (by omega)
                exact vclo2_any x g1 [] (av (4 + h)) h X hh (by omega) ((hX.cell (p := ⟨g1, 4 + h, none⟩) (cell_below hc)).trans hc)))
               have Hall := kH (all_any (fun x : R.Cd => R.occ r.left 34 x.hole) r.pre)
               clear hk hlt Hgk HO HO4 Ho0 Ho1 Hwi
               cases hpc : r.pre.any (fun x => !R.occ r.left 34 x.hole)
               · rw [hpc] at Hcd Hall
                 clear hpc
                 go_wp2_with fail
                 (with_reducible refine Hcd.out.mono ?_)
                 rintro e w7 ⟨rfl, hb7⟩
                 have HbE := kH (Hb2.out.trans ((HB6.out.trans (hb7.mono HB6.out.size)).mono Hb2.out.size))
                 clear hb7 x0 x1 x2
                 go_wp2
                 go_ret
                 exact ⟨ret_int (by rw [Hv5.out, Hw.out, ← Hall.out]; rfl), HbE.out⟩
               · rw [hpc] at Hcd Hall
                 clear hpc
                 go_wp2_with fail
                 (with_reducible refine Hcd.out.mono ?_)
                 rintro e w7 ⟨rfl, hb7⟩
                 have HbE := kH (Hb2.out.trans ((HB6.out.trans (hb7.mono HB6.out.size)).mono Hb2.out.size))
                 clear hb7 x0 x1 x2
                 go_wp2
                 go_ret
                 exact ⟨ret_int (by rw [Hv5.out, Hw.out, ← Hall.out]; rfl), HbE.out⟩
end
section
open Go.RowKit Go.MapKept Go.Maps Go.WideMaps
structure RlAt (W : World) (r : R.Rl) (nl nr np : Nat) (AL AR AP : Option Addr) : Prop where
 sl : StAt 5 NdR W AL nl r.left
 sr : StAt 5 NdR W AR nr r.right
 sp : StAt 3 CdR W AP np r.pre
 fl : R.flr r.left
 fr : R.flr r.right
theorem RlAt.below {W W' : World} {r : R.Rl} {nl nr np : Nat} {AL AR AP : Option Addr} (h : RlAt W r nl nr np AL AR AP) (hb : Below W.heap.size W W') : RlAt W' r nl nr np AL AR AP := ⟨h.sl.below monoNd hb, h.sr.below monoNd hb, h.sp.below monoCd hb, h.fl, h.fr⟩
theorem NdF.weak {B B' : Nat} {w : World} {us : List Value} {x : T.Nd} (h : NdF B' w us x) (hb : B ≤ B') : NdF B w us x := by
 obtain ⟨A, c, h1, h2, h3, h4, h5⟩ := h
 exact ⟨A, c, h1, h2, h3, h4, fun g hg => Nat.le_trans hb (h5 g hg)⟩
theorem OwnR.weak {B B' : Nat} {w : World} {v : Value} {l : List T.Nd} (h : OwnR (NdF B') B' w v l) (hb : B ≤ B') : OwnR (NdF B) B w v l := by
 obtain ⟨cells, h1, h2, h3⟩ := h
 exact ⟨cells, h1, fun k x hx => (h2 k x hx).weak hb, fun g hg => Nat.le_trans hb (h3 g hg)⟩
end
section
open Go.RowKit
theorem NdF.other {B : Nat} {w w' : World} {us : List Value} {x : T.Nd} {row : Option Nat} (h : NdF B w us x) (hg : w.grownBy w' row) (hr : ∀ g cur T fr, row = some g → w.heap[g]? = some (.cells cur T fr) → T ≠ 3 ∧ T ≠ 62) : NdF B w' us x := by
 obtain ⟨A, c, h1, h2, h3, h4, h5⟩ := h
 refine ⟨A, c, h1, h2.same fun g hg' => ?_, h3, h4, h5⟩
 rcases h2.2 with ⟨e, _⟩ | ⟨g', off, cap, cur, e, hcur, _⟩
 · rw [e] at hg'; simp [Value.ownBlock] at hg'
 · rw [e] at hg'
   simp [Value.ownBlock] at hg'
   subst hg'
   exact hg.block _ (gA hcur).1 (fun e => (hr _ cur _ _ e.symm hcur).1 rfl)
theorem OwnR.other {B : Nat} {w w' : World} {v : Value} {l : List T.Nd} {row : Option Nat} (h : OwnR (NdF B) B w v l) (hg : w.grownBy w' row) (hr : ∀ g cur T fr, row = some g → w.heap[g]? = some (.cells cur T fr) → T ≠ 3 ∧ T ≠ 62) : OwnR (NdF B) B w' v l := by
 obtain ⟨cells, h1, h2, h3⟩ := h
 refine ⟨cells, h1.same fun g hg' => ?_, fun k x hx => (h2 k x hx).other hg hr, h3⟩
 rcases h1.2 with ⟨rfl, _⟩ | ⟨g', off, cap, cur, rfl, hcur, _⟩
 · simp [Value.ownBlock] at hg'
 · simp [Value.ownBlock] at hg'
   subst hg'
   exact hg.block _ (gA hcur).1 (fun e => (hr _ cur _ _ e.symm hcur).2 rfl)
namespace R
end R
end
section
open Go.RowKit
def OwnC (B : Nat) (w : World) (v : Value) (cs : List R.Cd) : Prop :=
 ∃ us, OwnAt w 88 3 v cs.length us ∧ (∀ (k : Nat) (x : R.Cd), cs[k]? = some x → CdR w ((us.drop (k * 3)).take 3) x) ∧ ∀ g, v.ownBlock = some g → B ≤ g
section
variable {B B' : Nat} {w w' : World} {v : Value} {cs : List R.Cd}
theorem OwnC.nil_ (B : Nat) (w : World) : OwnC B w (.slice none 0 0) [] := ⟨[], OwnAt.nil_ _ _ _, fun k l h => by simp at h, fun g h => by simp [Value.ownBlock] at h⟩
theorem OwnC.form (h : OwnC B w v cs) : ∃ A c, v = .slice A cs.length c := by
 obtain ⟨us, h1, _⟩ := h
 exact h1.form
theorem OwnC.below (h : OwnC B w v cs) (hb : Below w.heap.size w w') : OwnC B w' v cs := by
 obtain ⟨us, h1, h2, h3⟩ := h
 exact ⟨us, h1.below hb h1.lt, fun k x hx => h2 k x hx, h3⟩
theorem OwnC.weak (h : OwnC B' w v cs) (hb : B ≤ B') : OwnC B w v cs := by
 obtain ⟨us, h1, h2, h3⟩ := h
 exact ⟨us, h1, h2, fun g hg => Nat.le_trans hb (h3 g hg)⟩
theorem OwnC.stAt {A : Option Addr} {n c : Nat} (h : OwnC B w (.slice A n c) cs) (hn : cs.length = n) : StAt 3 CdR w A n cs := by
 obtain ⟨us, h1, h2, h3⟩ := h
 rw [hn] at h1
 exact h1.stAt hn h2
end
structure OwnRl (B : Nat) (w : World) (v1 v2 v3 : Value) (r : R.Rl) : Prop where
 ol : OwnR (NdF B) B w v1 r.left
 or_ : OwnR (NdF B) B w v2 r.right
 op : OwnC B w v3 r.pre
theorem OwnRl.nil_ (B : Nat) (w : World) : OwnRl B w (.slice none 0 0) (.slice none 0 0) (.slice none 0 0) ⟨[], [], []⟩ := ⟨OwnR.nil_ _ _ _, OwnR.nil_ _ _ _, OwnC.nil_ _ _⟩
theorem OwnRl.below {B : Nat} {w w' : World} {v1 v2 v3 : Value} {r : R.Rl} (h : OwnRl B w v1 v2 v3 r) (hb : Below w.heap.size w w') : OwnRl B w' v1 v2 v3 r := ⟨h.ol.below (ndF_rel _) hb, h.or_.below (ndF_rel _) hb, h.op.below hb⟩
theorem OwnRl.weak {B B' : Nat} {w : World} {v1 v2 v3 : Value} {r : R.Rl} (h : OwnRl B' w v1 v2 v3 r) (hb : B ≤ B') : OwnRl B w v1 v2 v3 r := ⟨h.ol.weak hb, h.or_.weak hb, h.op.weak hb⟩
theorem rl_cells {w : World} {g : Nat} {T : TypeId} {a0 a1 a2 : Value} (h : w.heap[g]? = some (.cells #[a0, a1, a2] T (0, 0))) : w.cell? ⟨g, 0, none⟩ = some a0 ∧ w.cell? ⟨g, 1, none⟩ = some a1 ∧ w.cell? ⟨g, 2, none⟩ = some a2 ∧ ∀ k, w.frozen? ⟨g, k, none⟩ = false := by
 refine ⟨?_, ?_, ?_, fun k => frozen_row h k⟩
 all_goals rw [cell_of_row _ _ _ _ _ (0, 0) h]; rfl
theorem OwnC.other {B : Nat} {w w' : World} {v : Value} {l : List R.Cd} {row : Option Nat} (h : OwnC B w v l) (hg : w.grownBy w' row) (hr : ∀ g cur T fr, row = some g → w.heap[g]? = some (.cells cur T fr) → T ≠ 88) : OwnC B w' v l := by
 obtain ⟨cells, h1, h2, h3⟩ := h
 refine ⟨cells, h1.same fun g hg' => ?_, h2, h3⟩
 rcases h1.2 with ⟨rfl, _⟩ | ⟨g', off, cap, cur, rfl, hcur, _⟩
 · simp [Value.ownBlock] at hg'
 · simp [Value.ownBlock] at hg'
   subst hg'
   exact hg.block _ (gA hcur).1 (fun e => hr _ cur _ _ e.symm hcur rfl)
def set3 (w : World) (g : Nat) (a0 a1 a2 : Value) : World := ((w.setCell ⟨g, 0, none⟩ a0).setCell ⟨g, 1, none⟩ a1).setCell ⟨g, 2, none⟩ a2
theorem set3_row {w : World} {g : Nat} {T : TypeId} {b0 b1 b2 : Value} (a0 a1 a2 : Value) (h : w.heap[g]? = some (.cells #[b0, b1, b2] T (0, 0))) : (set3 w g a0 a1 a2).heap[g]? = some (.cells #[a0, a1, a2] T (0, 0)) :=
 heap_setCell_same _ g 2 _ _ a2 (heap_setCell_same _ g 1 _ _ a1 (heap_setCell_same w g 0 _ _ a0 h))
theorem set3_below {B : Nat} {W w : World} {g : Nat} (a0 a1 a2 : Value) (h : Below B W w) (hg : B ≤ g) : Below B W (set3 w g a0 a1 a2) :=
 ((h.setCell (p := ⟨g, 0, none⟩) hg _).setCell (p := ⟨g, 1, none⟩) hg _).setCell (p := ⟨g, 2, none⟩) hg _
theorem set3_grown (w : World) (g : Nat) (a0 a1 a2 : Value) : w.grownBy (set3 w g a0 a1 a2) (some g) := by
 refine ⟨rfl, rfl, rfl, by simp [set3], fun k hk hn => ?_⟩
 have : k ≠ g := fun e => hn (by rw [e])
 unfold set3
 rw [heap_setCell_other _ _ _ _ this, heap_setCell_other _ _ _ _ this, heap_setCell_other _ _ _ _ this]
theorem OwnRl.set3 {B g : Nat} {w : World} {v1 v2 v3 b0 b1 b2 : Value} {r : R.Rl} (h : OwnRl B w v1 v2 v3 r) (a0 a1 a2 : Value) (hr : w.heap[g]? = some (.cells #[b0, b1, b2] 33 (0, 0))) : OwnRl B (set3 w g a0 a1 a2) v1 v2 v3 r := by
 have hg := set3_grown w g a0 a1 a2
 have key : ∀ g' cur T fr, some g = some g' → w.heap[g']? = some (.cells cur T fr) → T = 33 := fun g' cur T fr e hc => by
  injection e with e
  subst e
  rw [hr] at hc
  injection hc with hc
  injection hc with _ hc _
  exact hc.symm
 exact ⟨h.ol.other hg fun g' cur T fr e hc => by rw [key g' cur T fr e hc]; exact ⟨by decide, by decide⟩, h.or_.other hg fun g' cur T fr e hc => by rw [key g' cur T fr e hc]; exact ⟨by decide, by decide⟩, h.op.other hg fun g' cur T fr e hc => by rw [key g' cur T fr e hc]; decide⟩
namespace R
end R
end
section
open Go.RowKit
namespace T
def long (t : List Nd) : Bool := decide (400 < t.length) || t.any fun x => decide (20 < x.args.length)
end T
theorem Long_any (t : List T.Nd) (n ct : Nat) (At : Option Addr) (W : World) (hT : StAt 5 NdR W At n t) :
 Calls Tryz.prog 13 #[.slice At n ct] W fun e w' => e = .returned (.bool (T.long t)) ∧ W = w' := by
 have HT := kH hT
 have hle := hT.le
 have hln := hT.len
 by_cases h4 : 400 < n
 · have e : T.long t = true := by unfold T.long; rw [hln, decide_eq_true h4]; rfl
   rw [e]
   clear e hT hln
   go_enter Tryz.func13, Tryz.ntmps13
   go_wp2
   go_ret
   exact ⟨rfl, rfl⟩
 · have e : T.long t = t.any fun x => decide (20 < x.args.length) := by unfold T.long; rw [hln, decide_eq_false h4]; rfl
   rw [e]
   have Hln := kH hln
   obtain ⟨r, hr⟩ : ∃ r, r = t.any fun x => decide (20 < x.args.length) := ⟨_, rfl⟩
   rw [← hr]
   have Hr := kH hr
   clear e hT hln hr
   go_enter Tryz.func13, Tryz.ntmps13
   go_wp2
   go_loop [3] (fun i => ∃ j : Nat, j ≤ n ∧ i = .int .i64 (j : Int) ∧ Hid ((t.take j).any (fun x => decide (20 < x.args.length)) = false)) (fun i => n - (intOf i).toNat)
   case atStart => exact ⟨0, Nat.zero_le _, rfl, kH rfl⟩
   case round =>
    obtain ⟨j, hj, rfl, Hany⟩ := hrel
    by_cases hlt : j < n
    · obtain ⟨x, b, off, A, c, hx, rfl, hb, _, _, _, h3, _, hs, _, _⟩ := nd_cells HT.out hlt
      have hle3 := hs.le
      by_cases h20 : 20 < x.args.length
      · have Ht := kH (show r = true from by rw [Hr.out]; exact any_true_at hx (by simpa using h20))
        clear hx hs hb
        go_wp2
        go_ret
        exact ⟨by rw [Ht.out]; rfl, rfl⟩
      · have Ht := kH (show (t.take (j + 1)).any (fun x => decide (20 < x.args.length)) = false from any_take_step hx Hany.out (by simpa using h20))
        clear hx hs hb
        go_wp2
        go_round
        case rel => exact ⟨j + 1, by omega, by go_num, Ht⟩
        case measure => simp [intOf]; omega
    · obtain rfl : j = n := by omega
      have Ht := kH (show r = false from by
       have := Hany.out
       rw [List.take_of_length_le (by rw [Hln.out]; exact Nat.le_refl _)] at this
       rw [Hr.out]; exact this)
      go_wp2
      go_ret
      exact ⟨by rw [Ht.out]; rfl, rfl⟩
theorem SameInts_any (A B : Option Addr) (n m c d : Nat) (xs ys : List Int) (W : World) (hA : SlAt (IntR .i64) W A n xs) (hB : SlAt (IntR .i64) W B m ys) :
 Calls Tryz.prog 154 #[.slice A n c, .slice B m d] W fun e w' => e = .returned (.bool (decide (xs = ys))) ∧ Dr W w' := by
 have HA := kH hA
 have HB := kH hB
 have h1 := hA.le
 have h2 := hB.le
 have Hl1 := kH hA.len
 have Hl2 := kH hB.len
 clear hA hB
 obtain ⟨r, hr⟩ : ∃ r, r = decide (xs = ys) := ⟨_, rfl⟩
 rw [← hr]
 have Hr := kH hr
 clear hr
 by_cases hnm : n = m
 · subst hnm
   have q : ((n : Int) != (n : Int)) = false := by simp
   go_enter Tryz.func154, Tryz.ntmps154
   go_wp2
   go_loopg [5] (n + 1) (fun g i wr => ∃ j : Nat, j ≤ n ∧ i = .int .i64 (j : Int) ∧ g + j = n + 1 ∧ Hid (xs.take j = ys.take j) ∧ Hid (Dr W wr))
   case atStart => exact ⟨0, Nat.zero_le _, rfl, rfl, kH rfl, kH (Dr.refl _)⟩
   case round =>
    obtain ⟨j, hj, rfl, hgk, Heq, HD⟩ := hrel
    have Hgk := kH hgk; clear hgk
    by_cases hlt : j < n
    · obtain ⟨x, b, off, u, hx, rfl, hb, hc, hu⟩ := (HA.out.dr (monoInt _) HD.out).at_ hlt
      obtain rfl : u = .int .i64 x := hu
      obtain ⟨y, b2, off2, u2, hy, rfl, hb2, hc2, hu2⟩ := (HB.out.dr (monoInt _) HD.out).at_ hlt
      obtain rfl : u2 = .int .i64 y := hu2
      by_cases hxy : x = y
      · have Ht := kH (show xs.take (j + 1) = ys.take (j + 1) from by rw [K.take_succ_at hx, K.take_succ_at hy, Heq.out, hxy])
        have q : (x != y) = false := by simpa using hxy
        clear hx hy hb hb2 hxy
        go_wp2
        go_quiet (fail)
        generalize hW3 : wr.drewN _ = w3
        have Hd3 := kH (HD.out.trans ⟨_, hW3.symm⟩)
        clear hW3 hc hc2
        go_wp2
        go_roundg (gk - 1)
        case measure => have := Hgk.out; omega
        case rel => have := Hgk.out; exact ⟨j + 1, by omega, by go_num, by omega, Ht, Hd3⟩
      · have Ht := kH (show r = false from by
         rw [Hr.out, decide_eq_false_iff_not]
         intro e
         subst e
         rw [hx] at hy
         exact hxy (Option.some.inj hy))
        have q : (x != y) = true := by simpa using hxy
        clear hx hy hb hb2 hxy
        go_wp2
        go_quiet (fail)
        generalize hW3 : wr.drewN _ = w3
        have Hd3 := kH (HD.out.trans ⟨_, hW3.symm⟩)
        clear hW3 hc hc2
        go_wp2
        go_ret
        exact ⟨by rw [Ht.out]; rfl, Hd3.out⟩
    · obtain rfl : j = n := by omega
      have Ht := kH (show r = true from by
       have := Heq.out
       rw [List.take_of_length_le (by rw [Hl1.out]; exact Nat.le_refl _), List.take_of_length_le (by rw [Hl2.out]; exact Nat.le_refl _)] at this
       rw [Hr.out, decide_eq_true this])
      go_wp2
      go_ret
      exact ⟨by rw [Ht.out]; rfl, HD.out⟩
 · have Ht := kH (show r = false from by
    rw [Hr.out, decide_eq_false_iff_not]
    intro e
    exact hnm (by rw [← Hl1.out, ← Hl2.out, e]))
   have q : ((n : Int) != (m : Int)) = true := by rw [bne_iff_ne]; omega
   clear hnm
   go_enter Tryz.func154, Tryz.ntmps154
   go_wp2
   go_ret
   exact ⟨by rw [Ht.out]; rfl, Dr.refl _⟩
theorem rsameNode_any {x y : T.Nd} {A A' : Option Addr} {c c' : Nat} {W : World} (hx : SlAt (IntR .i64) W A x.args.length x.args) (hy : SlAt (IntR .i64) W A' y.args.length y.args) :
 Calls Tryz.prog 97 #[ndV x A c, ndV y A' c'] W fun e W' => e = .returned (.bool (decide (x = y))) ∧ Below W.heap.size W W' := by
 obtain ⟨W2, hW2⟩ : ∃ W2, W2 = (W.alloc (.cells #[.int .i64 x.op, .int .i64 x.w, .int .i64 x.fl, .slice A x.args.length c, .int .u32 x.imm] 62)).alloc (.cells #[.int .i64 y.op, .int .i64 y.w, .int .i64 y.fl, .slice A' y.args.length c', .int .u32 y.imm] 62) := ⟨_, rfl⟩
 have hb2 : Below W.heap.size W W2 := by rw [hW2]; exact (al0).alloc (by simp) _
 have hrx : W2.heap[W.heap.size]? = some (.cells #[.int .i64 x.op, .int .i64 x.w, .int .i64 x.fl, .slice A x.args.length c, .int .u32 x.imm] 62 (0, 0)) := by rw [hW2]; exact row_alloc (heap_alloc_new W _) _
 have hry : W2.heap[W.heap.size + 1]? = some (.cells #[.int .i64 y.op, .int .i64 y.w, .int .i64 y.fl, .slice A' y.args.length c', .int .u32 y.imm] 62 (0, 0)) := by rw [hW2]; exact new_two W _ _
 have Heq := kH (SameInts_any A A' _ _ c c' _ _ W2 (hx.below (monoInt _) hb2) (hy.below (monoInt _) hb2))
 obtain ⟨op, w, fl, args, imm⟩ := x
 obtain ⟨op', w', fl', args', imm'⟩ := y
 dsimp only at *
 obtain ⟨x0, x1, x2, x3, x4⟩ := nd5_cells hrx
 obtain ⟨y0, y1, y2, y3, y4⟩ := nd5_cells hry
 have Hb2 := kH hb2
 unfold ndV
 dsimp only
 rw [hW2] at x0 x1 x2 x3 x4 y0 y1 y2 y3 y4
 obtain ⟨r, hr⟩ : ∃ r, decide (args = args') = r := ⟨_, rfl⟩
 rw [hr] at Heq
 have Hr := kH hr
 subst hW2
 clear hx hy hb2 hrx hry hr
 by_cases e0 : op = op'
 rotate_left
 · have q : (op == op') = false := by simpa using e0
   have Hne := kH (show decide ((⟨op, w, fl, args, imm⟩ : T.Nd) = ⟨op', w', fl', args', imm'⟩) = false from by simp [e0])
   clear e0 Heq
   go_enter Tryz.func97, Tryz.ntmps97
   go_wp2
   go_ret
   exact ⟨ret_bool Hne.out.symm, Hb2.out⟩
 subst e0
 have q0 : (op == op) = true := by simp
 by_cases e1 : w = w'
 rotate_left
 · have q : (w == w') = false := by simpa using e1
   have Hne := kH (show decide ((⟨op, w, fl, args, imm⟩ : T.Nd) = ⟨op, w', fl', args', imm'⟩) = false from by simp [e1])
   clear e1 Heq
   go_enter Tryz.func97, Tryz.ntmps97
   go_wp2
   go_ret
   exact ⟨ret_bool Hne.out.symm, Hb2.out⟩
 subst e1
 have q1 : (w == w) = true := by simp
 by_cases e2 : fl = fl'
 rotate_left
 · have q : (fl == fl') = false := by simpa using e2
   have Hne := kH (show decide ((⟨op, w, fl, args, imm⟩ : T.Nd) = ⟨op, w, fl', args', imm'⟩) = false from by simp [e2])
   clear e2 Heq
   go_enter Tryz.func97, Tryz.ntmps97
   go_wp2
   go_ret
   exact ⟨ret_bool Hne.out.symm, Hb2.out⟩
 subst e2
 have q2 : (fl == fl) = true := by simp
 by_cases e3 : imm = imm'
 rotate_left
 · have q : (imm == imm') = false := by simpa using e3
   have Hne := kH (show decide ((⟨op, w, fl, args, imm⟩ : T.Nd) = ⟨op, w, fl, args', imm'⟩) = false from by simp [e3])
   clear e3 Heq
   go_enter Tryz.func97, Tryz.ntmps97
   go_wp2
   go_ret
   exact ⟨ret_bool Hne.out.symm, Hb2.out⟩
 subst e3
 have q3 : (imm == imm) = true := by simp
 have Hd := kH (show decide ((⟨op, w, fl, args, imm⟩ : T.Nd) = ⟨op, w, fl, args', imm⟩) = r from by rw [← Hr.out]; simp)
 go_enter Tryz.func97, Tryz.ntmps97
 go_wp2_with fail
 (with_reducible refine Heq.out.mono ?_)
 rintro e w3 ⟨rfl, hb3⟩
 have Hb3 := kH (Hb2.out.dr hb3)
 clear hb3 x0 x1 x2 x3 x4 y0 y1 y2 y3 y4
 go_wp2
 go_ret
 exact ⟨ret_bool Hd.out.symm, Hb3.out⟩
theorem SameNodes_any {t u : List T.Nd} {A A' : Option Addr} {n n' c c' : Nat} {W : World} (hx : StAt 5 NdR W A n t) (hy : StAt 5 NdR W A' n' u) :
 Calls Tryz.prog 43 #[.slice A n c, .slice A' n' c'] W fun e W' => e = .returned (.bool (decide (t = u))) ∧ Below W.heap.size W W' := by
 have hlx := hx.len
 have hly := hy.len
 have hlex := hx.le
 have hley := hy.le
 have HX := kH hx
 have HY := kH hy
 have Hlx := kH hlx
 have Hly := kH hly
 clear hx hy hlx hly
 by_cases hn : n = n'
 rotate_left
 · have q : ((n : Int) != (n' : Int)) = true := by simp; omega
   have Hne := kH (show decide (t = u) = false from by simp; rintro rfl; exact hn (Hlx.out.symm.trans Hly.out))
   clear hn
   go_enter Tryz.func43, Tryz.ntmps43
   go_wp2
   go_ret
   exact ⟨ret_bool Hne.out.symm, Below.refl _ _⟩
 subst hn
 have q : ((n : Int) != (n : Int)) = false := by simp
 go_enter Tryz.func43, Tryz.ntmps43
 go_wp2
 clear q
 go_loopg [5] (n + 1) (fun gg i wr => ∃ (j : Nat), j ≤ n ∧ i = .int .i64 (j : Int) ∧ gg + j = n + 1 ∧ Hid (Below W.heap.size W wr) ∧ Hid (t.take j = u.take j))
 case atStart => exact ⟨0, Nat.zero_le _, rfl, rfl, kH (Below.refl _ _), kH rfl⟩
 case round =>
  obtain ⟨j, hj, rfl, hgk, Hbw, HO⟩ := hrel
  have Hgk := kH hgk; clear hgk
  by_cases hjn : j < n
  · obtain ⟨x, b, off, Ax, cx, ex, rfl, hb, h0, h1, h2, h3, h4, hs, i0, i1⟩ := nd_cells HX.out hjn
    obtain ⟨y, b', off', Ay, cy, ey, rfl, hb', h0', h1', h2', h3', h4', hs', i0', i1'⟩ := nd_cells HY.out hjn
    have hbel := Hbw.out
    have k0 := (hbel.cell (p := ⟨b, off + j * 5, none⟩) hb).trans h0
    have k1 := (hbel.cell (p := ⟨b, off + j * 5 + 1, none⟩) hb).trans h1
    have k2 := (hbel.cell (p := ⟨b, off + j * 5 + 2, none⟩) hb).trans h2
    have k3 := (hbel.cell (p := ⟨b, off + j * 5 + 3, none⟩) hb).trans h3
    have k4 := (hbel.cell (p := ⟨b, off + j * 5 + 4, none⟩) hb).trans h4
    have l0 := (hbel.cell (p := ⟨b', off' + j * 5, none⟩) hb').trans h0'
    have l1 := (hbel.cell (p := ⟨b', off' + j * 5 + 1, none⟩) hb').trans h1'
    have l2 := (hbel.cell (p := ⟨b', off' + j * 5 + 2, none⟩) hb').trans h2'
    have l3 := (hbel.cell (p := ⟨b', off' + j * 5 + 3, none⟩) hb').trans h3'
    have l4 := (hbel.cell (p := ⟨b', off' + j * 5 + 4, none⟩) hb').trans h4'
    obtain ⟨r, hr⟩ : ∃ r, decide (x = y) = r := ⟨_, rfl⟩
    have Hr := kH hr
    obtain ⟨ov⟩ := ov_ex wr
    have HQ := kH (show ∀ z, Calls Tryz.prog 97 #[.agg #[.int .i64 x.op, .int .i64 x.w, .int .i64 x.fl, .slice Ax x.args.length cx, .int .u32 x.imm], .agg #[.int .i64 y.op, .int .i64 y.w, .int .i64 y.fl, .slice Ay y.args.length cy, .int .u32 y.imm]] (ov.f z) (fun e w' => e = .returned (.bool r) ∧ ∃ m, w' = ov.f m) from fun z => by
     have := rsameNode_any (x := x) (y := y) (c := cx) (c' := cy) (W := ov.f z) ((hs.below (monoInt _) hbel).below (monoInt _) (ov.below z)) ((hs'.below (monoInt _) hbel).below (monoInt _) (ov.below z))
     rw [hr] at this
     exact calls_over this)
    have o0 := ov.cell k0
    have o1 := ov.cell k1
    have o2 := ov.cell k2
    have o3 := ov.cell k3
    have o4 := ov.cell k4
    have p0 := ov.cell l0
    have p1 := ov.cell l1
    have p2 := ov.cell l2
    have p3 := ov.cell l3
    have p4 := ov.cell l4
    have Hex := kH ex
    have Hey := kH ey
    clear h0 h1 h2 h3 h4 h0' h1' h2' h3' h4' hs hs' i0 i1 i0' i1' hbel hb hb' ex ey hr
    cases r
    · go_wp2
      refine wp_region_ovq ov (by kernel_rfl) (by kernel_rfl) ?_
      repeat (go_big_quiet_step ((go_at_call 97; with_reducible exact HQ.out _)))
      refine wpQuiet_nil ?_
      rintro _ ⟨z, rfl⟩
      have Hb3 := kH (Hbw.out.trans ((ov.below z).mono Hbw.out.size))
      have Hne := kH (show decide (t = u) = false from by
       simp
       rintro rfl
       have e := Option.some.inj (Hex.out.symm.trans Hey.out)
       have := Hr.out
       simp [e] at this)
      clear o0 o1 o2 o3 o4 p0 p1 p2 p3 p4 k0 k1 k2 k3 k4 l0 l1 l2 l3 l4
      generalize ov.f z = w3 at *
      go_wp2
      go_ret
      exact ⟨ret_bool Hne.out.symm, Hb3.out⟩
    · go_wp2
      refine wp_region_ovq ov (by kernel_rfl) (by kernel_rfl) ?_
      repeat (go_big_quiet_step ((go_at_call 97; with_reducible exact HQ.out _)))
      refine wpQuiet_nil ?_
      rintro _ ⟨z, rfl⟩
      have Hb3 := kH (Hbw.out.trans ((ov.below z).mono Hbw.out.size))
      have Hst := kH (show t.take (j + 1) = u.take (j + 1) from by
       have e : x = y := of_decide_eq_true Hr.out
       exact take_eq_step HO.out Hex.out (e ▸ Hey.out))
      clear o0 o1 o2 o3 o4 p0 p1 p2 p3 p4 k0 k1 k2 k3 k4 l0 l1 l2 l3 l4
      generalize ov.f z = w3 at *
      go_wp2
      go_roundg (gk - 1)
      case measure => have := Hgk.out; omega
      case rel =>
       have := Hgk.out
       exact ⟨j + 1, by omega, by go_num, by omega, Hb3, Hst⟩
  · obtain rfl : j = n := by omega
    have he := HO.out
    rw [List.take_of_length_le (by rw [Hlx.out]; exact Nat.le_refl _), List.take_of_length_le (by rw [Hly.out]; exact Nat.le_refl _)] at he
    have Heq := kH (show decide (t = u) = true from by simpa using he)
    clear he
    go_wp2
    go_ret
    exact ⟨ret_bool Heq.out.symm, Hbw.out⟩
end
end Go.Proofs.YtbiopedpceddeaaGreatDoor
