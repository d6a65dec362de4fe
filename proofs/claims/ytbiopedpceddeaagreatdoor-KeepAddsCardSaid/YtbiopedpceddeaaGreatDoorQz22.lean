/- Part. -/
import Derived.Test.YtbiopedpceddeaaGreatDoorQz21
set_option linter.unusedVariables false
set_option linter.unusedSimpArgs false
set_option maxRecDepth 100000
set_option maxHeartbeats 16000000
namespace Go.Proofs.YtbiopedpceddeaaGreatDoor
section
open Go.RowKit
namespace RF
theorem ownRl_form {B ga : Nat} {w : World} {v1 v2 v3 b0 b1 b2 : Value} {r : R.Rl} (h : OwnRl B w v1 v2 v3 r) (hr : w.heap[ga]? = some (.cells #[b0, b1, b2] 101 (0, 0))) (a0 a1 a2 : Value) : OwnRl B (set3 w ga a0 a1 a2) v1 v2 v3 r :=
 ⟨h.ol.other (set3_grown w ga a0 a1 a2) (fun g cur T fr e hc => form_ne e hr hc), h.or_.other (set3_grown w ga a0 a1 a2) (fun g cur T fr e hc => form_ne e hr hc), h.op.other (set3_grown w ga a0 a1 a2) (fun g cur T fr e hc => form_nc e hr hc)⟩
structure Fm (B g : Nat) (v1 v2 v3 : Value) (F : R.Rl) (w : World) : Prop where
 row : w.heap[g]? = some (.cells #[v1, v2, v3] 101 (0, 0))
 own : OwnRl B w v1 v2 v3 F
theorem Fm.below {B g : Nat} {v1 v2 v3 : Value} {F : R.Rl} {w w' : World} (h : Fm B g v1 v2 v3 F w) (hb : Below w.heap.size w w') : Fm B g v1 v2 v3 F w' := ⟨(hb.block _ (gA h.row).1).trans h.row, h.own.below hb⟩
theorem zrow_ne {w : World} {a b : Nat} {c1 : Array Value} {T : TypeId} {f1 : Nat × Nat} (h1 : w.heap[a]? = some (.cells c1 T f1)) (h2 : b = w.heap.size) : a ≠ b := fun e => by
 have := (gA h1).1
 omega
theorem sameKey_any {r q : R.Rl} {nl cl nr cr np cp ml dl mr dr mp dp : Nat} {AL AR AP BL BR BP : Option Addr} {W : World} (hR : RlAt W r nl nr np AL AR AP) (hok : R.ROk r) {L Q : List T.Nd} (hS : KT.Sides r L Q)
 (hR' : RlAt W q ml mr mp BL BR BP) (hok' : R.ROk q) {L' Q' : List T.Nd} (hS' : KT.Sides q L' Q') :
 Calls Tryz.prog 20 #[.agg #[.slice AL nl cl, .slice AR nr cr, .slice AP np cp], .agg #[.slice BL ml dl, .slice BR mr dr, .slice BP mp dp]] W fun e W' => e = .returned (.bool (KT.sm r q)) ∧ Below W.heap.size W W' := by
 rw [KT.sm_frm hS hS']
 obtain ⟨F1, hF1⟩ : ∃ F, F = KT.frm L Q r.pre := ⟨_, rfl⟩
 obtain ⟨F2, hF2⟩ : ∃ F, F = KT.frm L' Q' q.pre := ⟨_, rfl⟩
 rw [← hF1, ← hF2]
 obtain ⟨W1, hW1⟩ : ∃ W1, W1 = (W.alloc (.cells #[.slice AL nl cl, .slice AR nr cr, .slice AP np cp] 33)).alloc (.cells #[.slice BL ml dl, .slice BR mr dr, .slice BP mp dp] 33) := ⟨_, rfl⟩
 have hb1 : Below W.heap.size W W1 := by rw [hW1]; exact (al0).alloc (by simp) _
 have hrow : W1.heap[W.heap.size]? = some (.cells #[.slice AL nl cl, .slice AR nr cr, .slice AP np cp] 33 (0, 0)) := by rw [hW1]; exact row_alloc (heap_alloc_new W _) _
 have hrow2 : W1.heap[W.heap.size + 1]? = some (.cells #[.slice BL ml dl, .slice BR mr dr, .slice BP mp dp] 33 (0, 0)) := by rw [hW1]; exact new_two W _ _
 have HB1 := kH hb1
 have HC1 := kH (show ∀ X, Below W1.heap.size W1 X → Calls Tryz.prog 70 #[.agg #[.slice AL nl cl, .slice AR nr cr, .slice AP np cp]] X fun e X' => ∃ v1 v2 v3, e = .returned (.agg #[v1, v2, v3]) ∧ OwnRl X.heap.size X' v1 v2 v3 F1 ∧ Below X.heap.size X X' from fun X hX => by
  rw [hF1]
  exact formOf_any ((hR.below hb1).below hX) hok hS)
 have HC3 := kH (show ∀ X, Below W1.heap.size W1 X → Calls Tryz.prog 70 #[.agg #[.slice BL ml dl, .slice BR mr dr, .slice BP mp dp]] X fun e X' => ∃ v1 v2 v3, e = .returned (.agg #[v1, v2, v3]) ∧ OwnRl X.heap.size X' v1 v2 v3 F2 ∧ Below X.heap.size X X' from fun X hX => by
  rw [hF2]
  exact formOf_any ((hR'.below hb1).below hX) hok' hS')
 have HS := kH (show ∀ Y, Below W1.heap.size W1 Y → Y.cell? ⟨W.heap.size, 0, none⟩ = some (.slice AL nl cl) ∧ Y.cell? ⟨W.heap.size, 1, none⟩ = some (.slice AR nr cr) ∧ Y.cell? ⟨W.heap.size, 2, none⟩ = some (.slice AP np cp) ∧ Y.cell? ⟨W.heap.size + 1, 0, none⟩ = some (.slice BL ml dl) ∧ Y.cell? ⟨W.heap.size + 1, 1, none⟩ = some (.slice BR mr dr) ∧ Y.cell? ⟨W.heap.size + 1, 2, none⟩ = some (.slice BP mp dp) from fun Y hY => by
  obtain ⟨h0, h1, h2, _⟩ := rl_cells ((hY.block _ (gA hrow).1).trans hrow)
  obtain ⟨h3, h4, h5, _⟩ := rl_cells ((hY.block _ (gA hrow2).1).trans hrow2)
  exact ⟨h0, h1, h2, h3, h4, h5⟩)
 have Hb0 := kH (show Below W1.heap.size W1 W1.drew from (Below.refl _ _).drew)
 have Hbr := kH (Below.refl W1.heap.size W1)
 have HW1 := kH hW1
 clear hR hok hS hR' hok' hS' hF1 hF2 hb1 hrow hrow2 hW1
 go_enter Tryz.func20, Tryz.ntmps20
 go_upto_region 1 with (fail)
 rw [← HW1.out]
 go_cut [5, 6] (fun s5 s6 wx => ∃ (ga gb : Nat) (A1 A2 A3 B1 B2 B3 : Option Addr) (k1 k2 k3 l1 l2 l3 : Nat), s5 = .pointer (some ⟨ga, 0, none⟩) ∧ s6 = .pointer (some ⟨gb, 0, none⟩) ∧ Hid (Fm W1.heap.size ga (.slice A1 F1.left.length k1) (.slice A2 F1.right.length k2) (.slice A3 F1.pre.length k3) F1 wx) ∧ Hid (Fm W1.heap.size gb (.slice B1 F2.left.length l1) (.slice B2 F2.right.length l2) (.slice B3 F2.pre.length l3) F2 wx) ∧ Hid (Below W1.heap.size W1 wx))
 case first =>
  refine wp_region_held_drew (S := fun Y => Y.cell? ⟨W.heap.size, 0, none⟩ = some (.slice AL nl cl) ∧ Y.cell? ⟨W.heap.size, 1, none⟩ = some (.slice AR nr cr) ∧ Y.cell? ⟨W.heap.size, 2, none⟩ = some (.slice AP np cp) ∧ Y.cell? ⟨W.heap.size + 1, 0, none⟩ = some (.slice BL ml dl) ∧ Y.cell? ⟨W.heap.size + 1, 1, none⟩ = some (.slice BR mr dr) ∧ Y.cell? ⟨W.heap.size + 1, 2, none⟩ = some (.slice BP mp dp)) (by kernel_rfl) (HS.out W1.drew Hb0.out) (fun hHeld => ?_)
  refine tk 0 ?_ hHeld (fun Y hY => ?_) ?_
  rotate_left
  · obtain ⟨y0, y1, y2, y3, y4, y5⟩ := hY
    (go_simp) <;> with_reducible rfl
  try simp only [Act.put, yL]
  refine tk 2 ?_ hHeld (fun Y hY => ?_) ?_
  rotate_left
  · obtain ⟨y0, y1, y2, y3, y4, y5⟩ := hY
    (go_simp) <;> with_reducible rfl
  try simp only [Act.put, yL]
  refine wpAnyH_ready (rs := [1, 4, 5]) (by kernel_rfl) (by simp) ?_
  refine AllReadyH.cons (o := _) rfl (fun KK hKK => ?_) (AllReadyH.cons (o := _) rfl (fun KK hKK => ?_) (AllReadyH.cons (o := _) rfl (fun KK hKK => ?_) AllReadyH.nil))
  · clear hHeld
    go_simp
    (with_reducible refine (HC1.out _ Hb0.out).mono ?_)
    rintro e x1 ⟨v1, v2, v3, rfl, hown, hb'⟩
    obtain ⟨A1, k1, rfl⟩ := hown.ol.form
    obtain ⟨A2, k2, rfl⟩ := hown.or_.form
    obtain ⟨A3, k3, rfl⟩ := hown.op.form
    have Hb1 := kH (Hb0.out.trans (hb'.mono Hb0.out.size))
    have HO1 := kH (hown.weak Hb0.out.size)
    clear hown hb'
    refine hKK.out _ _ (HS.out _ Hb1.out) (fun hHeld => ?_)
    clear hKK KK
    try simp only [Act.put, yL]
    refine wpAnyH_ready (rs := [3, 4, 5]) (by kernel_rfl) (by simp) ?_
    refine AllReadyH.cons (o := _) rfl (fun KK hKK => ?_) (AllReadyH.cons (o := _) rfl (fun KK hKK => ?_) (AllReadyH.cons (o := _) rfl (fun KK hKK => ?_) AllReadyH.nil))
    · clear hHeld
      go_simp
      (with_reducible refine (HC3.out _ Hb1.out).mono ?_)
      rintro e x3 ⟨v1, v2, v3, rfl, hown, hb'⟩
      obtain ⟨B1, l1, rfl⟩ := hown.ol.form
      obtain ⟨B2, l2, rfl⟩ := hown.or_.form
      obtain ⟨B3, l3, rfl⟩ := hown.op.form
      have Hb3 := kH (Hb1.out.trans (hb'.mono Hb1.out.size))
      have HO3 := kH (hown.weak Hb1.out.size)
      replace HO1 := kH (HO1.out.below hb')
      clear hown hb'
      refine hKK.out _ _ (HS.out _ Hb3.out) (fun hHeld => ?_)
      clear hKK KK
      try simp only [Act.put, yL]
      refine wpAnyH_ready (rs := [4, 5]) (by kernel_rfl) (by simp) ?_
      refine AllReadyH.cons (o := _) rfl (fun KK hKK => ?_) (AllReadyH.cons (o := _) rfl (fun KK hKK => ?_) AllReadyH.nil)
      · clear hHeld
        go_simp
        obtain ⟨xa4, hxa⟩ : ∃ xa, xa = (x3.alloc (.cells #[.slice none 0 0, .slice none 0 0, .slice none 0 0] 101)) := ⟨_, rfl⟩
        rw [← hxa]
        have hba : Below (x3).heap.size (x3) xa4 := by rw [hxa]; exact (al0)
        have Hba4 := kH (Hb3.out.trans (hba.mono Hb3.out.size))
        obtain ⟨g4, hgb⟩ : ∃ gb, gb = (x3).heap.size := ⟨_, rfl⟩
        have HG4 := kH (show xa4.heap[g4]? = some (.cells #[.slice none 0 0, .slice none 0 0, .slice none 0 0] 101 (0, 0)) from by rw [hxa, hgb]; exact heap_alloc_new _ _)
        replace HO1 := kH (HO1.out.below hba)
        replace HO3 := kH (HO3.out.below hba)
        have Hg4 := kH (show W1.heap.size ≤ g4 from by rw [hgb]; exact Hb3.out.size)
        rw [← hgb]
        clear hba hxa hgb
        refine hKK.out _ _ (HS.out _ Hba4.out) (fun hHeld => ?_)
        clear hKK KK
        try simp only [Act.put, yL]
        refine rd 5 (fun KK hKK => ?_)
        clear hHeld
        go_simp
        obtain ⟨xa5, hxa⟩ : ∃ xa, xa = (xa4.alloc (.cells #[.slice none 0 0, .slice none 0 0, .slice none 0 0] 101)) := ⟨_, rfl⟩
        rw [← hxa]
        have hba : Below (xa4).heap.size (xa4) xa5 := by rw [hxa]; exact (al0)
        have Hba5 := kH (Hba4.out.trans (hba.mono Hba4.out.size))
        obtain ⟨g5, hgb⟩ : ∃ gb, gb = (xa4).heap.size := ⟨_, rfl⟩
        have HG5 := kH (show xa5.heap[g5]? = some (.cells #[.slice none 0 0, .slice none 0 0, .slice none 0 0] 101 (0, 0)) from by rw [hxa, hgb]; exact heap_alloc_new _ _)
        have Hne := kH (show g4 ≠ g5 from zrow_ne HG4.out hgb)
        replace HO1 := kH (HO1.out.below hba)
        replace HO3 := kH (HO3.out.below hba)
        replace HG4 := kH ((hba.block _ (gA HG4.out).1).trans HG4.out)
        have Hg5 := kH (show W1.heap.size ≤ g5 from by rw [hgb]; exact Hba4.out.size)
        rw [← hgb]
        clear hba hxa hgb
        refine hKK.out _ _ (HS.out _ Hba5.out) (fun hHeld => ?_)
        clear hKK KK
        try simp only [Act.put, yL]
        obtain ⟨z0, z1, z2, zf⟩ := rl_cells HG4.out
        have zf0 := zf 0
        have zf1 := zf 1
        have zf2 := zf 2
        clear zf
        refine rd 6 (fun KK hKK => ?_)
        clear hHeld
        go_simp
        refine hKK.out _ _ (HS.out _ (set3_below _ _ _ Hba5.out Hg4.out)) (fun hHeld => ?_)
        clear hKK KK
        try simp only [Act.put, yL]
        obtain ⟨x6, hx6⟩ : ∃ x6, x6 = set3 xa5 g4 (.slice A1 F1.left.length k1) (.slice A2 F1.right.length k2) (.slice A3 F1.pre.length k3) := ⟨_, rfl⟩
        have Hb6 := kH (show Below W1.heap.size W1 x6 from by rw [hx6]; exact set3_below _ _ _ Hba5.out Hg4.out)
        have HM1 := kH (show Fm W1.heap.size g4 (.slice A1 F1.left.length k1) (.slice A2 F1.right.length k2) (.slice A3 F1.pre.length k3) F1 x6 from by rw [hx6]; exact ⟨set3_row _ _ _ HG4.out, ownRl_form HO1.out HG4.out _ _ _⟩)
        have HO3' := kH (show OwnRl W1.heap.size x6 (.slice B1 F2.left.length l1) (.slice B2 F2.right.length l2) (.slice B3 F2.pre.length l3) F2 from by rw [hx6]; exact ownRl_form HO3.out HG4.out _ _ _)
        have HG5' := kH (show x6.heap[g5]? = some (.cells #[.slice none 0 0, .slice none 0 0, .slice none 0 0] 101 (0, 0)) from by rw [hx6]; exact ((set3_grown xa5 g4 _ _ _).block _ (gA HG5.out).1 (fun e => Hne.out (by injection e with e; exact e.symm))).trans HG5.out)
        have hu : ((xa5.setCell ⟨g4, 0, none⟩ (.slice A1 F1.left.length k1)).setCell ⟨g4, 1, none⟩ (.slice A2 F1.right.length k2)).setCell ⟨g4, 2, none⟩ (.slice A3 F1.pre.length k3) = x6 := by rw [hx6]; rfl
        rw [hu] at hHeld ⊢
        clear hu hx6 z0 z1 z2 zf0 zf1 zf2
        obtain ⟨z0, z1, z2, zf⟩ := rl_cells HG5'.out
        have zf0 := zf 0
        have zf1 := zf 1
        have zf2 := zf 2
        clear zf
        refine rd 7 (fun KK hKK => ?_)
        clear hHeld
        go_simp
        refine hKK.out _ _ (HS.out _ (set3_below _ _ _ Hb6.out Hg5.out)) (fun hHeld => ?_)
        clear hKK KK
        try simp only [Act.put, yL]
        refine wpAnyH_done (by kernel_rfl) ?_ _
        go_wp2
        go_meet
        exact ⟨g4, g5, A1, A2, A3, B1, B2, B3, k1, k2, k3, l1, l2, l3, rfl, rfl, kH ⟨((set3_grown x6 g5 (.slice B1 F2.left.length l1) (.slice B2 F2.right.length l2) (.slice B3 F2.pre.length l3)).block _ (gA HM1.out.row).1 (fun e => Hne.out (by injection e))).trans HM1.out.row, ownRl_form HM1.out.own HG5'.out _ _ _⟩, kH ⟨set3_row _ _ _ HG5'.out, ownRl_form HO3'.out HG5'.out _ _ _⟩, kH (set3_below _ _ _ Hb6.out Hg5.out)⟩
      · clear hHeld
        go_simp
        obtain ⟨xa5, hxa⟩ : ∃ xa, xa = (x3.alloc (.cells #[.slice none 0 0, .slice none 0 0, .slice none 0 0] 101)) := ⟨_, rfl⟩
        rw [← hxa]
        have hba : Below (x3).heap.size (x3) xa5 := by rw [hxa]; exact (al0)
        have Hba5 := kH (Hb3.out.trans (hba.mono Hb3.out.size))
        obtain ⟨g5, hgb⟩ : ∃ gb, gb = (x3).heap.size := ⟨_, rfl⟩
        have HG5 := kH (show xa5.heap[g5]? = some (.cells #[.slice none 0 0, .slice none 0 0, .slice none 0 0] 101 (0, 0)) from by rw [hxa, hgb]; exact heap_alloc_new _ _)
        replace HO1 := kH (HO1.out.below hba)
        replace HO3 := kH (HO3.out.below hba)
        have Hg5 := kH (show W1.heap.size ≤ g5 from by rw [hgb]; exact Hb3.out.size)
        rw [← hgb]
        clear hba hxa hgb
        refine hKK.out _ _ (HS.out _ Hba5.out) (fun hHeld => ?_)
        clear hKK KK
        try simp only [Act.put, yL]
        refine rd 4 (fun KK hKK => ?_)
        clear hHeld
        go_simp
        obtain ⟨xa4, hxa⟩ : ∃ xa, xa = (xa5.alloc (.cells #[.slice none 0 0, .slice none 0 0, .slice none 0 0] 101)) := ⟨_, rfl⟩
        rw [← hxa]
        have hba : Below (xa5).heap.size (xa5) xa4 := by rw [hxa]; exact (al0)
        have Hba4 := kH (Hba5.out.trans (hba.mono Hba5.out.size))
        obtain ⟨g4, hgb⟩ : ∃ gb, gb = (xa5).heap.size := ⟨_, rfl⟩
        have HG4 := kH (show xa4.heap[g4]? = some (.cells #[.slice none 0 0, .slice none 0 0, .slice none 0 0] 101 (0, 0)) from by rw [hxa, hgb]; exact heap_alloc_new _ _)
        have Hne := kH (show g4 ≠ g5 from (zrow_ne HG5.out hgb).symm)
        replace HO1 := kH (HO1.out.below hba)
        replace HO3 := kH (HO3.out.below hba)
        replace HG5 := kH ((hba.block _ (gA HG5.out).1).trans HG5.out)
        have Hg4 := kH (show W1.heap.size ≤ g4 from by rw [hgb]; exact Hba5.out.size)
        rw [← hgb]
        clear hba hxa hgb
        refine hKK.out _ _ (HS.out _ Hba4.out) (fun hHeld => ?_)
        clear hKK KK
        try simp only [Act.put, yL]
        obtain ⟨z0, z1, z2, zf⟩ := rl_cells HG4.out
        have zf0 := zf 0
        have zf1 := zf 1
        have zf2 := zf 2
        clear zf
        refine rd 6 (fun KK hKK => ?_)
        clear hHeld
        go_simp
        refine hKK.out _ _ (HS.out _ (set3_below _ _ _ Hba4.out Hg4.out)) (fun hHeld => ?_)
        clear hKK KK
        try simp only [Act.put, yL]
        obtain ⟨x6, hx6⟩ : ∃ x6, x6 = set3 xa4 g4 (.slice A1 F1.left.length k1) (.slice A2 F1.right.length k2) (.slice A3 F1.pre.length k3) := ⟨_, rfl⟩
        have Hb6 := kH (show Below W1.heap.size W1 x6 from by rw [hx6]; exact set3_below _ _ _ Hba4.out Hg4.out)
        have HM1 := kH (show Fm W1.heap.size g4 (.slice A1 F1.left.length k1) (.slice A2 F1.right.length k2) (.slice A3 F1.pre.length k3) F1 x6 from by rw [hx6]; exact ⟨set3_row _ _ _ HG4.out, ownRl_form HO1.out HG4.out _ _ _⟩)
        have HO3' := kH (show OwnRl W1.heap.size x6 (.slice B1 F2.left.length l1) (.slice B2 F2.right.length l2) (.slice B3 F2.pre.length l3) F2 from by rw [hx6]; exact ownRl_form HO3.out HG4.out _ _ _)
        have HG5' := kH (show x6.heap[g5]? = some (.cells #[.slice none 0 0, .slice none 0 0, .slice none 0 0] 101 (0, 0)) from by rw [hx6]; exact ((set3_grown xa4 g4 _ _ _).block _ (gA HG5.out).1 (fun e => Hne.out (by injection e with e; exact e.symm))).trans HG5.out)
        have hu : ((xa4.setCell ⟨g4, 0, none⟩ (.slice A1 F1.left.length k1)).setCell ⟨g4, 1, none⟩ (.slice A2 F1.right.length k2)).setCell ⟨g4, 2, none⟩ (.slice A3 F1.pre.length k3) = x6 := by rw [hx6]; rfl
        rw [hu] at hHeld ⊢
        clear hu hx6 z0 z1 z2 zf0 zf1 zf2
        obtain ⟨z0, z1, z2, zf⟩ := rl_cells HG5'.out
        have zf0 := zf 0
        have zf1 := zf 1
        have zf2 := zf 2
        clear zf
        refine rd 7 (fun KK hKK => ?_)
        clear hHeld
        go_simp
        refine hKK.out _ _ (HS.out _ (set3_below _ _ _ Hb6.out Hg5.out)) (fun hHeld => ?_)
        clear hKK KK
        try simp only [Act.put, yL]
        refine wpAnyH_done (by kernel_rfl) ?_ _
        go_wp2
        go_meet
        exact ⟨g4, g5, A1, A2, A3, B1, B2, B3, k1, k2, k3, l1, l2, l3, rfl, rfl, kH ⟨((set3_grown x6 g5 (.slice B1 F2.left.length l1) (.slice B2 F2.right.length l2) (.slice B3 F2.pre.length l3)).block _ (gA HM1.out.row).1 (fun e => Hne.out (by injection e))).trans HM1.out.row, ownRl_form HM1.out.own HG5'.out _ _ _⟩, kH ⟨set3_row _ _ _ HG5'.out, ownRl_form HO3'.out HG5'.out _ _ _⟩, kH (set3_below _ _ _ Hb6.out Hg5.out)⟩
    · clear hHeld
      go_simp
      obtain ⟨xa4, hxa⟩ : ∃ xa, xa = (x1.alloc (.cells #[.slice none 0 0, .slice none 0 0, .slice none 0 0] 101)) := ⟨_, rfl⟩
      rw [← hxa]
      have hba : Below (x1).heap.size (x1) xa4 := by rw [hxa]; exact (al0)
      have Hba4 := kH (Hb1.out.trans (hba.mono Hb1.out.size))
      obtain ⟨g4, hgb⟩ : ∃ gb, gb = (x1).heap.size := ⟨_, rfl⟩
      have HG4 := kH (show xa4.heap[g4]? = some (.cells #[.slice none 0 0, .slice none 0 0, .slice none 0 0] 101 (0, 0)) from by rw [hxa, hgb]; exact heap_alloc_new _ _)
      replace HO1 := kH (HO1.out.below hba)
      have Hg4 := kH (show W1.heap.size ≤ g4 from by rw [hgb]; exact Hb1.out.size)
      rw [← hgb]
      clear hba hxa hgb
      refine hKK.out _ _ (HS.out _ Hba4.out) (fun hHeld => ?_)
      clear hKK KK
      try simp only [Act.put, yL]
      refine wpAnyH_ready (rs := [3, 5]) (by kernel_rfl) (by simp) ?_
      refine AllReadyH.cons (o := _) rfl (fun KK hKK => ?_) (AllReadyH.cons (o := _) rfl (fun KK hKK => ?_) AllReadyH.nil)
      · clear hHeld
        go_simp
        (with_reducible refine (HC3.out _ Hba4.out).mono ?_)
        rintro e x3 ⟨v1, v2, v3, rfl, hown, hb'⟩
        obtain ⟨B1, l1, rfl⟩ := hown.ol.form
        obtain ⟨B2, l2, rfl⟩ := hown.or_.form
        obtain ⟨B3, l3, rfl⟩ := hown.op.form
        have Hb3 := kH (Hba4.out.trans (hb'.mono Hba4.out.size))
        have HO3 := kH (hown.weak Hba4.out.size)
        replace HO1 := kH (HO1.out.below hb')
        replace HG4 := kH ((hb'.block _ (gA HG4.out).1).trans HG4.out)
        clear hown hb'
        refine hKK.out _ _ (HS.out _ Hb3.out) (fun hHeld => ?_)
        clear hKK KK
        try simp only [Act.put, yL]
        refine rd 5 (fun KK hKK => ?_)
        clear hHeld
        go_simp
        obtain ⟨xa5, hxa⟩ : ∃ xa, xa = (x3.alloc (.cells #[.slice none 0 0, .slice none 0 0, .slice none 0 0] 101)) := ⟨_, rfl⟩
        rw [← hxa]
        have hba : Below (x3).heap.size (x3) xa5 := by rw [hxa]; exact (al0)
        have Hba5 := kH (Hb3.out.trans (hba.mono Hb3.out.size))
        obtain ⟨g5, hgb⟩ : ∃ gb, gb = (x3).heap.size := ⟨_, rfl⟩
        have HG5 := kH (show xa5.heap[g5]? = some (.cells #[.slice none 0 0, .slice none 0 0, .slice none 0 0] 101 (0, 0)) from by rw [hxa, hgb]; exact heap_alloc_new _ _)
        have Hne := kH (show g4 ≠ g5 from zrow_ne HG4.out hgb)
        replace HO1 := kH (HO1.out.below hba)
        replace HO3 := kH (HO3.out.below hba)
        replace HG4 := kH ((hba.block _ (gA HG4.out).1).trans HG4.out)
        have Hg5 := kH (show W1.heap.size ≤ g5 from by rw [hgb]; exact Hb3.out.size)
        rw [← hgb]
        clear hba hxa hgb
        refine hKK.out _ _ (HS.out _ Hba5.out) (fun hHeld => ?_)
        clear hKK KK
        try simp only [Act.put, yL]
        obtain ⟨z0, z1, z2, zf⟩ := rl_cells HG4.out
        have zf0 := zf 0
        have zf1 := zf 1
        have zf2 := zf 2
        clear zf
        refine rd 6 (fun KK hKK => ?_)
        clear hHeld
        go_simp
        refine hKK.out _ _ (HS.out _ (set3_below _ _ _ Hba5.out Hg4.out)) (fun hHeld => ?_)
        clear hKK KK
        try simp only [Act.put, yL]
        obtain ⟨x6, hx6⟩ : ∃ x6, x6 = set3 xa5 g4 (.slice A1 F1.left.length k1) (.slice A2 F1.right.length k2) (.slice A3 F1.pre.length k3) := ⟨_, rfl⟩
        have Hb6 := kH (show Below W1.heap.size W1 x6 from by rw [hx6]; exact set3_below _ _ _ Hba5.out Hg4.out)
        have HM1 := kH (show Fm W1.heap.size g4 (.slice A1 F1.left.length k1) (.slice A2 F1.right.length k2) (.slice A3 F1.pre.length k3) F1 x6 from by rw [hx6]; exact ⟨set3_row _ _ _ HG4.out, ownRl_form HO1.out HG4.out _ _ _⟩)
        have HO3' := kH (show OwnRl W1.heap.size x6 (.slice B1 F2.left.length l1) (.slice B2 F2.right.length l2) (.slice B3 F2.pre.length l3) F2 from by rw [hx6]; exact ownRl_form HO3.out HG4.out _ _ _)
        have HG5' := kH (show x6.heap[g5]? = some (.cells #[.slice none 0 0, .slice none 0 0, .slice none 0 0] 101 (0, 0)) from by rw [hx6]; exact ((set3_grown xa5 g4 _ _ _).block _ (gA HG5.out).1 (fun e => Hne.out (by injection e with e; exact e.symm))).trans HG5.out)
        have hu : ((xa5.setCell ⟨g4, 0, none⟩ (.slice A1 F1.left.length k1)).setCell ⟨g4, 1, none⟩ (.slice A2 F1.right.length k2)).setCell ⟨g4, 2, none⟩ (.slice A3 F1.pre.length k3) = x6 := by rw [hx6]; rfl
        rw [hu] at hHeld ⊢
        clear hu hx6 z0 z1 z2 zf0 zf1 zf2
        obtain ⟨z0, z1, z2, zf⟩ := rl_cells HG5'.out
        have zf0 := zf 0
        have zf1 := zf 1
        have zf2 := zf 2
        clear zf
        refine rd 7 (fun KK hKK => ?_)
        clear hHeld
        go_simp
        refine hKK.out _ _ (HS.out _ (set3_below _ _ _ Hb6.out Hg5.out)) (fun hHeld => ?_)
        clear hKK KK
        try simp only [Act.put, yL]
        refine wpAnyH_done (by kernel_rfl) ?_ _
        go_wp2
        go_meet
        exact ⟨g4, g5, A1, A2, A3, B1, B2, B3, k1, k2, k3, l1, l2, l3, rfl, rfl, kH ⟨((set3_grown x6 g5 (.slice B1 F2.left.length l1) (.slice B2 F2.right.length l2) (.slice B3 F2.pre.length l3)).block _ (gA HM1.out.row).1 (fun e => Hne.out (by injection e))).trans HM1.out.row, ownRl_form HM1.out.own HG5'.out _ _ _⟩, kH ⟨set3_row _ _ _ HG5'.out, ownRl_form HO3'.out HG5'.out _ _ _⟩, kH (set3_below _ _ _ Hb6.out Hg5.out)⟩
      · clear hHeld
        go_simp
        obtain ⟨xa5, hxa⟩ : ∃ xa, xa = (xa4.alloc (.cells #[.slice none 0 0, .slice none 0 0, .slice none 0 0] 101)) := ⟨_, rfl⟩
        rw [← hxa]
        have hba : Below (xa4).heap.size (xa4) xa5 := by rw [hxa]; exact (al0)
        have Hba5 := kH (Hba4.out.trans (hba.mono Hba4.out.size))
        obtain ⟨g5, hgb⟩ : ∃ gb, gb = (xa4).heap.size := ⟨_, rfl⟩
        have HG5 := kH (show xa5.heap[g5]? = some (.cells #[.slice none 0 0, .slice none 0 0, .slice none 0 0] 101 (0, 0)) from by rw [hxa, hgb]; exact heap_alloc_new _ _)
        have Hne := kH (show g4 ≠ g5 from zrow_ne HG4.out hgb)
        replace HO1 := kH (HO1.out.below hba)
        replace HG4 := kH ((hba.block _ (gA HG4.out).1).trans HG4.out)
        have Hg5 := kH (show W1.heap.size ≤ g5 from by rw [hgb]; exact Hba4.out.size)
        rw [← hgb]
        clear hba hxa hgb
        refine hKK.out _ _ (HS.out _ Hba5.out) (fun hHeld => ?_)
        clear hKK KK
        try simp only [Act.put, yL]
        refine rd 3 (fun KK hKK => ?_)
        clear hHeld
        go_simp
        (with_reducible refine (HC3.out _ Hba5.out).mono ?_)
        rintro e x3 ⟨v1, v2, v3, rfl, hown, hb'⟩
        obtain ⟨B1, l1, rfl⟩ := hown.ol.form
        obtain ⟨B2, l2, rfl⟩ := hown.or_.form
        obtain ⟨B3, l3, rfl⟩ := hown.op.form
        have Hb3 := kH (Hba5.out.trans (hb'.mono Hba5.out.size))
        have HO3 := kH (hown.weak Hba5.out.size)
        replace HO1 := kH (HO1.out.below hb')
        replace HG4 := kH ((hb'.block _ (gA HG4.out).1).trans HG4.out)
        replace HG5 := kH ((hb'.block _ (gA HG5.out).1).trans HG5.out)
        clear hown hb'
        refine hKK.out _ _ (HS.out _ Hb3.out) (fun hHeld => ?_)
        clear hKK KK
        try simp only [Act.put, yL]
        obtain ⟨z0, z1, z2, zf⟩ := rl_cells HG4.out
        have zf0 := zf 0
        have zf1 := zf 1
        have zf2 := zf 2
        clear zf
        refine rd 6 (fun KK hKK => ?_)
        clear hHeld
        go_simp
        refine hKK.out _ _ (HS.out _ (set3_below _ _ _ Hb3.out Hg4.out)) (fun hHeld => ?_)
        clear hKK KK
        try simp only [Act.put, yL]
        obtain ⟨x6, hx6⟩ : ∃ x6, x6 = set3 x3 g4 (.slice A1 F1.left.length k1) (.slice A2 F1.right.length k2) (.slice A3 F1.pre.length k3) := ⟨_, rfl⟩
        have Hb6 := kH (show Below W1.heap.size W1 x6 from by rw [hx6]; exact set3_below _ _ _ Hb3.out Hg4.out)
        have HM1 := kH (show Fm W1.heap.size g4 (.slice A1 F1.left.length k1) (.slice A2 F1.right.length k2) (.slice A3 F1.pre.length k3) F1 x6 from by rw [hx6]; exact ⟨set3_row _ _ _ HG4.out, ownRl_form HO1.out HG4.out _ _ _⟩)
        have HO3' := kH (show OwnRl W1.heap.size x6 (.slice B1 F2.left.length l1) (.slice B2 F2.right.length l2) (.slice B3 F2.pre.length l3) F2 from by rw [hx6]; exact ownRl_form HO3.out HG4.out _ _ _)
        have HG5' := kH (show x6.heap[g5]? = some (.cells #[.slice none 0 0, .slice none 0 0, .slice none 0 0] 101 (0, 0)) from by rw [hx6]; exact ((set3_grown x3 g4 _ _ _).block _ (gA HG5.out).1 (fun e => Hne.out (by injection e with e; exact e.symm))).trans HG5.out)
        have hu : ((x3.setCell ⟨g4, 0, none⟩ (.slice A1 F1.left.length k1)).setCell ⟨g4, 1, none⟩ (.slice A2 F1.right.length k2)).setCell ⟨g4, 2, none⟩ (.slice A3 F1.pre.length k3) = x6 := by rw [hx6]; rfl
        rw [hu] at hHeld ⊢
        clear hu hx6 z0 z1 z2 zf0 zf1 zf2
        obtain ⟨z0, z1, z2, zf⟩ := rl_cells HG5'.out
        have zf0 := zf 0
        have zf1 := zf 1
        have zf2 := zf 2
        clear zf
        refine rd 7 (fun KK hKK => ?_)
        clear hHeld
        go_simp
        refine hKK.out _ _ (HS.out _ (set3_below _ _ _ Hb6.out Hg5.out)) (fun hHeld => ?_)
        clear hKK KK
        try simp only [Act.put, yL]
        refine wpAnyH_done (by kernel_rfl) ?_ _
        go_wp2
        go_meet
        exact ⟨g4, g5, A1, A2, A3, B1, B2, B3, k1, k2, k3, l1, l2, l3, rfl, rfl, kH ⟨((set3_grown x6 g5 (.slice B1 F2.left.length l1) (.slice B2 F2.right.length l2) (.slice B3 F2.pre.length l3)).block _ (gA HM1.out.row).1 (fun e => Hne.out (by injection e))).trans HM1.out.row, ownRl_form HM1.out.own HG5'.out _ _ _⟩, kH ⟨set3_row _ _ _ HG5'.out, ownRl_form HO3'.out HG5'.out _ _ _⟩, kH (set3_below _ _ _ Hb6.out Hg5.out)⟩
    · clear hHeld
      go_simp
      obtain ⟨xa5, hxa⟩ : ∃ xa, xa = (x1.alloc (.cells #[.slice none 0 0, .slice none 0 0, .slice none 0 0] 101)) := ⟨_, rfl⟩
      rw [← hxa]
      have hba : Below (x1).heap.size (x1) xa5 := by rw [hxa]; exact (al0)
      have Hba5 := kH (Hb1.out.trans (hba.mono Hb1.out.size))
      obtain ⟨g5, hgb⟩ : ∃ gb, gb = (x1).heap.size := ⟨_, rfl⟩
      have HG5 := kH (show xa5.heap[g5]? = some (.cells #[.slice none 0 0, .slice none 0 0, .slice none 0 0] 101 (0, 0)) from by rw [hxa, hgb]; exact heap_alloc_new _ _)
      replace HO1 := kH (HO1.out.below hba)
      have Hg5 := kH (show W1.heap.size ≤ g5 from by rw [hgb]; exact Hb1.out.size)
      rw [← hgb]
      clear hba hxa hgb
      refine hKK.out _ _ (HS.out _ Hba5.out) (fun hHeld => ?_)
      clear hKK KK
      try simp only [Act.put, yL]
      refine wpAnyH_ready (rs := [3, 4]) (by kernel_rfl) (by simp) ?_
      refine AllReadyH.cons (o := _) rfl (fun KK hKK => ?_) (AllReadyH.cons (o := _) rfl (fun KK hKK => ?_) AllReadyH.nil)
      · clear hHeld
        go_simp
        (with_reducible refine (HC3.out _ Hba5.out).mono ?_)
        rintro e x3 ⟨v1, v2, v3, rfl, hown, hb'⟩
        obtain ⟨B1, l1, rfl⟩ := hown.ol.form
        obtain ⟨B2, l2, rfl⟩ := hown.or_.form
        obtain ⟨B3, l3, rfl⟩ := hown.op.form
        have Hb3 := kH (Hba5.out.trans (hb'.mono Hba5.out.size))
        have HO3 := kH (hown.weak Hba5.out.size)
        replace HO1 := kH (HO1.out.below hb')
        replace HG5 := kH ((hb'.block _ (gA HG5.out).1).trans HG5.out)
        clear hown hb'
        refine hKK.out _ _ (HS.out _ Hb3.out) (fun hHeld => ?_)
        clear hKK KK
        try simp only [Act.put, yL]
        refine rd 4 (fun KK hKK => ?_)
        clear hHeld
        go_simp
        obtain ⟨xa4, hxa⟩ : ∃ xa, xa = (x3.alloc (.cells #[.slice none 0 0, .slice none 0 0, .slice none 0 0] 101)) := ⟨_, rfl⟩
        rw [← hxa]
        have hba : Below (x3).heap.size (x3) xa4 := by rw [hxa]; exact (al0)
        have Hba4 := kH (Hb3.out.trans (hba.mono Hb3.out.size))
        obtain ⟨g4, hgb⟩ : ∃ gb, gb = (x3).heap.size := ⟨_, rfl⟩
        have HG4 := kH (show xa4.heap[g4]? = some (.cells #[.slice none 0 0, .slice none 0 0, .slice none 0 0] 101 (0, 0)) from by rw [hxa, hgb]; exact heap_alloc_new _ _)
        have Hne := kH (show g4 ≠ g5 from (zrow_ne HG5.out hgb).symm)
        replace HO1 := kH (HO1.out.below hba)
        replace HO3 := kH (HO3.out.below hba)
        replace HG5 := kH ((hba.block _ (gA HG5.out).1).trans HG5.out)
        have Hg4 := kH (show W1.heap.size ≤ g4 from by rw [hgb]; exact Hb3.out.size)
        rw [← hgb]
        clear hba hxa hgb
        refine hKK.out _ _ (HS.out _ Hba4.out) (fun hHeld => ?_)
        clear hKK KK
        try simp only [Act.put, yL]
        obtain ⟨z0, z1, z2, zf⟩ := rl_cells HG4.out
        have zf0 := zf 0
        have zf1 := zf 1
        have zf2 := zf 2
        clear zf
        refine rd 6 (fun KK hKK => ?_)
        clear hHeld
        go_simp
        refine hKK.out _ _ (HS.out _ (set3_below _ _ _ Hba4.out Hg4.out)) (fun hHeld => ?_)
        clear hKK KK
        try simp only [Act.put, yL]
        obtain ⟨x6, hx6⟩ : ∃ x6, x6 = set3 xa4 g4 (.slice A1 F1.left.length k1) (.slice A2 F1.right.length k2) (.slice A3 F1.pre.length k3) := ⟨_, rfl⟩
        have Hb6 := kH (show Below W1.heap.size W1 x6 from by rw [hx6]; exact set3_below _ _ _ Hba4.out Hg4.out)
        have HM1 := kH (show Fm W1.heap.size g4 (.slice A1 F1.left.length k1) (.slice A2 F1.right.length k2) (.slice A3 F1.pre.length k3) F1 x6 from by rw [hx6]; exact ⟨set3_row _ _ _ HG4.out, ownRl_form HO1.out HG4.out _ _ _⟩)
        have HO3' := kH (show OwnRl W1.heap.size x6 (.slice B1 F2.left.length l1) (.slice B2 F2.right.length l2) (.slice B3 F2.pre.length l3) F2 from by rw [hx6]; exact ownRl_form HO3.out HG4.out _ _ _)
        have HG5' := kH (show x6.heap[g5]? = some (.cells #[.slice none 0 0, .slice none 0 0, .slice none 0 0] 101 (0, 0)) from by rw [hx6]; exact ((set3_grown xa4 g4 _ _ _).block _ (gA HG5.out).1 (fun e => Hne.out (by injection e with e; exact e.symm))).trans HG5.out)
        have hu : ((xa4.setCell ⟨g4, 0, none⟩ (.slice A1 F1.left.length k1)).setCell ⟨g4, 1, none⟩ (.slice A2 F1.right.length k2)).setCell ⟨g4, 2, none⟩ (.slice A3 F1.pre.length k3) = x6 := by rw [hx6]; rfl
        rw [hu] at hHeld ⊢
        clear hu hx6 z0 z1 z2 zf0 zf1 zf2
        obtain ⟨z0, z1, z2, zf⟩ := rl_cells HG5'.out
        have zf0 := zf 0
        have zf1 := zf 1
        have zf2 := zf 2
        clear zf
        refine rd 7 (fun KK hKK => ?_)
        clear hHeld
        go_simp
        refine hKK.out _ _ (HS.out _ (set3_below _ _ _ Hb6.out Hg5.out)) (fun hHeld => ?_)
        clear hKK KK
        try simp only [Act.put, yL]
        refine wpAnyH_done (by kernel_rfl) ?_ _
        go_wp2
        go_meet
        exact ⟨g4, g5, A1, A2, A3, B1, B2, B3, k1, k2, k3, l1, l2, l3, rfl, rfl, kH ⟨((set3_grown x6 g5 (.slice B1 F2.left.length l1) (.slice B2 F2.right.length l2) (.slice B3 F2.pre.length l3)).block _ (gA HM1.out.row).1 (fun e => Hne.out (by injection e))).trans HM1.out.row, ownRl_form HM1.out.own HG5'.out _ _ _⟩, kH ⟨set3_row _ _ _ HG5'.out, ownRl_form HO3'.out HG5'.out _ _ _⟩, kH (set3_below _ _ _ Hb6.out Hg5.out)⟩
      · clear hHeld
        go_simp
        obtain ⟨xa4, hxa⟩ : ∃ xa, xa = (xa5.alloc (.cells #[.slice none 0 0, .slice none 0 0, .slice none 0 0] 101)) := ⟨_, rfl⟩
        rw [← hxa]
        have hba : Below (xa5).heap.size (xa5) xa4 := by rw [hxa]; exact (al0)
        have Hba4 := kH (Hba5.out.trans (hba.mono Hba5.out.size))
        obtain ⟨g4, hgb⟩ : ∃ gb, gb = (xa5).heap.size := ⟨_, rfl⟩
        have HG4 := kH (show xa4.heap[g4]? = some (.cells #[.slice none 0 0, .slice none 0 0, .slice none 0 0] 101 (0, 0)) from by rw [hxa, hgb]; exact heap_alloc_new _ _)
        have Hne := kH (show g4 ≠ g5 from (zrow_ne HG5.out hgb).symm)
        replace HO1 := kH (HO1.out.below hba)
        replace HG5 := kH ((hba.block _ (gA HG5.out).1).trans HG5.out)
        have Hg4 := kH (show W1.heap.size ≤ g4 from by rw [hgb]; exact Hba5.out.size)
        rw [← hgb]
        clear hba hxa hgb
        refine hKK.out _ _ (HS.out _ Hba4.out) (fun hHeld => ?_)
        clear hKK KK
        try simp only [Act.put, yL]
        refine rd 3 (fun KK hKK => ?_)
        clear hHeld
        go_simp
        (with_reducible refine (HC3.out _ Hba4.out).mono ?_)
        rintro e x3 ⟨v1, v2, v3, rfl, hown, hb'⟩
        obtain ⟨B1, l1, rfl⟩ := hown.ol.form
        obtain ⟨B2, l2, rfl⟩ := hown.or_.form
        obtain ⟨B3, l3, rfl⟩ := hown.op.form
        have Hb3 := kH (Hba4.out.trans (hb'.mono Hba4.out.size))
        have HO3 := kH (hown.weak Hba4.out.size)
        replace HO1 := kH (HO1.out.below hb')
        replace HG5 := kH ((hb'.block _ (gA HG5.out).1).trans HG5.out)
        replace HG4 := kH ((hb'.block _ (gA HG4.out).1).trans HG4.out)
        clear hown hb'
        refine hKK.out _ _ (HS.out _ Hb3.out) (fun hHeld => ?_)
        clear hKK KK
        try simp only [Act.put, yL]
        obtain ⟨z0, z1, z2, zf⟩ := rl_cells HG4.out
        have zf0 := zf 0
        have zf1 := zf 1
        have zf2 := zf 2
        clear zf
        refine rd 6 (fun KK hKK => ?_)
        clear hHeld
        go_simp
        refine hKK.out _ _ (HS.out _ (set3_below _ _ _ Hb3.out Hg4.out)) (fun hHeld => ?_)
        clear hKK KK
        try simp only [Act.put, yL]
        obtain ⟨x6, hx6⟩ : ∃ x6, x6 = set3 x3 g4 (.slice A1 F1.left.length k1) (.slice A2 F1.right.length k2) (.slice A3 F1.pre.length k3) := ⟨_, rfl⟩
        have Hb6 := kH (show Below W1.heap.size W1 x6 from by rw [hx6]; exact set3_below _ _ _ Hb3.out Hg4.out)
        have HM1 := kH (show Fm W1.heap.size g4 (.slice A1 F1.left.length k1) (.slice A2 F1.right.length k2) (.slice A3 F1.pre.length k3) F1 x6 from by rw [hx6]; exact ⟨set3_row _ _ _ HG4.out, ownRl_form HO1.out HG4.out _ _ _⟩)
        have HO3' := kH (show OwnRl W1.heap.size x6 (.slice B1 F2.left.length l1) (.slice B2 F2.right.length l2) (.slice B3 F2.pre.length l3) F2 from by rw [hx6]; exact ownRl_form HO3.out HG4.out _ _ _)
        have HG5' := kH (show x6.heap[g5]? = some (.cells #[.slice none 0 0, .slice none 0 0, .slice none 0 0] 101 (0, 0)) from by rw [hx6]; exact ((set3_grown x3 g4 _ _ _).block _ (gA HG5.out).1 (fun e => Hne.out (by injection e with e; exact e.symm))).trans HG5.out)
        have hu : ((x3.setCell ⟨g4, 0, none⟩ (.slice A1 F1.left.length k1)).setCell ⟨g4, 1, none⟩ (.slice A2 F1.right.length k2)).setCell ⟨g4, 2, none⟩ (.slice A3 F1.pre.length k3) = x6 := by rw [hx6]; rfl
        rw [hu] at hHeld ⊢
        clear hu hx6 z0 z1 z2 zf0 zf1 zf2
        obtain ⟨z0, z1, z2, zf⟩ := rl_cells HG5'.out
        have zf0 := zf 0
        have zf1 := zf 1
        have zf2 := zf 2
        clear zf
        refine rd 7 (fun KK hKK => ?_)
        clear hHeld
        go_simp
        refine hKK.out _ _ (HS.out _ (set3_below _ _ _ Hb6.out Hg5.out)) (fun hHeld => ?_)
        clear hKK KK
        try simp only [Act.put, yL]
        refine wpAnyH_done (by kernel_rfl) ?_ _
        go_wp2
        go_meet
        exact ⟨g4, g5, A1, A2, A3, B1, B2, B3, k1, k2, k3, l1, l2, l3, rfl, rfl, kH ⟨((set3_grown x6 g5 (.slice B1 F2.left.length l1) (.slice B2 F2.right.length l2) (.slice B3 F2.pre.length l3)).block _ (gA HM1.out.row).1 (fun e => Hne.out (by injection e))).trans HM1.out.row, ownRl_form HM1.out.own HG5'.out _ _ _⟩, kH ⟨set3_row _ _ _ HG5'.out, ownRl_form HO3'.out HG5'.out _ _ _⟩, kH (set3_below _ _ _ Hb6.out Hg5.out)⟩
  · clear hHeld
    go_simp
    obtain ⟨xa4, hxa⟩ : ∃ xa, xa = (W1.alloc (.cells #[.slice none 0 0, .slice none 0 0, .slice none 0 0] 101)).drew := ⟨_, rfl⟩
    rw [← hxa]
    have hba : Below (W1).heap.size (W1) xa4 := by rw [hxa]; exact (al0).drew
    have Hba4 := kH (Hbr.out.trans (hba.mono Hbr.out.size))
    obtain ⟨g4, hgb⟩ : ∃ gb, gb = (W1).heap.size := ⟨_, rfl⟩
    have HG4 := kH (show xa4.heap[g4]? = some (.cells #[.slice none 0 0, .slice none 0 0, .slice none 0 0] 101 (0, 0)) from by rw [hxa, hgb]; exact heap_alloc_new _ _)
    have Hg4 := kH (show W1.heap.size ≤ g4 from by rw [hgb]; exact Hbr.out.size)
    rw [← hgb]
    clear hba hxa hgb
    refine hKK.out _ _ (HS.out _ Hba4.out) (fun hHeld => ?_)
    clear hKK KK
    try simp only [Act.put, yL]
    refine wpAnyH_ready (rs := [1, 5]) (by kernel_rfl) (by simp) ?_
    refine AllReadyH.cons (o := _) rfl (fun KK hKK => ?_) (AllReadyH.cons (o := _) rfl (fun KK hKK => ?_) AllReadyH.nil)
    · clear hHeld
      go_simp
      (with_reducible refine (HC1.out _ Hba4.out).mono ?_)
      rintro e x1 ⟨v1, v2, v3, rfl, hown, hb'⟩
      obtain ⟨A1, k1, rfl⟩ := hown.ol.form
      obtain ⟨A2, k2, rfl⟩ := hown.or_.form
      obtain ⟨A3, k3, rfl⟩ := hown.op.form
      have Hb1 := kH (Hba4.out.trans (hb'.mono Hba4.out.size))
      have HO1 := kH (hown.weak Hba4.out.size)
      replace HG4 := kH ((hb'.block _ (gA HG4.out).1).trans HG4.out)
      clear hown hb'
      refine hKK.out _ _ (HS.out _ Hb1.out) (fun hHeld => ?_)
      clear hKK KK
      try simp only [Act.put, yL]
      refine wpAnyH_ready (rs := [3, 5]) (by kernel_rfl) (by simp) ?_
      refine AllReadyH.cons (o := _) rfl (fun KK hKK => ?_) (AllReadyH.cons (o := _) rfl (fun KK hKK => ?_) AllReadyH.nil)
      · clear hHeld
        go_simp
        (with_reducible refine (HC3.out _ Hb1.out).mono ?_)
        rintro e x3 ⟨v1, v2, v3, rfl, hown, hb'⟩
        obtain ⟨B1, l1, rfl⟩ := hown.ol.form
        obtain ⟨B2, l2, rfl⟩ := hown.or_.form
        obtain ⟨B3, l3, rfl⟩ := hown.op.form
        have Hb3 := kH (Hb1.out.trans (hb'.mono Hb1.out.size))
        have HO3 := kH (hown.weak Hb1.out.size)
        replace HO1 := kH (HO1.out.below hb')
        replace HG4 := kH ((hb'.block _ (gA HG4.out).1).trans HG4.out)
        clear hown hb'
        refine hKK.out _ _ (HS.out _ Hb3.out) (fun hHeld => ?_)
        clear hKK KK
        try simp only [Act.put, yL]
        refine rd 5 (fun KK hKK => ?_)
        clear hHeld
        go_simp
        obtain ⟨xa5, hxa⟩ : ∃ xa, xa = (x3.alloc (.cells #[.slice none 0 0, .slice none 0 0, .slice none 0 0] 101)) := ⟨_, rfl⟩
        rw [← hxa]
        have hba : Below (x3).heap.size (x3) xa5 := by rw [hxa]; exact (al0)
        have Hba5 := kH (Hb3.out.trans (hba.mono Hb3.out.size))
        obtain ⟨g5, hgb⟩ : ∃ gb, gb = (x3).heap.size := ⟨_, rfl⟩
        have HG5 := kH (show xa5.heap[g5]? = some (.cells #[.slice none 0 0, .slice none 0 0, .slice none 0 0] 101 (0, 0)) from by rw [hxa, hgb]; exact heap_alloc_new _ _)
        have Hne := kH (show g4 ≠ g5 from zrow_ne HG4.out hgb)
        replace HO1 := kH (HO1.out.below hba)
        replace HO3 := kH (HO3.out.below hba)
        replace HG4 := kH ((hba.block _ (gA HG4.out).1).trans HG4.out)
        have Hg5 := kH (show W1.heap.size ≤ g5 from by rw [hgb]; exact Hb3.out.size)
        rw [← hgb]
        clear hba hxa hgb
        refine hKK.out _ _ (HS.out _ Hba5.out) (fun hHeld => ?_)
        clear hKK KK
        try simp only [Act.put, yL]
        obtain ⟨z0, z1, z2, zf⟩ := rl_cells HG4.out
        have zf0 := zf 0
        have zf1 := zf 1
        have zf2 := zf 2
        clear zf
        refine rd 6 (fun KK hKK => ?_)
        clear hHeld
        go_simp
        refine hKK.out _ _ (HS.out _ (set3_below _ _ _ Hba5.out Hg4.out)) (fun hHeld => ?_)
        clear hKK KK
        try simp only [Act.put, yL]
        obtain ⟨x6, hx6⟩ : ∃ x6, x6 = set3 xa5 g4 (.slice A1 F1.left.length k1) (.slice A2 F1.right.length k2) (.slice A3 F1.pre.length k3) := ⟨_, rfl⟩
        have Hb6 := kH (show Below W1.heap.size W1 x6 from by rw [hx6]; exact set3_below _ _ _ Hba5.out Hg4.out)
        have HM1 := kH (show Fm W1.heap.size g4 (.slice A1 F1.left.length k1) (.slice A2 F1.right.length k2) (.slice A3 F1.pre.length k3) F1 x6 from by rw [hx6]; exact ⟨set3_row _ _ _ HG4.out, ownRl_form HO1.out HG4.out _ _ _⟩)
        have HO3' := kH (show OwnRl W1.heap.size x6 (.slice B1 F2.left.length l1) (.slice B2 F2.right.length l2) (.slice B3 F2.pre.length l3) F2 from by rw [hx6]; exact ownRl_form HO3.out HG4.out _ _ _)
        have HG5' := kH (show x6.heap[g5]? = some (.cells #[.slice none 0 0, .slice none 0 0, .slice none 0 0] 101 (0, 0)) from by rw [hx6]; exact ((set3_grown xa5 g4 _ _ _).block _ (gA HG5.out).1 (fun e => Hne.out (by injection e with e; exact e.symm))).trans HG5.out)
        have hu : ((xa5.setCell ⟨g4, 0, none⟩ (.slice A1 F1.left.length k1)).setCell ⟨g4, 1, none⟩ (.slice A2 F1.right.length k2)).setCell ⟨g4, 2, none⟩ (.slice A3 F1.pre.length k3) = x6 := by rw [hx6]; rfl
        rw [hu] at hHeld ⊢
        clear hu hx6 z0 z1 z2 zf0 zf1 zf2
        obtain ⟨z0, z1, z2, zf⟩ := rl_cells HG5'.out
        have zf0 := zf 0
        have zf1 := zf 1
        have zf2 := zf 2
        clear zf
        refine rd 7 (fun KK hKK => ?_)
        clear hHeld
        go_simp
        refine hKK.out _ _ (HS.out _ (set3_below _ _ _ Hb6.out Hg5.out)) (fun hHeld => ?_)
        clear hKK KK
        try simp only [Act.put, yL]
        refine wpAnyH_done (by kernel_rfl) ?_ _
        go_wp2
        go_meet
        exact ⟨g4, g5, A1, A2, A3, B1, B2, B3, k1, k2, k3, l1, l2, l3, rfl, rfl, kH ⟨((set3_grown x6 g5 (.slice B1 F2.left.length l1) (.slice B2 F2.right.length l2) (.slice B3 F2.pre.length l3)).block _ (gA HM1.out.row).1 (fun e => Hne.out (by injection e))).trans HM1.out.row, ownRl_form HM1.out.own HG5'.out _ _ _⟩, kH ⟨set3_row _ _ _ HG5'.out, ownRl_form HO3'.out HG5'.out _ _ _⟩, kH (set3_below _ _ _ Hb6.out Hg5.out)⟩
      · clear hHeld
        go_simp
        obtain ⟨xa5, hxa⟩ : ∃ xa, xa = (x1.alloc (.cells #[.slice none 0 0, .slice none 0 0, .slice none 0 0] 101)) := ⟨_, rfl⟩
        rw [← hxa]
        have hba : Below (x1).heap.size (x1) xa5 := by rw [hxa]; exact (al0)
        have Hba5 := kH (Hb1.out.trans (hba.mono Hb1.out.size))
        obtain ⟨g5, hgb⟩ : ∃ gb, gb = (x1).heap.size := ⟨_, rfl⟩
        have HG5 := kH (show xa5.heap[g5]? = some (.cells #[.slice none 0 0, .slice none 0 0, .slice none 0 0] 101 (0, 0)) from by rw [hxa, hgb]; exact heap_alloc_new _ _)
        have Hne := kH (show g4 ≠ g5 from zrow_ne HG4.out hgb)
        replace HO1 := kH (HO1.out.below hba)
        replace HG4 := kH ((hba.block _ (gA HG4.out).1).trans HG4.out)
        have Hg5 := kH (show W1.heap.size ≤ g5 from by rw [hgb]; exact Hb1.out.size)
        rw [← hgb]
        clear hba hxa hgb
        refine hKK.out _ _ (HS.out _ Hba5.out) (fun hHeld => ?_)
        clear hKK KK
        try simp only [Act.put, yL]
        refine rd 3 (fun KK hKK => ?_)
        clear hHeld
        go_simp
        (with_reducible refine (HC3.out _ Hba5.out).mono ?_)
        rintro e x3 ⟨v1, v2, v3, rfl, hown, hb'⟩
        obtain ⟨B1, l1, rfl⟩ := hown.ol.form
        obtain ⟨B2, l2, rfl⟩ := hown.or_.form
        obtain ⟨B3, l3, rfl⟩ := hown.op.form
        have Hb3 := kH (Hba5.out.trans (hb'.mono Hba5.out.size))
        have HO3 := kH (hown.weak Hba5.out.size)
        replace HO1 := kH (HO1.out.below hb')
        replace HG4 := kH ((hb'.block _ (gA HG4.out).1).trans HG4.out)
        replace HG5 := kH ((hb'.block _ (gA HG5.out).1).trans HG5.out)
        clear hown hb'
        refine hKK.out _ _ (HS.out _ Hb3.out) (fun hHeld => ?_)
        clear hKK KK
        try simp only [Act.put, yL]
        obtain ⟨z0, z1, z2, zf⟩ := rl_cells HG4.out
        have zf0 := zf 0
        have zf1 := zf 1
        have zf2 := zf 2
        clear zf
        refine rd 6 (fun KK hKK => ?_)
        clear hHeld
        go_simp
        refine hKK.out _ _ (HS.out _ (set3_below _ _ _ Hb3.out Hg4.out)) (fun hHeld => ?_)
        clear hKK KK
        try simp only [Act.put, yL]
        obtain ⟨x6, hx6⟩ : ∃ x6, x6 = set3 x3 g4 (.slice A1 F1.left.length k1) (.slice A2 F1.right.length k2) (.slice A3 F1.pre.length k3) := ⟨_, rfl⟩
        have Hb6 := kH (show Below W1.heap.size W1 x6 from by rw [hx6]; exact set3_below _ _ _ Hb3.out Hg4.out)
        have HM1 := kH (show Fm W1.heap.size g4 (.slice A1 F1.left.length k1) (.slice A2 F1.right.length k2) (.slice A3 F1.pre.length k3) F1 x6 from by rw [hx6]; exact ⟨set3_row _ _ _ HG4.out, ownRl_form HO1.out HG4.out _ _ _⟩)
        have HO3' := kH (show OwnRl W1.heap.size x6 (.slice B1 F2.left.length l1) (.slice B2 F2.right.length l2) (.slice B3 F2.pre.length l3) F2 from by rw [hx6]; exact ownRl_form HO3.out HG4.out _ _ _)
        have HG5' := kH (show x6.heap[g5]? = some (.cells #[.slice none 0 0, .slice none 0 0, .slice none 0 0] 101 (0, 0)) from by rw [hx6]; exact ((set3_grown x3 g4 _ _ _).block _ (gA HG5.out).1 (fun e => Hne.out (by injection e with e; exact e.symm))).trans HG5.out)
        have hu : ((x3.setCell ⟨g4, 0, none⟩ (.slice A1 F1.left.length k1)).setCell ⟨g4, 1, none⟩ (.slice A2 F1.right.length k2)).setCell ⟨g4, 2, none⟩ (.slice A3 F1.pre.length k3) = x6 := by rw [hx6]; rfl
        rw [hu] at hHeld ⊢
        clear hu hx6 z0 z1 z2 zf0 zf1 zf2
        obtain ⟨z0, z1, z2, zf⟩ := rl_cells HG5'.out
        have zf0 := zf 0
        have zf1 := zf 1
        have zf2 := zf 2
        clear zf
        refine rd 7 (fun KK hKK => ?_)
        clear hHeld
        go_simp
        refine hKK.out _ _ (HS.out _ (set3_below _ _ _ Hb6.out Hg5.out)) (fun hHeld => ?_)
        clear hKK KK
        try simp only [Act.put, yL]
        refine wpAnyH_done (by kernel_rfl) ?_ _
        go_wp2
        go_meet
        exact ⟨g4, g5, A1, A2, A3, B1, B2, B3, k1, k2, k3, l1, l2, l3, rfl, rfl, kH ⟨((set3_grown x6 g5 (.slice B1 F2.left.length l1) (.slice B2 F2.right.length l2) (.slice B3 F2.pre.length l3)).block _ (gA HM1.out.row).1 (fun e => Hne.out (by injection e))).trans HM1.out.row, ownRl_form HM1.out.own HG5'.out _ _ _⟩, kH ⟨set3_row _ _ _ HG5'.out, ownRl_form HO3'.out HG5'.out _ _ _⟩, kH (set3_below _ _ _ Hb6.out Hg5.out)⟩
    · clear hHeld
      go_simp
      obtain ⟨xa5, hxa⟩ : ∃ xa, xa = (xa4.alloc (.cells #[.slice none 0 0, .slice none 0 0, .slice none 0 0] 101)) := ⟨_, rfl⟩
      rw [← hxa]
      have hba : Below (xa4).heap.size (xa4) xa5 := by rw [hxa]; exact (al0)
      have Hba5 := kH (Hba4.out.trans (hba.mono Hba4.out.size))
      obtain ⟨g5, hgb⟩ : ∃ gb, gb = (xa4).heap.size := ⟨_, rfl⟩
      have HG5 := kH (show xa5.heap[g5]? = some (.cells #[.slice none 0 0, .slice none 0 0, .slice none 0 0] 101 (0, 0)) from by rw [hxa, hgb]; exact heap_alloc_new _ _)
      have Hne := kH (show g4 ≠ g5 from zrow_ne HG4.out hgb)
      replace HG4 := kH ((hba.block _ (gA HG4.out).1).trans HG4.out)
      have Hg5 := kH (show W1.heap.size ≤ g5 from by rw [hgb]; exact Hba4.out.size)
      rw [← hgb]
      clear hba hxa hgb
      refine hKK.out _ _ (HS.out _ Hba5.out) (fun hHeld => ?_)
      clear hKK KK
      try simp only [Act.put, yL]
      refine rd 1 (fun KK hKK => ?_)
      clear hHeld
      go_simp
      (with_reducible refine (HC1.out _ Hba5.out).mono ?_)
      rintro e x1 ⟨v1, v2, v3, rfl, hown, hb'⟩
      obtain ⟨A1, k1, rfl⟩ := hown.ol.form
      obtain ⟨A2, k2, rfl⟩ := hown.or_.form
      obtain ⟨A3, k3, rfl⟩ := hown.op.form
      have Hb1 := kH (Hba5.out.trans (hb'.mono Hba5.out.size))
      have HO1 := kH (hown.weak Hba5.out.size)
      replace HG4 := kH ((hb'.block _ (gA HG4.out).1).trans HG4.out)
      replace HG5 := kH ((hb'.block _ (gA HG5.out).1).trans HG5.out)
      clear hown hb'
      refine hKK.out _ _ (HS.out _ Hb1.out) (fun hHeld => ?_)
      clear hKK KK
      try simp only [Act.put, yL]
      refine rd 3 (fun KK hKK => ?_)
      clear hHeld
      go_simp
      (with_reducible refine (HC3.out _ Hb1.out).mono ?_)
      rintro e x3 ⟨v1, v2, v3, rfl, hown, hb'⟩
      obtain ⟨B1, l1, rfl⟩ := hown.ol.form
      obtain ⟨B2, l2, rfl⟩ := hown.or_.form
      obtain ⟨B3, l3, rfl⟩ := hown.op.form
      have Hb3 := kH (Hb1.out.trans (hb'.mono Hb1.out.size))
      have HO3 := kH (hown.weak Hb1.out.size)
      replace HO1 := kH (HO1.out.below hb')
      replace HG4 := kH ((hb'.block _ (gA HG4.out).1).trans HG4.out)
      replace HG5 := kH ((hb'.block _ (gA HG5.out).1).trans HG5.out)
      clear hown hb'
      refine hKK.out _ _ (HS.out _ Hb3.out) (fun hHeld => ?_)
      clear hKK KK
      try simp only [Act.put, yL]
      obtain ⟨z0, z1, z2, zf⟩ := rl_cells HG4.out
      have zf0 := zf 0
      have zf1 := zf 1
      have zf2 := zf 2
      clear zf
      refine rd 6 (fun KK hKK => ?_)
      clear hHeld
      go_simp
      refine hKK.out _ _ (HS.out _ (set3_below _ _ _ Hb3.out Hg4.out)) (fun hHeld => ?_)
      clear hKK KK
      try simp only [Act.put, yL]
      obtain ⟨x6, hx6⟩ : ∃ x6, x6 = set3 x3 g4 (.slice A1 F1.left.length k1) (.slice A2 F1.right.length k2) (.slice A3 F1.pre.length k3) := ⟨_, rfl⟩
      have Hb6 := kH (show Below W1.heap.size W1 x6 from by rw [hx6]; exact set3_below _ _ _ Hb3.out Hg4.out)
      have HM1 := kH (show Fm W1.heap.size g4 (.slice A1 F1.left.length k1) (.slice A2 F1.right.length k2) (.slice A3 F1.pre.length k3) F1 x6 from by rw [hx6]; exact ⟨set3_row _ _ _ HG4.out, ownRl_form HO1.out HG4.out _ _ _⟩)
      have HO3' := kH (show OwnRl W1.heap.size x6 (.slice B1 F2.left.length l1) (.slice B2 F2.right.length l2) (.slice B3 F2.pre.length l3) F2 from by rw [hx6]; exact ownRl_form HO3.out HG4.out _ _ _)
      have HG5' := kH (show x6.heap[g5]? = some (.cells #[.slice none 0 0, .slice none 0 0, .slice none 0 0] 101 (0, 0)) from by rw [hx6]; exact ((set3_grown x3 g4 _ _ _).block _ (gA HG5.out).1 (fun e => Hne.out (by injection e with e; exact e.symm))).trans HG5.out)
      have hu : ((x3.setCell ⟨g4, 0, none⟩ (.slice A1 F1.left.length k1)).setCell ⟨g4, 1, none⟩ (.slice A2 F1.right.length k2)).setCell ⟨g4, 2, none⟩ (.slice A3 F1.pre.length k3) = x6 := by rw [hx6]; rfl
      rw [hu] at hHeld ⊢
      clear hu hx6 z0 z1 z2 zf0 zf1 zf2
      obtain ⟨z0, z1, z2, zf⟩ := rl_cells HG5'.out
      have zf0 := zf 0
      have zf1 := zf 1
      have zf2 := zf 2
      clear zf
      refine rd 7 (fun KK hKK => ?_)
      clear hHeld
      go_simp
      refine hKK.out _ _ (HS.out _ (set3_below _ _ _ Hb6.out Hg5.out)) (fun hHeld => ?_)
      clear hKK KK
      try simp only [Act.put, yL]
      refine wpAnyH_done (by kernel_rfl) ?_ _
      go_wp2
      go_meet
      exact ⟨g4, g5, A1, A2, A3, B1, B2, B3, k1, k2, k3, l1, l2, l3, rfl, rfl, kH ⟨((set3_grown x6 g5 (.slice B1 F2.left.length l1) (.slice B2 F2.right.length l2) (.slice B3 F2.pre.length l3)).block _ (gA HM1.out.row).1 (fun e => Hne.out (by injection e))).trans HM1.out.row, ownRl_form HM1.out.own HG5'.out _ _ _⟩, kH ⟨set3_row _ _ _ HG5'.out, ownRl_form HO3'.out HG5'.out _ _ _⟩, kH (set3_below _ _ _ Hb6.out Hg5.out)⟩
  · clear hHeld
    go_simp
    obtain ⟨xa5, hxa⟩ : ∃ xa, xa = (W1.alloc (.cells #[.slice none 0 0, .slice none 0 0, .slice none 0 0] 101)).drew := ⟨_, rfl⟩
    rw [← hxa]
    have hba : Below (W1).heap.size (W1) xa5 := by rw [hxa]; exact (al0).drew
    have Hba5 := kH (Hbr.out.trans (hba.mono Hbr.out.size))
    obtain ⟨g5, hgb⟩ : ∃ gb, gb = (W1).heap.size := ⟨_, rfl⟩
    have HG5 := kH (show xa5.heap[g5]? = some (.cells #[.slice none 0 0, .slice none 0 0, .slice none 0 0] 101 (0, 0)) from by rw [hxa, hgb]; exact heap_alloc_new _ _)
    have Hg5 := kH (show W1.heap.size ≤ g5 from by rw [hgb]; exact Hbr.out.size)
    rw [← hgb]
    clear hba hxa hgb
    refine hKK.out _ _ (HS.out _ Hba5.out) (fun hHeld => ?_)
    clear hKK KK
    try simp only [Act.put, yL]
    refine wpAnyH_ready (rs := [1, 4]) (by kernel_rfl) (by simp) ?_
    refine AllReadyH.cons (o := _) rfl (fun KK hKK => ?_) (AllReadyH.cons (o := _) rfl (fun KK hKK => ?_) AllReadyH.nil)
    · clear hHeld
      go_simp
      (with_reducible refine (HC1.out _ Hba5.out).mono ?_)
      rintro e x1 ⟨v1, v2, v3, rfl, hown, hb'⟩
      obtain ⟨A1, k1, rfl⟩ := hown.ol.form
      obtain ⟨A2, k2, rfl⟩ := hown.or_.form
      obtain ⟨A3, k3, rfl⟩ := hown.op.form
      have Hb1 := kH (Hba5.out.trans (hb'.mono Hba5.out.size))
      have HO1 := kH (hown.weak Hba5.out.size)
      replace HG5 := kH ((hb'.block _ (gA HG5.out).1).trans HG5.out)
      clear hown hb'
      refine hKK.out _ _ (HS.out _ Hb1.out) (fun hHeld => ?_)
      clear hKK KK
      try simp only [Act.put, yL]
      refine wpAnyH_ready (rs := [3, 4]) (by kernel_rfl) (by simp) ?_
      refine AllReadyH.cons (o := _) rfl (fun KK hKK => ?_) (AllReadyH.cons (o := _) rfl (fun KK hKK => ?_) AllReadyH.nil)
      · clear hHeld
        go_simp
        (with_reducible refine (HC3.out _ Hb1.out).mono ?_)
        rintro e x3 ⟨v1, v2, v3, rfl, hown, hb'⟩
        obtain ⟨B1, l1, rfl⟩ := hown.ol.form
        obtain ⟨B2, l2, rfl⟩ := hown.or_.form
        obtain ⟨B3, l3, rfl⟩ := hown.op.form
        have Hb3 := kH (Hb1.out.trans (hb'.mono Hb1.out.size))
        have HO3 := kH (hown.weak Hb1.out.size)
        replace HO1 := kH (HO1.out.below hb')
        replace HG5 := kH ((hb'.block _ (gA HG5.out).1).trans HG5.out)
        clear hown hb'
        refine hKK.out _ _ (HS.out _ Hb3.out) (fun hHeld => ?_)
        clear hKK KK
        try simp only [Act.put, yL]
        refine rd 4 (fun KK hKK => ?_)
        clear hHeld
        go_simp
        obtain ⟨xa4, hxa⟩ : ∃ xa, xa = (x3.alloc (.cells #[.slice none 0 0, .slice none 0 0, .slice none 0 0] 101)) := ⟨_, rfl⟩
        rw [← hxa]
        have hba : Below (x3).heap.size (x3) xa4 := by rw [hxa]; exact (al0)
        have Hba4 := kH (Hb3.out.trans (hba.mono Hb3.out.size))
        obtain ⟨g4, hgb⟩ : ∃ gb, gb = (x3).heap.size := ⟨_, rfl⟩
        have HG4 := kH (show xa4.heap[g4]? = some (.cells #[.slice none 0 0, .slice none 0 0, .slice none 0 0] 101 (0, 0)) from by rw [hxa, hgb]; exact heap_alloc_new _ _)
        have Hne := kH (show g4 ≠ g5 from (zrow_ne HG5.out hgb).symm)
        replace HO1 := kH (HO1.out.below hba)
        replace HO3 := kH (HO3.out.below hba)
        replace HG5 := kH ((hba.block _ (gA HG5.out).1).trans HG5.out)
        have Hg4 := kH (show W1.heap.size ≤ g4 from by rw [hgb]; exact Hb3.out.size)
        rw [← hgb]
        clear hba hxa hgb
        refine hKK.out _ _ (HS.out _ Hba4.out) (fun hHeld => ?_)
        clear hKK KK
        try simp only [Act.put, yL]
        obtain ⟨z0, z1, z2, zf⟩ := rl_cells HG4.out
        have zf0 := zf 0
        have zf1 := zf 1
        have zf2 := zf 2
        clear zf
        refine rd 6 (fun KK hKK => ?_)
        clear hHeld
        go_simp
        refine hKK.out _ _ (HS.out _ (set3_below _ _ _ Hba4.out Hg4.out)) (fun hHeld => ?_)
        clear hKK KK
        try simp only [Act.put, yL]
        obtain ⟨x6, hx6⟩ : ∃ x6, x6 = set3 xa4 g4 (.slice A1 F1.left.length k1) (.slice A2 F1.right.length k2) (.slice A3 F1.pre.length k3) := ⟨_, rfl⟩
        have Hb6 := kH (show Below W1.heap.size W1 x6 from by rw [hx6]; exact set3_below _ _ _ Hba4.out Hg4.out)
        have HM1 := kH (show Fm W1.heap.size g4 (.slice A1 F1.left.length k1) (.slice A2 F1.right.length k2) (.slice A3 F1.pre.length k3) F1 x6 from by rw [hx6]; exact ⟨set3_row _ _ _ HG4.out, ownRl_form HO1.out HG4.out _ _ _⟩)
        have HO3' := kH (show OwnRl W1.heap.size x6 (.slice B1 F2.left.length l1) (.slice B2 F2.right.length l2) (.slice B3 F2.pre.length l3) F2 from by rw [hx6]; exact ownRl_form HO3.out HG4.out _ _ _)
        have HG5' := kH (show x6.heap[g5]? = some (.cells #[.slice none 0 0, .slice none 0 0, .slice none 0 0] 101 (0, 0)) from by rw [hx6]; exact ((set3_grown xa4 g4 _ _ _).block _ (gA HG5.out).1 (fun e => Hne.out (by injection e with e; exact e.symm))).trans HG5.out)
        have hu : ((xa4.setCell ⟨g4, 0, none⟩ (.slice A1 F1.left.length k1)).setCell ⟨g4, 1, none⟩ (.slice A2 F1.right.length k2)).setCell ⟨g4, 2, none⟩ (.slice A3 F1.pre.length k3) = x6 := by rw [hx6]; rfl
        rw [hu] at hHeld ⊢
        clear hu hx6 z0 z1 z2 zf0 zf1 zf2
        obtain ⟨z0, z1, z2, zf⟩ := rl_cells HG5'.out
        have zf0 := zf 0
        have zf1 := zf 1
        have zf2 := zf 2
        clear zf
        refine rd 7 (fun KK hKK => ?_)
        clear hHeld
        go_simp
        refine hKK.out _ _ (HS.out _ (set3_below _ _ _ Hb6.out Hg5.out)) (fun hHeld => ?_)
        clear hKK KK
        try simp only [Act.put, yL]
        refine wpAnyH_done (by kernel_rfl) ?_ _
        go_wp2
        go_meet
        exact ⟨g4, g5, A1, A2, A3, B1, B2, B3, k1, k2, k3, l1, l2, l3, rfl, rfl, kH ⟨((set3_grown x6 g5 (.slice B1 F2.left.length l1) (.slice B2 F2.right.length l2) (.slice B3 F2.pre.length l3)).block _ (gA HM1.out.row).1 (fun e => Hne.out (by injection e))).trans HM1.out.row, ownRl_form HM1.out.own HG5'.out _ _ _⟩, kH ⟨set3_row _ _ _ HG5'.out, ownRl_form HO3'.out HG5'.out _ _ _⟩, kH (set3_below _ _ _ Hb6.out Hg5.out)⟩
      · clear hHeld
        go_simp
        obtain ⟨xa4, hxa⟩ : ∃ xa, xa = (x1.alloc (.cells #[.slice none 0 0, .slice none 0 0, .slice none 0 0] 101)) := ⟨_, rfl⟩
        rw [← hxa]
        have hba : Below (x1).heap.size (x1) xa4 := by rw [hxa]; exact (al0)
        have Hba4 := kH (Hb1.out.trans (hba.mono Hb1.out.size))
        obtain ⟨g4, hgb⟩ : ∃ gb, gb = (x1).heap.size := ⟨_, rfl⟩
        have HG4 := kH (show xa4.heap[g4]? = some (.cells #[.slice none 0 0, .slice none 0 0, .slice none 0 0] 101 (0, 0)) from by rw [hxa, hgb]; exact heap_alloc_new _ _)
        have Hne := kH (show g4 ≠ g5 from (zrow_ne HG5.out hgb).symm)
        replace HO1 := kH (HO1.out.below hba)
        replace HG5 := kH ((hba.block _ (gA HG5.out).1).trans HG5.out)
        have Hg4 := kH (show W1.heap.size ≤ g4 from by rw [hgb]; exact Hb1.out.size)
        rw [← hgb]
        clear hba hxa hgb
        refine hKK.out _ _ (HS.out _ Hba4.out) (fun hHeld => ?_)
        clear hKK KK
        try simp only [Act.put, yL]
        refine rd 3 (fun KK hKK => ?_)
        clear hHeld
        go_simp
        (with_reducible refine (HC3.out _ Hba4.out).mono ?_)
        rintro e x3 ⟨v1, v2, v3, rfl, hown, hb'⟩
        obtain ⟨B1, l1, rfl⟩ := hown.ol.form
        obtain ⟨B2, l2, rfl⟩ := hown.or_.form
        obtain ⟨B3, l3, rfl⟩ := hown.op.form
        have Hb3 := kH (Hba4.out.trans (hb'.mono Hba4.out.size))
        have HO3 := kH (hown.weak Hba4.out.size)
        replace HO1 := kH (HO1.out.below hb')
        replace HG5 := kH ((hb'.block _ (gA HG5.out).1).trans HG5.out)
        replace HG4 := kH ((hb'.block _ (gA HG4.out).1).trans HG4.out)
        clear hown hb'
        refine hKK.out _ _ (HS.out _ Hb3.out) (fun hHeld => ?_)
        clear hKK KK
        try simp only [Act.put, yL]
        obtain ⟨z0, z1, z2, zf⟩ := rl_cells HG4.out
        have zf0 := zf 0
        have zf1 := zf 1
        have zf2 := zf 2
        clear zf
        refine rd 6 (fun KK hKK => ?_)
        clear hHeld
        go_simp
        refine hKK.out _ _ (HS.out _ (set3_below _ _ _ Hb3.out Hg4.out)) (fun hHeld => ?_)
        clear hKK KK
        try simp only [Act.put, yL]
        obtain ⟨x6, hx6⟩ : ∃ x6, x6 = set3 x3 g4 (.slice A1 F1.left.length k1) (.slice A2 F1.right.length k2) (.slice A3 F1.pre.length k3) := ⟨_, rfl⟩
        have Hb6 := kH (show Below W1.heap.size W1 x6 from by rw [hx6]; exact set3_below _ _ _ Hb3.out Hg4.out)
        have HM1 := kH (show Fm W1.heap.size g4 (.slice A1 F1.left.length k1) (.slice A2 F1.right.length k2) (.slice A3 F1.pre.length k3) F1 x6 from by rw [hx6]; exact ⟨set3_row _ _ _ HG4.out, ownRl_form HO1.out HG4.out _ _ _⟩)
        have HO3' := kH (show OwnRl W1.heap.size x6 (.slice B1 F2.left.length l1) (.slice B2 F2.right.length l2) (.slice B3 F2.pre.length l3) F2 from by rw [hx6]; exact ownRl_form HO3.out HG4.out _ _ _)
        have HG5' := kH (show x6.heap[g5]? = some (.cells #[.slice none 0 0, .slice none 0 0, .slice none 0 0] 101 (0, 0)) from by rw [hx6]; exact ((set3_grown x3 g4 _ _ _).block _ (gA HG5.out).1 (fun e => Hne.out (by injection e with e; exact e.symm))).trans HG5.out)
        have hu : ((x3.setCell ⟨g4, 0, none⟩ (.slice A1 F1.left.length k1)).setCell ⟨g4, 1, none⟩ (.slice A2 F1.right.length k2)).setCell ⟨g4, 2, none⟩ (.slice A3 F1.pre.length k3) = x6 := by rw [hx6]; rfl
        rw [hu] at hHeld ⊢
        clear hu hx6 z0 z1 z2 zf0 zf1 zf2
        obtain ⟨z0, z1, z2, zf⟩ := rl_cells HG5'.out
        have zf0 := zf 0
        have zf1 := zf 1
        have zf2 := zf 2
        clear zf
        refine rd 7 (fun KK hKK => ?_)
        clear hHeld
        go_simp
        refine hKK.out _ _ (HS.out _ (set3_below _ _ _ Hb6.out Hg5.out)) (fun hHeld => ?_)
        clear hKK KK
        try simp only [Act.put, yL]
        refine wpAnyH_done (by kernel_rfl) ?_ _
        go_wp2
        go_meet
        exact ⟨g4, g5, A1, A2, A3, B1, B2, B3, k1, k2, k3, l1, l2, l3, rfl, rfl, kH ⟨((set3_grown x6 g5 (.slice B1 F2.left.length l1) (.slice B2 F2.right.length l2) (.slice B3 F2.pre.length l3)).block _ (gA HM1.out.row).1 (fun e => Hne.out (by injection e))).trans HM1.out.row, ownRl_form HM1.out.own HG5'.out _ _ _⟩, kH ⟨set3_row _ _ _ HG5'.out, ownRl_form HO3'.out HG5'.out _ _ _⟩, kH (set3_below _ _ _ Hb6.out Hg5.out)⟩
    · clear hHeld
      go_simp
      obtain ⟨xa4, hxa⟩ : ∃ xa, xa = (xa5.alloc (.cells #[.slice none 0 0, .slice none 0 0, .slice none 0 0] 101)) := ⟨_, rfl⟩
      rw [← hxa]
      have hba : Below (xa5).heap.size (xa5) xa4 := by rw [hxa]; exact (al0)
      have Hba4 := kH (Hba5.out.trans (hba.mono Hba5.out.size))
      obtain ⟨g4, hgb⟩ : ∃ gb, gb = (xa5).heap.size := ⟨_, rfl⟩
      have HG4 := kH (show xa4.heap[g4]? = some (.cells #[.slice none 0 0, .slice none 0 0, .slice none 0 0] 101 (0, 0)) from by rw [hxa, hgb]; exact heap_alloc_new _ _)
      have Hne := kH (show g4 ≠ g5 from (zrow_ne HG5.out hgb).symm)
      replace HG5 := kH ((hba.block _ (gA HG5.out).1).trans HG5.out)
      have Hg4 := kH (show W1.heap.size ≤ g4 from by rw [hgb]; exact Hba5.out.size)
      rw [← hgb]
      clear hba hxa hgb
      refine hKK.out _ _ (HS.out _ Hba4.out) (fun hHeld => ?_)
      clear hKK KK
      try simp only [Act.put, yL]
      refine rd 1 (fun KK hKK => ?_)
      clear hHeld
      go_simp
      (with_reducible refine (HC1.out _ Hba4.out).mono ?_)
      rintro e x1 ⟨v1, v2, v3, rfl, hown, hb'⟩
      obtain ⟨A1, k1, rfl⟩ := hown.ol.form
      obtain ⟨A2, k2, rfl⟩ := hown.or_.form
      obtain ⟨A3, k3, rfl⟩ := hown.op.form
      have Hb1 := kH (Hba4.out.trans (hb'.mono Hba4.out.size))
      have HO1 := kH (hown.weak Hba4.out.size)
      replace HG5 := kH ((hb'.block _ (gA HG5.out).1).trans HG5.out)
      replace HG4 := kH ((hb'.block _ (gA HG4.out).1).trans HG4.out)
      clear hown hb'
      refine hKK.out _ _ (HS.out _ Hb1.out) (fun hHeld => ?_)
      clear hKK KK
      try simp only [Act.put, yL]
      refine rd 3 (fun KK hKK => ?_)
      clear hHeld
      go_simp
      (with_reducible refine (HC3.out _ Hb1.out).mono ?_)
      rintro e x3 ⟨v1, v2, v3, rfl, hown, hb'⟩
      obtain ⟨B1, l1, rfl⟩ := hown.ol.form
      obtain ⟨B2, l2, rfl⟩ := hown.or_.form
      obtain ⟨B3, l3, rfl⟩ := hown.op.form
      have Hb3 := kH (Hb1.out.trans (hb'.mono Hb1.out.size))
      have HO3 := kH (hown.weak Hb1.out.size)
      replace HO1 := kH (HO1.out.below hb')
      replace HG5 := kH ((hb'.block _ (gA HG5.out).1).trans HG5.out)
      replace HG4 := kH ((hb'.block _ (gA HG4.out).1).trans HG4.out)
      clear hown hb'
      refine hKK.out _ _ (HS.out _ Hb3.out) (fun hHeld => ?_)
      clear hKK KK
      try simp only [Act.put, yL]
      obtain ⟨z0, z1, z2, zf⟩ := rl_cells HG4.out
      have zf0 := zf 0
      have zf1 := zf 1
      have zf2 := zf 2
      clear zf
      refine rd 6 (fun KK hKK => ?_)
      clear hHeld
      go_simp
      refine hKK.out _ _ (HS.out _ (set3_below _ _ _ Hb3.out Hg4.out)) (fun hHeld => ?_)
      clear hKK KK
      try simp only [Act.put, yL]
      obtain ⟨x6, hx6⟩ : ∃ x6, x6 = set3 x3 g4 (.slice A1 F1.left.length k1) (.slice A2 F1.right.length k2) (.slice A3 F1.pre.length k3) := ⟨_, rfl⟩
      have Hb6 := kH (show Below W1.heap.size W1 x6 from by rw [hx6]; exact set3_below _ _ _ Hb3.out Hg4.out)
      have HM1 := kH (show Fm W1.heap.size g4 (.slice A1 F1.left.length k1) (.slice A2 F1.right.length k2) (.slice A3 F1.pre.length k3) F1 x6 from by rw [hx6]; exact ⟨set3_row _ _ _ HG4.out, ownRl_form HO1.out HG4.out _ _ _⟩)
      have HO3' := kH (show OwnRl W1.heap.size x6 (.slice B1 F2.left.length l1) (.slice B2 F2.right.length l2) (.slice B3 F2.pre.length l3) F2 from by rw [hx6]; exact ownRl_form HO3.out HG4.out _ _ _)
      have HG5' := kH (show x6.heap[g5]? = some (.cells #[.slice none 0 0, .slice none 0 0, .slice none 0 0] 101 (0, 0)) from by rw [hx6]; exact ((set3_grown x3 g4 _ _ _).block _ (gA HG5.out).1 (fun e => Hne.out (by injection e with e; exact e.symm))).trans HG5.out)
      have hu : ((x3.setCell ⟨g4, 0, none⟩ (.slice A1 F1.left.length k1)).setCell ⟨g4, 1, none⟩ (.slice A2 F1.right.length k2)).setCell ⟨g4, 2, none⟩ (.slice A3 F1.pre.length k3) = x6 := by rw [hx6]; rfl
      rw [hu] at hHeld ⊢
      clear hu hx6 z0 z1 z2 zf0 zf1 zf2
      obtain ⟨z0, z1, z2, zf⟩ := rl_cells HG5'.out
      have zf0 := zf 0
      have zf1 := zf 1
      have zf2 := zf 2
      clear zf
      refine rd 7 (fun KK hKK => ?_)
      clear hHeld
      go_simp
      refine hKK.out _ _ (HS.out _ (set3_below _ _ _ Hb6.out Hg5.out)) (fun hHeld => ?_)
      clear hKK KK
      try simp only [Act.put, yL]
      refine wpAnyH_done (by kernel_rfl) ?_ _
      go_wp2
      go_meet
      exact ⟨g4, g5, A1, A2, A3, B1, B2, B3, k1, k2, k3, l1, l2, l3, rfl, rfl, kH ⟨((set3_grown x6 g5 (.slice B1 F2.left.length l1) (.slice B2 F2.right.length l2) (.slice B3 F2.pre.length l3)).block _ (gA HM1.out.row).1 (fun e => Hne.out (by injection e))).trans HM1.out.row, ownRl_form HM1.out.own HG5'.out _ _ _⟩, kH ⟨set3_row _ _ _ HG5'.out, ownRl_form HO3'.out HG5'.out _ _ _⟩, kH (set3_below _ _ _ Hb6.out Hg5.out)⟩
 case rest =>
  obtain ⟨ga, gb, A1, A2, A3, B1, B2, B3, k1, k2, k3, l1, l2, l3, rfl, rfl, HA, HB, Hb⟩ := hcut
  have HD1 := kH (fun X (h : Below wc.heap.size wc X) => SameNodes_any (c := k1) (c' := l1) ((HA.out.below h).own.ol.stAt (ndF_rel _) rfl) ((HB.out.below h).own.ol.stAt (ndF_rel _) rfl))
  have HD2 := kH (fun X (h : Below wc.heap.size wc X) => SameNodes_any (c := k2) (c' := l2) ((HA.out.below h).own.or_.stAt (ndF_rel _) rfl) ((HB.out.below h).own.or_.stAt (ndF_rel _) rfl))
  have HD3 := kH (fun X (h : Below wc.heap.size wc X) => within_any (ca := k3) (cb := l3) ((HA.out.below h).own.op.stAt rfl) ((HB.out.below h).own.op.stAt rfl))
  have HD4 := kH (fun X (h : Below wc.heap.size wc X) => within_any (ca := l3) (cb := k3) ((HB.out.below h).own.op.stAt rfl) ((HA.out.below h).own.op.stAt rfl))
  have HQ := kH (fun X (h : Below wc.heap.size wc X) => (And.intro (rl_cells (HA.out.below h).row) (rl_cells (HB.out.below h).row)))
  have Hbc := kH (show ∀ X, Below wc.heap.size wc X → Below W.heap.size W X from fun X h => HB1.out.trans ((Hb.out.trans (h.mono Hb.out.size)).mono HB1.out.size))
  obtain ⟨p1, hp1⟩ : ∃ b, b = decide (F1.left = F2.left) := ⟨_, rfl⟩
  obtain ⟨p2, hp2⟩ : ∃ b, b = decide (F1.right = F2.right) := ⟨_, rfl⟩
  obtain ⟨p3, hp3⟩ : ∃ b, b = KT.wi F1.pre F2.pre := ⟨_, rfl⟩
  obtain ⟨p4, hp4⟩ : ∃ b, b = KT.wi F2.pre F1.pre := ⟨_, rfl⟩
  have HRr := kH (show KT.smF F1 F2 = (p1 && (p2 && (p3 && p4))) from by rw [hp1, hp2, hp3, hp4]; rfl)
  rw [← hp1] at HD1
  rw [← hp2] at HD2
  rw [← hp3] at HD3
  rw [← hp4] at HD4
  have Hwc := kH (Below.refl wc.heap.size wc)
  clear hp1 hp2 hp3 hp4 HA HB
  cases p1 with
  | false =>
   obtain ⟨⟨a0, a1, a2, _⟩, ⟨d0, d1, d2, _⟩⟩ := HQ.out wc Hwc.out
   go_wp2_with fail
   (with_reducible refine (HD1.out wc Hwc.out).mono ?_)
   rintro e w1 ⟨rfl, hb1⟩
   have Hw1 := kH (Hwc.out.trans (hb1.mono Hwc.out.size))
   clear hb1 a0 a1 a2 d0 d1 d2
   go_wp2
   go_ret
   exact ⟨by rw [HRr.out]; rfl, Hbc.out _ Hw1.out⟩
  | true =>
   obtain ⟨⟨a0, a1, a2, _⟩, ⟨d0, d1, d2, _⟩⟩ := HQ.out wc Hwc.out
   go_wp2_with fail
   (with_reducible refine (HD1.out wc Hwc.out).mono ?_)
   rintro e w1 ⟨rfl, hb1⟩
   have Hw1 := kH (Hwc.out.trans (hb1.mono Hwc.out.size))
   clear hb1 a0 a1 a2 d0 d1 d2
   cases p2 with
   | false =>
    obtain ⟨⟨a0, a1, a2, _⟩, ⟨d0, d1, d2, _⟩⟩ := HQ.out w1 Hw1.out
    go_wp2_with fail
    (with_reducible refine (HD2.out w1 Hw1.out).mono ?_)
    rintro e w2 ⟨rfl, hb2⟩
    have Hw2 := kH (Hw1.out.trans (hb2.mono Hw1.out.size))
    clear hb2 a0 a1 a2 d0 d1 d2
    go_wp2
    go_ret
    exact ⟨by rw [HRr.out]; rfl, Hbc.out _ Hw2.out⟩
   | true =>
    obtain ⟨⟨a0, a1, a2, _⟩, ⟨d0, d1, d2, _⟩⟩ := HQ.out w1 Hw1.out
    go_wp2_with fail
    (with_reducible refine (HD2.out w1 Hw1.out).mono ?_)
    rintro e w2 ⟨rfl, hb2⟩
    have Hw2 := kH (Hw1.out.trans (hb2.mono Hw1.out.size))
    clear hb2 a0 a1 a2 d0 d1 d2
    cases p3 with
    | false =>
     obtain ⟨⟨a0, a1, a2, _⟩, ⟨d0, d1, d2, _⟩⟩ := HQ.out w2 Hw2.out
     go_wp2_with fail
     (with_reducible refine (HD3.out w2 Hw2.out).mono ?_)
     rintro e w3 ⟨rfl, hb3⟩
     have Hw3 := kH (Hw2.out.trans (hb3.mono Hw2.out.size))
     clear hb3 a0 a1 a2 d0 d1 d2
     go_wp2
     go_ret
     exact ⟨by rw [HRr.out]; rfl, Hbc.out _ Hw3.out⟩
    | true =>
     obtain ⟨⟨a0, a1, a2, _⟩, ⟨d0, d1, d2, _⟩⟩ := HQ.out w2 Hw2.out
     go_wp2_with fail
     (with_reducible refine (HD3.out w2 Hw2.out).mono ?_)
     rintro e w3 ⟨rfl, hb3⟩
     have Hw3 := kH (Hw2.out.trans (hb3.mono Hw2.out.size))
     clear hb3 a0 a1 a2 d0 d1 d2
     obtain ⟨⟨a0, a1, a2, _⟩, ⟨d0, d1, d2, _⟩⟩ := HQ.out w3 Hw3.out
     go_wp2_with fail
     (with_reducible refine (HD4.out w3 Hw3.out).mono ?_)
     rintro e w4 ⟨rfl, hb4⟩
     have Hw4 := kH (Hw3.out.trans (hb4.mono Hw3.out.size))
     clear hb4 a0 a1 a2 d0 d1 d2
     go_wp2
     go_ret
     exact ⟨by rw [HRr.out]; rfl, Hbc.out _ Hw4.out⟩
end RF
end
end Go.Proofs.YtbiopedpceddeaaGreatDoor
