/- Rules: Turn (the program). -/
import Derived.Test.YtmebpgggfppmhaaDoorG38
import Derived.Deep.DeepCutAuto
set_option linter.unusedVariables false
set_option linter.unusedSimpArgs false
namespace Go.Proofs.YtmebpgggfppmhaaDoor
open Go.RowKit
set_option linter.unusedVariables false
set_option linter.unusedSimpArgs false

/-- conditions in memory of the call's own -/
def OwnC (B : Nat) (w : World) (v : Value) (cs : List R.Cd) : Prop :=
  ∃ us, OwnAt w 85 3 v cs.length us ∧ (∀ (k : Nat) (x : R.Cd), cs[k]? = some x → CdR w ((us.drop (k * 3)).take 3) x) ∧ ∀ g, v.ownBlock = some g → B ≤ g
section
variable {B B' : Nat} {w w' : World} {v : Value} {cs : List R.Cd}
theorem OwnC.nil_ (B : Nat) (w : World) : OwnC B w (.slice none 0 0) [] := ⟨[], OwnAt.nil_ _ _ _, fun k l h => by simp at h, fun g h => by simp [Value.ownBlock] at h⟩
theorem OwnC.form (h : OwnC B w v cs) : ∃ A c, v = .slice A cs.length c := by
  obtain ⟨us, h1, _⟩ := h
  exact h1.form
theorem OwnC.below (h : OwnC B w v cs) (hb : Below w.heap.size w w') : OwnC B w' v cs := by
  obtain ⟨us, h1, h2, h3⟩ := h
  exact ⟨us, h1.below hb h1.lt, fun k x hx => h2 k x hx, h3⟩
theorem OwnC.weak (h : OwnC B' w v cs) (hb : B ≤ B') : OwnC B w v cs := by
  obtain ⟨us, h1, h2, h3⟩ := h
  exact ⟨us, h1, h2, fun g hg => Nat.le_trans hb (h3 g hg)⟩
theorem OwnC.stAt {A : Option Addr} {n c : Nat} (h : OwnC B w (.slice A n c) cs) (hn : cs.length = n) : StAt 3 CdR w A n cs := by
  obtain ⟨us, h1, h2, h3⟩ := h
  rw [hn] at h1
  exact h1.stAt hn h2
end

theorem cloneC_sl {A : Option Addr} {n c : Nat} {cs : List R.Cd} {W : World} (h : StAt 3 CdR W A n cs) (hn : n ≤ 900000000) :
    Calls Tryd.prog 49 #[.slice A n c] W fun e W' => ∃ v, e = .returned v ∧ OwnC W.heap.size W' v cs ∧ Below W.heap.size W W' := by
  obtain ⟨us, hl, hs, hr⟩ := h.cells (by omega)
  have hlen := h.len
  refine (cloneC_any (us := us) (c := c) hl hs (fun u hu => ?_) (fun ad hne e => ?_) hn).mono ?_
  · obtain ⟨j, hj⟩ := List.mem_iff_getElem?.1 hu
    have hjl : j < n * 3 := by have := (List.getElem?_eq_some_iff.1 hj).1; omega
    have hx := List.getElem?_eq_getElem (show j / 3 < cs.length by omega)
    obtain ⟨e, _⟩ := hr (j / 3) _ hx
    have h2 : ((us.drop (j / 3 * 3)).take 3)[j % 3]? = some u := by
      rw [List.getElem?_take, if_pos (by omega), List.getElem?_drop, show j / 3 * 3 + j % 3 = j by omega]
      exact hj
    rw [e] at h2
    have h3 := List.mem_of_getElem? h2
    unfold cdC at h3
    simp only [List.mem_cons, List.not_mem_nil, or_false] at h3
    rcases h3 with rfl | rfl | rfl <;> rfl
  · subst e
    cases us with
    | nil => exact absurd rfl hne
    | cons u l =>
      have hn0 : 0 < n := by simp at hl; omega
      obtain ⟨x, b, off, us', _, e, hb, _⟩ := h.at_ hn0
      injection e with e
      rw [e]; exact hb
  · rintro e W' ⟨v, rfl, h1, h2, h3⟩
    exact ⟨v, rfl, ⟨us, by rw [hlen]; exact h1, hr, h3⟩, h2⟩

/-- a rule in memory of the call's own, from its three parts -/
structure OwnRl (B : Nat) (w : World) (v1 v2 v3 : Value) (r : R.Rl) : Prop where
  ol : OwnR (NdF B) B w v1 r.left
  or_ : OwnR (NdF B) B w v2 r.right
  op : OwnC B w v3 r.pre
theorem OwnRl.nil_ (B : Nat) (w : World) : OwnRl B w (.slice none 0 0) (.slice none 0 0) (.slice none 0 0) ⟨[], [], []⟩ := ⟨OwnR.nil_ _ _ _, OwnR.nil_ _ _ _, OwnC.nil_ _ _⟩
theorem OwnRl.below {B : Nat} {w w' : World} {v1 v2 v3 : Value} {r : R.Rl} (h : OwnRl B w v1 v2 v3 r) (hb : Below w.heap.size w w') : OwnRl B w' v1 v2 v3 r := ⟨h.ol.below (ndF_rel _) hb, h.or_.below (ndF_rel _) hb, h.op.below hb⟩
theorem OwnRl.weak {B B' : Nat} {w : World} {v1 v2 v3 : Value} {r : R.Rl} (h : OwnRl B' w v1 v2 v3 r) (hb : B ≤ B') : OwnRl B w v1 v2 v3 r := ⟨h.ol.weak hb, h.or_.weak hb, h.op.weak hb⟩

theorem rl_cells {w : World} {g : Nat} {T : TypeId} {a0 a1 a2 : Value} (h : w.heap[g]? = some (.cells #[a0, a1, a2] T (0, 0))) : w.cell? ⟨g, 0, none⟩ = some a0 ∧ w.cell? ⟨g, 1, none⟩ = some a1 ∧ w.cell? ⟨g, 2, none⟩ = some a2 ∧ ∀ k, w.frozen? ⟨g, k, none⟩ = false := by
  refine ⟨?_, ?_, ?_, fun k => frozen_row h k⟩
  all_goals rw [cell_of_row _ _ _ _ _ (0, 0) h]; rfl
theorem OwnC.other {B : Nat} {w w' : World} {v : Value} {l : List R.Cd} {row : Option Nat} (h : OwnC B w v l) (hg : w.grownBy w' row) (hr : ∀ g cur T fr, row = some g → w.heap[g]? = some (.cells cur T fr) → T ≠ 85) : OwnC B w' v l := by
  obtain ⟨cells, h1, h2, h3⟩ := h
  refine ⟨cells, h1.same fun g hg' => ?_, h2, h3⟩
  rcases h1.2 with ⟨rfl, _⟩ | ⟨g', off, cap, cur, rfl, hcur, _⟩
  · simp [Value.ownBlock] at hg'
  · simp [Value.ownBlock] at hg'
    subst hg'
    exact hg.block _ (Array.getElem?_eq_some_iff.1 hcur).1 (fun e => hr _ cur _ _ e.symm hcur rfl)

def set3 (w : World) (g : Nat) (a0 a1 a2 : Value) : World := ((w.setCell ⟨g, 0, none⟩ a0).setCell ⟨g, 1, none⟩ a1).setCell ⟨g, 2, none⟩ a2
theorem set3_row {w : World} {g : Nat} {T : TypeId} {b0 b1 b2 : Value} (a0 a1 a2 : Value) (h : w.heap[g]? = some (.cells #[b0, b1, b2] T (0, 0))) : (set3 w g a0 a1 a2).heap[g]? = some (.cells #[a0, a1, a2] T (0, 0)) :=
  heap_setCell_same _ g 2 _ _ a2 (heap_setCell_same _ g 1 _ _ a1 (heap_setCell_same w g 0 _ _ a0 h))
theorem set3_below {B : Nat} {W w : World} {g : Nat} (a0 a1 a2 : Value) (h : Below B W w) (hg : B ≤ g) : Below B W (set3 w g a0 a1 a2) :=
  ((h.setCell (p := ⟨g, 0, none⟩) hg _).setCell (p := ⟨g, 1, none⟩) hg _).setCell (p := ⟨g, 2, none⟩) hg _
theorem set3_grown (w : World) (g : Nat) (a0 a1 a2 : Value) : w.grownBy (set3 w g a0 a1 a2) (some g) := by
  refine ⟨rfl, rfl, rfl, by simp [set3], fun k hk hn => ?_⟩
  have : k ≠ g := fun e => hn (by rw [e])
  unfold set3
  rw [heap_setCell_other _ _ _ _ this, heap_setCell_other _ _ _ _ this, heap_setCell_other _ _ _ _ this]
theorem OwnRl.set3 {B g : Nat} {w : World} {v1 v2 v3 b0 b1 b2 : Value} {r : R.Rl} (h : OwnRl B w v1 v2 v3 r) (a0 a1 a2 : Value) (hr : w.heap[g]? = some (.cells #[b0, b1, b2] 25 (0, 0))) : OwnRl B (set3 w g a0 a1 a2) v1 v2 v3 r := by
  have hg := set3_grown w g a0 a1 a2
  have key : ∀ g' cur T fr, some g = some g' → w.heap[g']? = some (.cells cur T fr) → T = 25 := fun g' cur T fr e hc => by
    injection e with e
    subst e
    rw [hr] at hc
    injection hc with hc
    injection hc with _ hc _
    exact hc.symm
  exact ⟨h.ol.other hg fun g' cur T fr e hc => by rw [key g' cur T fr e hc]; exact ⟨by decide, by decide⟩, h.or_.other hg fun g' cur T fr e hc => by rw [key g' cur T fr e hc]; exact ⟨by decide, by decide⟩, h.op.other hg fun g' cur T fr e hc => by rw [key g' cur T fr e hc]; decide⟩

namespace R
/-- a rule with its sides exchanged -/
def flip (r : Rl) : Rl := ⟨r.right, r.left, r.pre⟩
def turn (r : Rl) : Rl × Bool × Int := if rvalid r ≠ 0 then (⟨[], [], []⟩, false, rvalid r) else if rvalid (flip r) ≠ 0 then (⟨[], [], []⟩, false, 0) else (flip r, true, 0)
end R

def TurnPost (W : World) (r : R.Rl) (e : Ending) (W' : World) : Prop :=
  ∃ v1 v2 v3, e = .returned (.tuple #[.agg #[v1, v2, v3], .bool (R.turn r).2.1, .int .i64 (R.turn r).2.2]) ∧ OwnRl W.heap.size W' v1 v2 v3 (R.turn r).1 ∧ Below W.heap.size W W'

theorem results_rl {fn : Func} {c t u : Tmp} (h : fn.results = #[.cell c 25, .tmp t, .tmp u]) (tmps : Array Value) (w : World) (g : Nat) (a0 a1 a2 : Value) (hc : tmps.getD c undef = .pointer (some ⟨g, 0, none⟩)) (hr : w.heap[g]? = some (.cells #[a0, a1, a2] 25 (0, 0))) :
    (results fn tmps).run Tryd.prog w = .ok (.tuple #[.agg #[a0, a1, a2], tmps.getD t undef, tmps.getD u undef]) w := by
  obtain ⟨c0, c1, c2, _⟩ := rl_cells hr
  have hz : Tryd.prog.cellsOf 25 = 3 := by kernel_rfl
  simp only [Array.getD_eq_getD_getElem?] at hc
  simp [results, h, hc, go_sem, c0, c1, c2]

set_option maxRecDepth 100000 in
set_option maxHeartbeats 4000000 in
theorem gTurn_any {r : R.Rl} {nl cl nr cr np cp : Nat} {AL AR AP : Option Addr} {W : World} (hR : RlAt W r nl nr np AL AR AP) :
    Calls Tryd.prog 17 #[.agg #[.slice AL nl cl, .slice AR nr cr, .slice AP np cp]] W (TurnPost W r) := by
  obtain ⟨W1, hW1⟩ : ∃ W1, W1 = (W.alloc (.cells #[.slice AL nl cl, .slice AR nr cr, .slice AP np cp] 25)).alloc (.cells #[.slice none 0 0, .slice none 0 0, .slice none 0 0] 25) := ⟨_, rfl⟩
  have hb1 : Below W.heap.size W W1 := by rw [hW1]; exact ((Below.refl _ _).alloc (Nat.le_refl _) _).alloc (by simp) _
  have hrow : W1.heap[W.heap.size]? = some (.cells #[.slice AL nl cl, .slice AR nr cr, .slice AP np cp] 25 (0, 0)) := by rw [hW1]; exact row_alloc (heap_alloc_new W _) _
  have hrow2 : W1.heap[W.heap.size + 1]? = some (.cells #[.slice none 0 0, .slice none 0 0, .slice none 0 0] 25 (0, 0)) := by rw [hW1]; exact new_two W _ _
  have Hrow := Lib.hid (fun (X : World) (h : Below W1.heap.size W1 X) => (h.block _ (Array.getElem?_eq_some_iff.1 hrow).1).trans hrow)
  have Hrow2 := Lib.hid (fun (X : World) (h : Below W1.heap.size W1 X) => (h.block _ (Array.getElem?_eq_some_iff.1 hrow2).1).trans hrow2)
  have Hsz := Lib.hid (show W1.heap.size = W.heap.size + 2 from by rw [hW1]; simp)
  have Hb1 := Lib.hid hb1
  have HR1 := Lib.hid (hR.below hb1)
  have Hval := Lib.hid (gValidate_any r nl cl nr cr np cp AL AR AP W1 HR1.out.sl HR1.out.sr HR1.out.sp HR1.out.fl HR1.out.fr)
  have HW1 := Lib.hid hW1
  obtain ⟨c0, c1, c2, _⟩ := rl_cells hrow
  rw [hW1] at c0 c1 c2
  obtain ⟨e, he⟩ : ∃ e, R.rvalid r = e := ⟨_, rfl⟩
  rw [he] at Hval
  have He := Lib.hid he
  clear hR hb1 hW1 hrow hrow2 he
  by_cases h0 : e = 0
  rotate_left
  · have q : (e != 0) = true := by simpa using h0
    have Hr := Lib.hid (show R.turn r = (⟨[], [], []⟩, false, e) from by unfold R.turn; rw [He.out, if_pos h0])
    clear h0
    go_enter Tryd.func17, Tryd.ntmps17
    go_wp2_with fail
    rw [← HW1.out]
    (with_reducible refine Hval.out.mono ?_)
    rintro e w2 ⟨rfl, hb2⟩
    have Hb2 := Lib.hid hb2
    have hrg := Hrow2.out _ hb2
    have HRg := Lib.hid hrg
    obtain ⟨z0, z1, z2, zf⟩ := rl_cells hrg
    have zf0 := zf 0
    have zf1 := zf 1
    have zf2 := zf 2
    clear hb2 zf hrg c0 c1 c2
    go_wp2
    (try simp only [Exit.inBlock, Exit.then])
    refine bodyPost_ret (results_rl rfl _ _ (W.heap.size + 1) _ _ _ rfl (set3_row _ _ _ HRg.out)) rfl ?_
    unfold TurnPost
    rw [Hr.out]
    refine ⟨_, _, _, rfl, OwnRl.nil_ _ _, Hb1.out.trans (set3_below _ _ _ (Hb2.out.mono ?_) ?_)⟩
    · exact Hb1.out.size
    · omega
  subst h0
  have q : ((0 : Int) != 0) = false := rfl
  have hrok := R.rok_of He.out
  have Hrok := Lib.hid hrok
  go_enter Tryd.func17, Tryd.ntmps17
  go_wp2_with fail
  rw [← HW1.out]
  (with_reducible refine Hval.out.mono ?_)
  rintro e W2 ⟨rfl, hb2⟩
  have Hb2 := Lib.hid hb2
  clear hb2 hrok c0 c1 c2
  have HlL := Lib.hid HR1.out.sl.len
  have HlR := Lib.hid HR1.out.sr.len
  have HlP := Lib.hid HR1.out.sp.len
  have HC1 := Lib.hid (show ∀ X, Below W2.heap.size W2 X → Calls Tryd.prog 42 #[.slice AR nr cr] X fun e X' => ∃ v, e = .returned v ∧ OwnR (NdF W2.heap.size) W2.heap.size X' v r.right ∧ Below X.heap.size X X' from fun X hX => (gcopied_any (ct := cr) (HR1.out.sr.below monoNd (Hb2.out.trans (hX.mono Hb2.out.size))) (by have := Hrok.out.rlen; have := HlR.out; omega) (fun x hx => by
    obtain ⟨k, hk⟩ := List.mem_iff_getElem?.1 hx
    have := R.pnode_small (Hrok.out.rp k x hk); omega)).mono fun e X' ⟨v, h1, h2, h3⟩ => ⟨v, h1, h2.weak hX.size, h3⟩)
  have HC2 := Lib.hid (show ∀ X, Below W2.heap.size W2 X → Calls Tryd.prog 42 #[.slice AL nl cl] X fun e X' => ∃ v, e = .returned v ∧ OwnR (NdF W2.heap.size) W2.heap.size X' v r.left ∧ Below X.heap.size X X' from fun X hX => (gcopied_any (ct := cl) (HR1.out.sl.below monoNd (Hb2.out.trans (hX.mono Hb2.out.size))) (by have := Hrok.out.llen; have := HlL.out; omega) (fun x hx => by
    obtain ⟨k, hk⟩ := List.mem_iff_getElem?.1 hx
    have := R.pnode_small (Hrok.out.lp k x hk); omega)).mono fun e X' ⟨v, h1, h2, h3⟩ => ⟨v, h1, h2.weak hX.size, h3⟩)
  have HC3 := Lib.hid (show ∀ X, Below W2.heap.size W2 X → Calls Tryd.prog 49 #[.slice AP np cp] X fun e X' => ∃ v, e = .returned v ∧ OwnC W2.heap.size X' v r.pre ∧ Below X.heap.size X X' from fun X hX => (cloneC_sl (c := cp) (HR1.out.sp.below monoCd (Hb2.out.trans (hX.mono Hb2.out.size))) (by have := Hrok.out.plen; have := HlP.out; omega)).mono fun e X' ⟨v, h1, h2, h3⟩ => ⟨v, h1, h2.weak hX.size, h3⟩)
  have HS := Lib.hid (show ∀ Y, Below W2.heap.size W2 Y → Y.cell? ⟨W.heap.size, 0, none⟩ = some (.slice AL nl cl) ∧ Y.cell? ⟨W.heap.size, 1, none⟩ = some (.slice AR nr cr) ∧ Y.cell? ⟨W.heap.size, 2, none⟩ = some (.slice AP np cp) from fun Y hY => by
    obtain ⟨h0, h1, h2, _⟩ := rl_cells (Hrow.out _ (Hb2.out.trans (hY.mono Hb2.out.size)))
    exact ⟨h0, h1, h2⟩)
  have Hb0 := Lib.hid (show Below W2.heap.size W2 W2.drew from (Below.refl _ _).drew)
  have Hbr := Lib.hid (Below.refl W2.heap.size W2)
  go_upto_region 4 with (fail)
  go_cut [6] (fun s6 wx => ∃ (gb : Nat) (v1 v2 v3 : Value), s6 = .pointer (some ⟨gb, 0, none⟩) ∧ Hid (W2.heap.size ≤ gb) ∧ Hid (Below W2.heap.size W2 wx) ∧ Hid (wx.heap[gb]? = some (.cells #[v1, v2, v3] 25 (0, 0))) ∧ Hid (OwnRl W2.heap.size wx v1 v2 v3 (R.flip r)))
  case first =>
    refine wp_region_held_drew (S := fun Y => Y.cell? ⟨W.heap.size, 0, none⟩ = some (.slice AL nl cl) ∧ Y.cell? ⟨W.heap.size, 1, none⟩ = some (.slice AR nr cr) ∧ Y.cell? ⟨W.heap.size, 2, none⟩ = some (.slice AP np cp)) (by kernel_rfl) (HS.out W2.drew Hb0.out) (fun hHeld => ?_)
    refine wpAnyH_take (i := 0) (oi := _) (v := ?_) rfl (by kernel_rfl) (by kernel_rfl) (by kernel_rfl) (fun _ _ _ h => h) (Or.inl ⟨by rfl, fun Y hY => ?_⟩) hHeld ?_
    rotate_left
    · (go_simp) <;> with_reducible rfl
    try simp only [Act.put, List.setIfInBounds_toArray, List.set_cons_zero, List.set_cons_succ, List.getElem_toArray, List.getElem_cons_succ, List.getElem_cons_zero]
    refine wpAnyH_take (i := 1) (oi := _) (v := ?_) rfl (by kernel_rfl) (by kernel_rfl) (by kernel_rfl) (fun _ _ _ h => h) (Or.inl ⟨by rfl, fun Y hY => ?_⟩) hHeld ?_
    rotate_left
    · obtain ⟨y0, y1, y2⟩ := hY
      (go_simp) <;> with_reducible rfl
    try simp only [Act.put, List.setIfInBounds_toArray, List.set_cons_zero, List.set_cons_succ, List.getElem_toArray, List.getElem_cons_succ, List.getElem_cons_zero]
    refine wpAnyH_take (i := 3) (oi := _) (v := ?_) rfl (by kernel_rfl) (by kernel_rfl) (by kernel_rfl) (fun _ _ _ h => h) (Or.inl ⟨by rfl, fun Y hY => ?_⟩) hHeld ?_
    rotate_left
    · (go_simp) <;> with_reducible rfl
    try simp only [Act.put, List.setIfInBounds_toArray, List.set_cons_zero, List.set_cons_succ, List.getElem_toArray, List.getElem_cons_succ, List.getElem_cons_zero]
    refine wpAnyH_take (i := 4) (oi := _) (v := ?_) rfl (by kernel_rfl) (by kernel_rfl) (by kernel_rfl) (fun _ _ _ h => h) (Or.inl ⟨by rfl, fun Y hY => ?_⟩) hHeld ?_
    rotate_left
    · obtain ⟨y0, y1, y2⟩ := hY
      (go_simp) <;> with_reducible rfl
    try simp only [Act.put, List.setIfInBounds_toArray, List.set_cons_zero, List.set_cons_succ, List.getElem_toArray, List.getElem_cons_succ, List.getElem_cons_zero]
    refine wpAnyH_take (i := 6) (oi := _) (v := ?_) rfl (by kernel_rfl) (by kernel_rfl) (by kernel_rfl) (fun _ _ _ h => h) (Or.inl ⟨by rfl, fun Y hY => ?_⟩) hHeld ?_
    rotate_left
    · (go_simp) <;> with_reducible rfl
    try simp only [Act.put, List.setIfInBounds_toArray, List.set_cons_zero, List.set_cons_succ, List.getElem_toArray, List.getElem_cons_succ, List.getElem_cons_zero]
    refine wpAnyH_take (i := 7) (oi := _) (v := ?_) rfl (by kernel_rfl) (by kernel_rfl) (by kernel_rfl) (fun _ _ _ h => h) (Or.inl ⟨by rfl, fun Y hY => ?_⟩) hHeld ?_
    rotate_left
    · obtain ⟨y0, y1, y2⟩ := hY
      (go_simp) <;> with_reducible rfl
    try simp only [Act.put, List.setIfInBounds_toArray, List.set_cons_zero, List.set_cons_succ, List.getElem_toArray, List.getElem_cons_succ, List.getElem_cons_zero]
    refine wpAnyH_ready (rs := [2, 10]) (by kernel_rfl) (by simp) ?_
    refine AllReadyH.cons (o := _) rfl (fun KK hKK => ?_) (AllReadyH.cons (o := _) rfl (fun KK hKK => ?_) AllReadyH.nil)
    · clear hHeld
      go_simp
      (with_reducible refine (HC1.out _ Hb0.out).mono ?_)
      rintro e x1 ⟨v1, rfl, hown, hb'⟩
      obtain ⟨A1, k1, rfl⟩ := hown.form
      have Hb1 := Lib.hid (Hb0.out.trans (hb'.mono Hb0.out.size))
      have HO1 := Lib.hid hown
      clear hown hb'
      refine hKK.out _ _ (HS.out _ Hb1.out) (fun hHeld => ?_)
      clear hKK KK
      try simp only [Act.put, List.setIfInBounds_toArray, List.set_cons_zero, List.set_cons_succ, List.getElem_toArray, List.getElem_cons_succ, List.getElem_cons_zero]
      refine wpAnyH_ready (rs := [5, 10]) (by kernel_rfl) (by simp) ?_
      refine AllReadyH.cons (o := _) rfl (fun KK hKK => ?_) (AllReadyH.cons (o := _) rfl (fun KK hKK => ?_) AllReadyH.nil)
      · clear hHeld
        go_simp
        (with_reducible refine (HC2.out _ Hb1.out).mono ?_)
        rintro e x2 ⟨v2, rfl, hown, hb'⟩
        obtain ⟨A2, k2, rfl⟩ := hown.form
        have Hb2 := Lib.hid (Hb1.out.trans (hb'.mono Hb1.out.size))
        have HO2 := Lib.hid hown
        replace HO1 := Lib.hid (HO1.out.below (ndF_rel _) hb')
        clear hown hb'
        refine hKK.out _ _ (HS.out _ Hb2.out) (fun hHeld => ?_)
        clear hKK KK
        try simp only [Act.put, List.setIfInBounds_toArray, List.set_cons_zero, List.set_cons_succ, List.getElem_toArray, List.getElem_cons_succ, List.getElem_cons_zero]
        refine wpAnyH_ready (rs := [8, 10]) (by kernel_rfl) (by simp) ?_
        refine AllReadyH.cons (o := _) rfl (fun KK hKK => ?_) (AllReadyH.cons (o := _) rfl (fun KK hKK => ?_) AllReadyH.nil)
        · clear hHeld
          go_simp
          (with_reducible refine (HC3.out _ Hb2.out).mono ?_)
          rintro e x3 ⟨v3, rfl, hown, hb'⟩
          obtain ⟨A3, k3, rfl⟩ := hown.form
          have Hb3 := Lib.hid (Hb2.out.trans (hb'.mono Hb2.out.size))
          have HO3 := Lib.hid hown
          replace HO1 := Lib.hid (HO1.out.below (ndF_rel _) hb')
          replace HO2 := Lib.hid (HO2.out.below (ndF_rel _) hb')
          clear hown hb'
          refine hKK.out _ _ (HS.out _ Hb3.out) (fun hHeld => ?_)
          clear hKK KK
          try simp only [Act.put, List.setIfInBounds_toArray, List.set_cons_zero, List.set_cons_succ, List.getElem_toArray, List.getElem_cons_succ, List.getElem_cons_zero]
          refine wpAnyH_take (i := 9) (oi := _) (v := ?_) rfl (by kernel_rfl) (by kernel_rfl) (by kernel_rfl) (fun _ _ _ h => h) (Or.inl ⟨by rfl, fun Y hY => ?_⟩) hHeld ?_
          rotate_left
          · (go_simp) <;> with_reducible rfl
          try simp only [Act.put, List.setIfInBounds_toArray, List.set_cons_zero, List.set_cons_succ, List.getElem_toArray, List.getElem_cons_succ, List.getElem_cons_zero]
          refine wpAnyH_ready (rs := [10]) (by kernel_rfl) (by simp) ?_
          refine AllReadyH.cons (o := _) rfl (fun KK hKK => ?_) AllReadyH.nil
          clear hHeld
          go_simp
          obtain ⟨xa, hxa⟩ : ∃ xa, xa = (x3.alloc (.cells #[.slice none 0 0, .slice none 0 0, .slice none 0 0] 25)) := ⟨_, rfl⟩
          rw [← hxa]
          have hba : Below (x3).heap.size (x3) xa := by rw [hxa]; exact ((Below.refl _ _).alloc (Nat.le_refl _) _)
          have Hba := Lib.hid (Hb3.out.trans (hba.mono Hb3.out.size))
          have Hrowa := Lib.hid (show xa.heap[(x3).heap.size]? = some (.cells #[.slice none 0 0, .slice none 0 0, .slice none 0 0] 25 (0, 0)) from by rw [hxa]; exact heap_alloc_new _ _)
          replace HO1 := Lib.hid (HO1.out.below (ndF_rel _) hba)
          replace HO2 := Lib.hid (HO2.out.below (ndF_rel _) hba)
          replace HO3 := Lib.hid (HO3.out.below hba)
          obtain ⟨gb, hgb⟩ : ∃ gb, gb = (x3).heap.size := ⟨_, rfl⟩
          have Hgb := Lib.hid (show W2.heap.size ≤ gb from by rw [hgb]; exact Hb3.out.size)
          rw [← hgb] at Hrowa ⊢
          clear hba hxa hgb
          refine hKK.out _ _ (HS.out _ Hba.out) (fun hHeld => ?_)
          clear hKK KK
          try simp only [Act.put, List.setIfInBounds_toArray, List.set_cons_zero, List.set_cons_succ, List.getElem_toArray, List.getElem_cons_succ, List.getElem_cons_zero]
          have hrg := Hrowa.out
          obtain ⟨z0, z1, z2, zf⟩ := rl_cells hrg
          have zf0 := zf 0
          have zf1 := zf 1
          have zf2 := zf 2
          clear zf hrg
          refine wpAnyH_ready (rs := [11]) (by kernel_rfl) (by simp) ?_
          refine AllReadyH.cons (o := _) rfl (fun KK hKK => ?_) AllReadyH.nil
          clear hHeld
          go_simp
          refine hKK.out _ _ (HS.out _ (set3_below _ _ _ Hba.out Hgb.out)) (fun hHeld => ?_)
          clear hKK KK
          try simp only [Act.put, List.setIfInBounds_toArray, List.set_cons_zero, List.set_cons_succ, List.getElem_toArray, List.getElem_cons_succ, List.getElem_cons_zero]
          refine wpAnyH_done (by kernel_rfl) ?_ _
          go_wp2_with fail
          go_meet
          exact ⟨gb, _, _, _, rfl, Lib.hid Hgb.out, Lib.hid (set3_below _ _ _ Hba.out Hgb.out), Lib.hid (set3_row _ _ _ Hrowa.out), Lib.hid (OwnRl.set3 (r := R.flip r) ⟨HO1.out, HO2.out, HO3.out⟩ _ _ _ Hrowa.out)⟩
        · clear hHeld
          go_simp
          obtain ⟨xa, hxa⟩ : ∃ xa, xa = (x2.alloc (.cells #[.slice none 0 0, .slice none 0 0, .slice none 0 0] 25)) := ⟨_, rfl⟩
          rw [← hxa]
          have hba : Below (x2).heap.size (x2) xa := by rw [hxa]; exact ((Below.refl _ _).alloc (Nat.le_refl _) _)
          have Hba := Lib.hid (Hb2.out.trans (hba.mono Hb2.out.size))
          have Hrowa := Lib.hid (show xa.heap[(x2).heap.size]? = some (.cells #[.slice none 0 0, .slice none 0 0, .slice none 0 0] 25 (0, 0)) from by rw [hxa]; exact heap_alloc_new _ _)
          replace HO1 := Lib.hid (HO1.out.below (ndF_rel _) hba)
          replace HO2 := Lib.hid (HO2.out.below (ndF_rel _) hba)
          obtain ⟨gb, hgb⟩ : ∃ gb, gb = (x2).heap.size := ⟨_, rfl⟩
          have Hgb := Lib.hid (show W2.heap.size ≤ gb from by rw [hgb]; exact Hb2.out.size)
          rw [← hgb] at Hrowa ⊢
          clear hba hxa hgb
          refine hKK.out _ _ (HS.out _ Hba.out) (fun hHeld => ?_)
          clear hKK KK
          try simp only [Act.put, List.setIfInBounds_toArray, List.set_cons_zero, List.set_cons_succ, List.getElem_toArray, List.getElem_cons_succ, List.getElem_cons_zero]
          refine wpAnyH_ready (rs := [8]) (by kernel_rfl) (by simp) ?_
          refine AllReadyH.cons (o := _) rfl (fun KK hKK => ?_) AllReadyH.nil
          clear hHeld
          go_simp
          (with_reducible refine (HC3.out _ Hba.out).mono ?_)
          rintro e x3 ⟨v3, rfl, hown, hb'⟩
          obtain ⟨A3, k3, rfl⟩ := hown.form
          have Hb3 := Lib.hid (Hba.out.trans (hb'.mono Hba.out.size))
          have HO3 := Lib.hid hown
          have Hrow3 := Lib.hid ((hb'.block _ (Array.getElem?_eq_some_iff.1 Hrowa.out).1).trans Hrowa.out)
          replace HO1 := Lib.hid (HO1.out.below (ndF_rel _) hb')
          replace HO2 := Lib.hid (HO2.out.below (ndF_rel _) hb')
          clear hown hb'
          refine hKK.out _ _ (HS.out _ Hb3.out) (fun hHeld => ?_)
          clear hKK KK
          try simp only [Act.put, List.setIfInBounds_toArray, List.set_cons_zero, List.set_cons_succ, List.getElem_toArray, List.getElem_cons_succ, List.getElem_cons_zero]
          refine wpAnyH_take (i := 9) (oi := _) (v := ?_) rfl (by kernel_rfl) (by kernel_rfl) (by kernel_rfl) (fun _ _ _ h => h) (Or.inl ⟨by rfl, fun Y hY => ?_⟩) hHeld ?_
          rotate_left
          · (go_simp) <;> with_reducible rfl
          try simp only [Act.put, List.setIfInBounds_toArray, List.set_cons_zero, List.set_cons_succ, List.getElem_toArray, List.getElem_cons_succ, List.getElem_cons_zero]
          have hrg := Hrow3.out
          obtain ⟨z0, z1, z2, zf⟩ := rl_cells hrg
          have zf0 := zf 0
          have zf1 := zf 1
          have zf2 := zf 2
          clear zf hrg
          refine wpAnyH_ready (rs := [11]) (by kernel_rfl) (by simp) ?_
          refine AllReadyH.cons (o := _) rfl (fun KK hKK => ?_) AllReadyH.nil
          clear hHeld
          go_simp
          refine hKK.out _ _ (HS.out _ (set3_below _ _ _ Hb3.out Hgb.out)) (fun hHeld => ?_)
          clear hKK KK
          try simp only [Act.put, List.setIfInBounds_toArray, List.set_cons_zero, List.set_cons_succ, List.getElem_toArray, List.getElem_cons_succ, List.getElem_cons_zero]
          refine wpAnyH_done (by kernel_rfl) ?_ _
          go_wp2_with fail
          go_meet
          exact ⟨gb, _, _, _, rfl, Lib.hid Hgb.out, Lib.hid (set3_below _ _ _ Hb3.out Hgb.out), Lib.hid (set3_row _ _ _ Hrow3.out), Lib.hid (OwnRl.set3 (r := R.flip r) ⟨HO1.out, HO2.out, HO3.out⟩ _ _ _ Hrow3.out)⟩
      · clear hHeld
        go_simp
        obtain ⟨xa, hxa⟩ : ∃ xa, xa = (x1.alloc (.cells #[.slice none 0 0, .slice none 0 0, .slice none 0 0] 25)) := ⟨_, rfl⟩
        rw [← hxa]
        have hba : Below (x1).heap.size (x1) xa := by rw [hxa]; exact ((Below.refl _ _).alloc (Nat.le_refl _) _)
        have Hba := Lib.hid (Hb1.out.trans (hba.mono Hb1.out.size))
        have Hrowa := Lib.hid (show xa.heap[(x1).heap.size]? = some (.cells #[.slice none 0 0, .slice none 0 0, .slice none 0 0] 25 (0, 0)) from by rw [hxa]; exact heap_alloc_new _ _)
        replace HO1 := Lib.hid (HO1.out.below (ndF_rel _) hba)
        obtain ⟨gb, hgb⟩ : ∃ gb, gb = (x1).heap.size := ⟨_, rfl⟩
        have Hgb := Lib.hid (show W2.heap.size ≤ gb from by rw [hgb]; exact Hb1.out.size)
        rw [← hgb] at Hrowa ⊢
        clear hba hxa hgb
        refine hKK.out _ _ (HS.out _ Hba.out) (fun hHeld => ?_)
        clear hKK KK
        try simp only [Act.put, List.setIfInBounds_toArray, List.set_cons_zero, List.set_cons_succ, List.getElem_toArray, List.getElem_cons_succ, List.getElem_cons_zero]
        refine wpAnyH_ready (rs := [5]) (by kernel_rfl) (by simp) ?_
        refine AllReadyH.cons (o := _) rfl (fun KK hKK => ?_) AllReadyH.nil
        clear hHeld
        go_simp
        (with_reducible refine (HC2.out _ Hba.out).mono ?_)
        rintro e x2 ⟨v2, rfl, hown, hb'⟩
        obtain ⟨A2, k2, rfl⟩ := hown.form
        have Hb2 := Lib.hid (Hba.out.trans (hb'.mono Hba.out.size))
        have HO2 := Lib.hid hown
        have Hrow2 := Lib.hid ((hb'.block _ (Array.getElem?_eq_some_iff.1 Hrowa.out).1).trans Hrowa.out)
        replace HO1 := Lib.hid (HO1.out.below (ndF_rel _) hb')
        clear hown hb'
        refine hKK.out _ _ (HS.out _ Hb2.out) (fun hHeld => ?_)
        clear hKK KK
        try simp only [Act.put, List.setIfInBounds_toArray, List.set_cons_zero, List.set_cons_succ, List.getElem_toArray, List.getElem_cons_succ, List.getElem_cons_zero]
        refine wpAnyH_ready (rs := [8]) (by kernel_rfl) (by simp) ?_
        refine AllReadyH.cons (o := _) rfl (fun KK hKK => ?_) AllReadyH.nil
        clear hHeld
        go_simp
        (with_reducible refine (HC3.out _ Hb2.out).mono ?_)
        rintro e x3 ⟨v3, rfl, hown, hb'⟩
        obtain ⟨A3, k3, rfl⟩ := hown.form
        have Hb3 := Lib.hid (Hb2.out.trans (hb'.mono Hb2.out.size))
        have HO3 := Lib.hid hown
        have Hrow3 := Lib.hid ((hb'.block _ (Array.getElem?_eq_some_iff.1 Hrow2.out).1).trans Hrow2.out)
        replace HO1 := Lib.hid (HO1.out.below (ndF_rel _) hb')
        replace HO2 := Lib.hid (HO2.out.below (ndF_rel _) hb')
        clear hown hb'
        refine hKK.out _ _ (HS.out _ Hb3.out) (fun hHeld => ?_)
        clear hKK KK
        try simp only [Act.put, List.setIfInBounds_toArray, List.set_cons_zero, List.set_cons_succ, List.getElem_toArray, List.getElem_cons_succ, List.getElem_cons_zero]
        refine wpAnyH_take (i := 9) (oi := _) (v := ?_) rfl (by kernel_rfl) (by kernel_rfl) (by kernel_rfl) (fun _ _ _ h => h) (Or.inl ⟨by rfl, fun Y hY => ?_⟩) hHeld ?_
        rotate_left
        · (go_simp) <;> with_reducible rfl
        try simp only [Act.put, List.setIfInBounds_toArray, List.set_cons_zero, List.set_cons_succ, List.getElem_toArray, List.getElem_cons_succ, List.getElem_cons_zero]
        have hrg := Hrow3.out
        obtain ⟨z0, z1, z2, zf⟩ := rl_cells hrg
        have zf0 := zf 0
        have zf1 := zf 1
        have zf2 := zf 2
        clear zf hrg
        refine wpAnyH_ready (rs := [11]) (by kernel_rfl) (by simp) ?_
        refine AllReadyH.cons (o := _) rfl (fun KK hKK => ?_) AllReadyH.nil
        clear hHeld
        go_simp
        refine hKK.out _ _ (HS.out _ (set3_below _ _ _ Hb3.out Hgb.out)) (fun hHeld => ?_)
        clear hKK KK
        try simp only [Act.put, List.setIfInBounds_toArray, List.set_cons_zero, List.set_cons_succ, List.getElem_toArray, List.getElem_cons_succ, List.getElem_cons_zero]
        refine wpAnyH_done (by kernel_rfl) ?_ _
        go_wp2_with fail
        go_meet
        exact ⟨gb, _, _, _, rfl, Lib.hid Hgb.out, Lib.hid (set3_below _ _ _ Hb3.out Hgb.out), Lib.hid (set3_row _ _ _ Hrow3.out), Lib.hid (OwnRl.set3 (r := R.flip r) ⟨HO1.out, HO2.out, HO3.out⟩ _ _ _ Hrow3.out)⟩
    · clear hHeld
      go_simp
      obtain ⟨xa, hxa⟩ : ∃ xa, xa = (W2.alloc (.cells #[.slice none 0 0, .slice none 0 0, .slice none 0 0] 25)).drew := ⟨_, rfl⟩
      rw [← hxa]
      have hba : Below (W2).heap.size (W2) xa := by rw [hxa]; exact ((Below.refl _ _).alloc (Nat.le_refl _) _).drew
      have Hba := Lib.hid (Hbr.out.trans (hba.mono Hbr.out.size))
      have Hrowa := Lib.hid (show xa.heap[(W2).heap.size]? = some (.cells #[.slice none 0 0, .slice none 0 0, .slice none 0 0] 25 (0, 0)) from by rw [hxa]; exact heap_alloc_new _ _)
      obtain ⟨gb, hgb⟩ : ∃ gb, gb = (W2).heap.size := ⟨_, rfl⟩
      have Hgb := Lib.hid (show W2.heap.size ≤ gb from by rw [hgb]; exact Hbr.out.size)
      rw [← hgb] at Hrowa ⊢
      clear hba hxa hgb
      refine hKK.out _ _ (HS.out _ Hba.out) (fun hHeld => ?_)
      clear hKK KK
      try simp only [Act.put, List.setIfInBounds_toArray, List.set_cons_zero, List.set_cons_succ, List.getElem_toArray, List.getElem_cons_succ, List.getElem_cons_zero]
      refine wpAnyH_ready (rs := [2]) (by kernel_rfl) (by simp) ?_
      refine AllReadyH.cons (o := _) rfl (fun KK hKK => ?_) AllReadyH.nil
      clear hHeld
      go_simp
      (with_reducible refine (HC1.out _ Hba.out).mono ?_)
      rintro e x1 ⟨v1, rfl, hown, hb'⟩
      obtain ⟨A1, k1, rfl⟩ := hown.form
      have Hb1 := Lib.hid (Hba.out.trans (hb'.mono Hba.out.size))
      have HO1 := Lib.hid hown
      have Hrow1 := Lib.hid ((hb'.block _ (Array.getElem?_eq_some_iff.1 Hrowa.out).1).trans Hrowa.out)
      clear hown hb'
      refine hKK.out _ _ (HS.out _ Hb1.out) (fun hHeld => ?_)
      clear hKK KK
      try simp only [Act.put, List.setIfInBounds_toArray, List.set_cons_zero, List.set_cons_succ, List.getElem_toArray, List.getElem_cons_succ, List.getElem_cons_zero]
      refine wpAnyH_ready (rs := [5]) (by kernel_rfl) (by simp) ?_
      refine AllReadyH.cons (o := _) rfl (fun KK hKK => ?_) AllReadyH.nil
      clear hHeld
      go_simp
      (with_reducible refine (HC2.out _ Hb1.out).mono ?_)
      rintro e x2 ⟨v2, rfl, hown, hb'⟩
      obtain ⟨A2, k2, rfl⟩ := hown.form
      have Hb2 := Lib.hid (Hb1.out.trans (hb'.mono Hb1.out.size))
      have HO2 := Lib.hid hown
      have Hrow2 := Lib.hid ((hb'.block _ (Array.getElem?_eq_some_iff.1 Hrow1.out).1).trans Hrow1.out)
      replace HO1 := Lib.hid (HO1.out.below (ndF_rel _) hb')
      clear hown hb'
      refine hKK.out _ _ (HS.out _ Hb2.out) (fun hHeld => ?_)
      clear hKK KK
      try simp only [Act.put, List.setIfInBounds_toArray, List.set_cons_zero, List.set_cons_succ, List.getElem_toArray, List.getElem_cons_succ, List.getElem_cons_zero]
      refine wpAnyH_ready (rs := [8]) (by kernel_rfl) (by simp) ?_
      refine AllReadyH.cons (o := _) rfl (fun KK hKK => ?_) AllReadyH.nil
      clear hHeld
      go_simp
      (with_reducible refine (HC3.out _ Hb2.out).mono ?_)
      rintro e x3 ⟨v3, rfl, hown, hb'⟩
      obtain ⟨A3, k3, rfl⟩ := hown.form
      have Hb3 := Lib.hid (Hb2.out.trans (hb'.mono Hb2.out.size))
      have HO3 := Lib.hid hown
      have Hrow3 := Lib.hid ((hb'.block _ (Array.getElem?_eq_some_iff.1 Hrow2.out).1).trans Hrow2.out)
      replace HO1 := Lib.hid (HO1.out.below (ndF_rel _) hb')
      replace HO2 := Lib.hid (HO2.out.below (ndF_rel _) hb')
      clear hown hb'
      refine hKK.out _ _ (HS.out _ Hb3.out) (fun hHeld => ?_)
      clear hKK KK
      try simp only [Act.put, List.setIfInBounds_toArray, List.set_cons_zero, List.set_cons_succ, List.getElem_toArray, List.getElem_cons_succ, List.getElem_cons_zero]
      refine wpAnyH_take (i := 9) (oi := _) (v := ?_) rfl (by kernel_rfl) (by kernel_rfl) (by kernel_rfl) (fun _ _ _ h => h) (Or.inl ⟨by rfl, fun Y hY => ?_⟩) hHeld ?_
      rotate_left
      · (go_simp) <;> with_reducible rfl
      try simp only [Act.put, List.setIfInBounds_toArray, List.set_cons_zero, List.set_cons_succ, List.getElem_toArray, List.getElem_cons_succ, List.getElem_cons_zero]
      have hrg := Hrow3.out
      obtain ⟨z0, z1, z2, zf⟩ := rl_cells hrg
      have zf0 := zf 0
      have zf1 := zf 1
      have zf2 := zf 2
      clear zf hrg
      refine wpAnyH_ready (rs := [11]) (by kernel_rfl) (by simp) ?_
      refine AllReadyH.cons (o := _) rfl (fun KK hKK => ?_) AllReadyH.nil
      clear hHeld
      go_simp
      refine hKK.out _ _ (HS.out _ (set3_below _ _ _ Hb3.out Hgb.out)) (fun hHeld => ?_)
      clear hKK KK
      try simp only [Act.put, List.setIfInBounds_toArray, List.set_cons_zero, List.set_cons_succ, List.getElem_toArray, List.getElem_cons_succ, List.getElem_cons_zero]
      refine wpAnyH_done (by kernel_rfl) ?_ _
      go_wp2_with fail
      go_meet
      exact ⟨gb, _, _, _, rfl, Lib.hid Hgb.out, Lib.hid (set3_below _ _ _ Hb3.out Hgb.out), Lib.hid (set3_row _ _ _ Hrow3.out), Lib.hid (OwnRl.set3 (r := R.flip r) ⟨HO1.out, HO2.out, HO3.out⟩ _ _ _ Hrow3.out)⟩
  case rest =>
  obtain ⟨gb, v1, v2, v3, rfl, Hgb, Hb3, HRg, HO⟩ := hcut
  obtain ⟨W3, hW3⟩ : ∃ W3, W3 = wc := ⟨_, rfl⟩
  rw [← hW3] at Hb3 HRg HO ⊢
  clear hW3
  obtain ⟨A1, k1, rfl⟩ := HO.out.ol.form
  obtain ⟨A2, k2, rfl⟩ := HO.out.or_.form
  obtain ⟨A3, k3, rfl⟩ := HO.out.op.form
  obtain ⟨z0, z1, z2, _⟩ := rl_cells HRg.out
  have Hval2 := Lib.hid (gValidate_any (R.flip r) _ k1 _ k2 _ k3 A1 A2 A3 W3 (HO.out.ol.stAt (ndF_rel _) rfl) (HO.out.or_.stAt (ndF_rel _) rfl) (HO.out.op.stAt rfl) HR1.out.fr HR1.out.fl)
  obtain ⟨e2, he2⟩ : ∃ e2, R.rvalid (R.flip r) = e2 := ⟨_, rfl⟩
  rw [he2] at Hval2
  have He2 := Lib.hid he2
  clear he2
  by_cases h2 : e2 = 0
  · have q2 : (e2 != 0) = false := by simpa using h2
    have Hr := Lib.hid (show R.turn r = (R.flip r, true, 0) from by unfold R.turn; rw [He.out, if_neg (by simp), He2.out, if_neg (by simpa using h2)])
    clear h2
    go_wp2_with fail
    (with_reducible refine Hval2.out.mono ?_)
    rintro e w4 ⟨rfl, hb4⟩
    have HO4 := Lib.hid (HO.out.below hb4)
    have hrg4 := (hb4.block _ (Array.getElem?_eq_some_iff.1 HRg.out).1).trans HRg.out
    obtain ⟨y0, y1, y2, _⟩ := rl_cells hrg4
    have Hb4 := Lib.hid (Hb2.out.trans ((Hb3.out.trans (hb4.mono Hb3.out.size)).mono Hb2.out.size))
    have hr4 := Hrow2.out _ Hb4.out
    have HR4 := Lib.hid hr4
    obtain ⟨x0, x1, x2, xf⟩ := rl_cells hr4
    have xf0 := xf 0
    have xf1 := xf 1
    have xf2 := xf 2
    clear hb4 hrg4 hr4 xf z0 z1 z2
    go_wp2
    (try simp only [Exit.inBlock, Exit.then])
    refine bodyPost_ret (results_rl rfl _ _ (W.heap.size + 1) _ _ _ rfl (set3_row _ _ _ HR4.out)) rfl ?_
    unfold TurnPost
    rw [Hr.out]
    refine ⟨_, _, _, rfl, ?_, Hb1.out.trans (set3_below _ _ _ (Hb4.out.mono Hb1.out.size) (by omega))⟩
    exact (OwnRl.set3 HO4.out _ _ _ HR4.out).weak (Nat.le_trans Hb1.out.size Hb2.out.size)
  · have q2 : (e2 != 0) = true := by simpa using h2
    have Hr := Lib.hid (show R.turn r = (⟨[], [], []⟩, false, 0) from by unfold R.turn; rw [He.out, if_neg (by simp), He2.out, if_pos h2])
    clear h2
    go_wp2_with fail
    (with_reducible refine Hval2.out.mono ?_)
    rintro e w4 ⟨rfl, hb4⟩
    have Hb4 := Lib.hid (Hb2.out.trans ((Hb3.out.trans (hb4.mono Hb3.out.size)).mono Hb2.out.size))
    have hr4 := Hrow2.out _ Hb4.out
    have HR4 := Lib.hid hr4
    obtain ⟨x0, x1, x2, xf⟩ := rl_cells hr4
    have xf0 := xf 0
    have xf1 := xf 1
    have xf2 := xf 2
    clear hb4 hr4 xf z0 z1 z2
    go_wp2
    (try simp only [Exit.inBlock, Exit.then])
    refine bodyPost_ret (results_rl rfl _ _ (W.heap.size + 1) _ _ _ rfl (set3_row _ _ _ HR4.out)) rfl ?_
    unfold TurnPost
    rw [Hr.out]
    exact ⟨_, _, _, rfl, OwnRl.nil_ _ _, Hb1.out.trans (set3_below _ _ _ (Hb4.out.mono Hb1.out.size) (by omega))⟩
end Go.Proofs.YtmebpgggfppmhaaDoor
