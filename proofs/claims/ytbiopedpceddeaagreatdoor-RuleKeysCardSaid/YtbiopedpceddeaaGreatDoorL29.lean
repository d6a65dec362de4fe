/- Rules: Rewrite (the program). -/
import Derived.Test.YtbiopedpceddeaaGreatDoorL27
import Derived.Test.YtbiopedpceddeaaGreatDoorL21
import Derived.Test.YtbiopedpceddeaaGreatDoorL28
set_option linter.unusedVariables false
set_option linter.unusedSimpArgs false
namespace Go.Proofs.YtbiopedpceddeaaGreatDoor
open Go.RowKit Go.MapKept Go.Maps Go.WideMaps
set_option linter.unusedVariables false
set_option linter.unusedSimpArgs false

/-- a rule that came in -/
structure RlAt (W : World) (r : R.Rl) (nl nr np : Nat) (AL AR AP : Option Addr) : Prop where
  sl : StAt 5 NdR W AL nl r.left
  sr : StAt 5 NdR W AR nr r.right
  sp : StAt 3 CdR W AP np r.pre
  fl : R.flr r.left
  fr : R.flr r.right
theorem RlAt.below {W W' : World} {r : R.Rl} {nl nr np : Nat} {AL AR AP : Option Addr} (h : RlAt W r nl nr np AL AR AP) (hb : Below W.heap.size W W') : RlAt W' r nl nr np AL AR AP := ⟨h.sl.below monoNd hb, h.sr.below monoNd hb, h.sp.below monoCd hb, h.fl, h.fr⟩

set_option maxRecDepth 100000 in
theorem gmatched_any {r : R.Rl} {t : List T.Nd} {nl cl nr cr np cp nt ct : Nat} {AL AR AP At : Option Addr} {W : World} (hR : RlAt W r nl nr np AL AR AP) (hT : StAt 5 NdR W At nt t) (hf : R.flr t) :
    Calls Tryz.prog 89 #[.agg #[.slice AL nl cl, .slice AR nr cr, .slice AP np cp], .slice At nt ct] W fun e W' => e = .returned (.int .i64 (R.rerr r t)) ∧ Below W.heap.size W W' := by
  obtain ⟨W1, hW1⟩ : ∃ W1, W1 = W.alloc (.cells #[.slice AL nl cl, .slice AR nr cr, .slice AP np cp] 33) := ⟨_, rfl⟩
  have hb1 : Below W.heap.size W W1 := by rw [hW1]; exact (Below.refl _ _).alloc (Nat.le_refl _) _
  have Hb1 := Lib.hid hb1
  have hR1 := hR.below hb1
  have Hval := Lib.hid (gValidate_any r nl cl nr cr np cp AL AR AP W1 hR1.sl hR1.sr hR1.sp hR1.fl hR1.fr)
  have Hval2 := Lib.hid (fun W' (h : Below W.heap.size W W') => gValidateFlagged_any t nt ct At W' (hT.below monoNd h) hf)
  have HW1 := Lib.hid hW1
  obtain ⟨e, he⟩ : ∃ e, R.rvalid r = e := ⟨_, rfl⟩
  rw [he] at Hval
  clear hR hT hf hb1 hR1 hW1
  by_cases h0 : e = 0
  · have q : (e != 0) = false := by simpa using h0
    have Hr := Lib.hid (show R.rerr r t = R.fvalid t from by unfold R.rerr; rw [he, if_neg (by simpa using h0)])
    clear he h0
    go_enter Tryz.func89, Tryz.ntmps89
    go_wp2_with fail
    rw [← HW1.out]
    (with_reducible refine Hval.out.mono ?_)
    rintro e w2 ⟨rfl, hb2⟩
    have Hb2 := Lib.hid (Hb1.out.trans (hb2.mono Hb1.out.size))
    clear hb2
    go_wp2_with fail
    (with_reducible refine (Hval2.out _ Hb2.out).mono ?_)
    rintro e w3 ⟨rfl, hb3⟩
    have Hb3 := Lib.hid (Hb2.out.trans (hb3.mono Hb2.out.size))
    clear hb3
    go_wp2
    go_ret
    exact ⟨ret_int Hr.out.symm, Hb3.out⟩
  · have q : (e != 0) = true := by simpa using h0
    have Hr := Lib.hid (show R.rerr r t = e from by unfold R.rerr; rw [he, if_pos h0])
    clear he h0
    go_enter Tryz.func89, Tryz.ntmps89
    go_wp2_with fail
    rw [← HW1.out]
    (with_reducible refine Hval.out.mono ?_)
    rintro e w2 ⟨rfl, hb2⟩
    have Hb2 := Lib.hid (Hb1.out.trans (hb2.mono Hb1.out.size))
    clear hb2
    go_wp2
    go_ret
    exact ⟨ret_int Hr.out.symm, Hb2.out⟩

theorem R.rerr_ok {r : R.Rl} {t : List T.Nd} (h : R.rerr r t = 0) : R.ROk r ∧ R.TOk t := by
  unfold R.rerr at h
  split at h
  · rename_i h1; exact absurd h h1
  · rename_i h1
    exact ⟨R.rok_of (Decidable.byContradiction h1), R.tok_of h⟩

theorem R.rew_none {r : R.Rl} {t : List T.Nd} (h0 : R.rerr r t = 0) (h : R.mres r t = none) : R.rew r t = ([], false, 0) := by
  unfold R.rew
  rw [if_neg (by simpa using h0), h]
theorem R.rew_some {r : R.Rl} {t : List T.Nd} {s : R.St} (h0 : R.rerr r t = 0) (h : R.mres r t = some s) : R.rew r t = if 300 < (T.canon (R.rtree r t s)).length then ([], false, 3) else (T.canon (R.rtree r t s), true, 0) := by
  unfold R.rew
  rw [if_neg (by simpa using h0), h]

theorem NdF.weak {B B' : Nat} {w : World} {us : List Value} {x : T.Nd} (h : NdF B' w us x) (hb : B ≤ B') : NdF B w us x := by
  obtain ⟨A, c, h1, h2, h3, h4, h5⟩ := h
  exact ⟨A, c, h1, h2, h3, h4, fun g hg => Nat.le_trans hb (h5 g hg)⟩
theorem OwnR.weak {B B' : Nat} {w : World} {v : Value} {l : List T.Nd} (h : OwnR (NdF B') B' w v l) (hb : B ≤ B') : OwnR (NdF B) B w v l := by
  obtain ⟨cells, h1, h2, h3⟩ := h
  exact ⟨cells, h1, fun k x hx => (h2 k x hx).weak hb, fun g hg => Nat.le_trans hb (h3 g hg)⟩

def RewPost (W : World) (r : R.Rl) (t : List T.Nd) (e : Ending) (W' : World) : Prop :=
  ∃ v, e = .returned (.tuple #[v, .bool (R.rew r t).2.1, .int .i64 (R.rew r t).2.2]) ∧ OwnR (NdF W.heap.size) W.heap.size W' v (R.rew r t).1 ∧ Below W.heap.size W W'
theorem rewPost_none {W W' : World} {r : R.Rl} {t : List T.Nd} {e : Int} (h : R.rew r t = ([], false, e)) (hb : Below W.heap.size W W') : RewPost W r t (.returned (.tuple #[.slice none 0 0, .bool false, .int .i64 e])) W' := by
  unfold RewPost
  rw [h]
  exact ⟨_, rfl, OwnR.nil_ _ _ _, hb⟩

/-- the builder and the variable that names it, with a map of what was seen -/
theorem rw_start {mk : T.Nd → List T.Nd → List T.Nd × Int} {t : List T.Nd} {g : Nat} {W X : World} (hX : X = ((W.alloc (.cells #[.slice none 0 0, .map none] 148)).alloc (.cells #[.pointer (some ⟨W.heap.size, 0, none⟩)] 145)).alloc (.map #[] 0)) :
    FromSt [(W.heap.size + 1, .cells #[.pointer (some ⟨W.heap.size, 0, none⟩)] 145 (0, 0))] mk t g 0 W W.heap.size (W.heap.size + 2) X [] (fun i => i = W.heap.size) [] := by
  have hr : X.heap[W.heap.size]? = some (.cells #[.slice none 0 0, .map none] 148 (0, 0)) := by rw [hX]; exact row_alloc (row_alloc (heap_alloc_new W _) _) _
  have hr2 : X.heap[W.heap.size + 1]? = some (.cells #[.pointer (some ⟨W.heap.size, 0, none⟩)] 145 (0, 0)) := by rw [hX]; exact row_alloc (new_two W _ _) _
  have hs : X.heap.size = W.heap.size + 3 := by rw [hX]; simp
  have hm : MapAt Tryz.prog 3 ekI IntI X (W.heap.size + 2) [] := by
    have := MapAt.made (P := Tryz.prog) (kt := 3) (ek := ekI) (R := IntI) ((W.alloc (.cells #[.slice none 0 0, .map none] 148)).alloc (.cells #[.pointer (some ⟨W.heap.size, 0, none⟩)] 145))
    rw [← hX] at this
    simpa using this
  refine ⟨by rw [hX]; exact (((Below.refl _ _).alloc (Nat.le_refl _) _).alloc (by simp) _).alloc (by simp; omega) _, ⟨fun i hi => by subst hi; omega, rfl, fun x hx => by simp at hx, _, _, hr, OwnM.nil_ _ _, .inl ⟨rfl, rfl⟩⟩, by omega, by omega, hm, fun k n h => by simp [AL.get] at h, fun p hp => by simp at hp, List.nodup_nil, T.ord_nil, by simp, fun p hp => ?_⟩
  rw [List.mem_singleton] at hp
  subst hp
  exact ⟨by dsimp only; omega, by dsimp only; omega, hr2⟩

set_option maxRecDepth 100000 in
set_option maxHeartbeats 4000000 in
theorem gRewrite_any {r : R.Rl} {t : List T.Nd} {nl cl nr cr np cp nt ct : Nat} {AL AR AP At : Option Addr} {W : World} (hR : RlAt W r nl nr np AL AR AP) (hT : StAt 5 NdR W At nt t) (hf : R.flr t) (hTab : TabAt W) :
    Calls Tryz.prog 41 #[.agg #[.slice AL nl cl, .slice AR nr cr, .slice AP np cp], .slice At nt ct] W (RewPost W r t) := by
  obtain ⟨W1, hW1⟩ : ∃ W1, W1 = W.alloc (.cells #[.slice AL nl cl, .slice AR nr cr, .slice AP np cp] 33) := ⟨_, rfl⟩
  have hb1 : Below W.heap.size W W1 := by rw [hW1]; exact (Below.refl _ _).alloc (Nat.le_refl _) _
  have Hb1 := Lib.hid hb1
  have HR1 := Lib.hid (hR.below hb1)
  have HT1 := Lib.hid (hT.below monoNd hb1)
  have HTab := Lib.hid (hTab.below hb1)
  have Hval := Lib.hid (gmatched_any (cl := cl) (cr := cr) (cp := cp) (ct := ct) HR1.out HT1.out hf)
  have HW1 := Lib.hid hW1
  have hrow : W1.heap[W.heap.size]? = some (.cells #[.slice AL nl cl, .slice AR nr cr, .slice AP np cp] 33 (0, 0)) := by rw [hW1]; exact heap_alloc_new W _
  have Hrow := Lib.hid (fun (X : World) (h : Below W1.heap.size W1 X) => (h.block _ (Array.getElem?_eq_some_iff.1 hrow).1).trans hrow)
  have Hgr := Lib.hid (Array.getElem?_eq_some_iff.1 hrow).1
  have Him := Lib.hid (nd_imm HT1.out)
  have Him2 := Lib.hid (nd_imm HR1.out.sr)
  obtain ⟨e, he⟩ : ∃ e, R.rerr r t = e := ⟨_, rfl⟩
  rw [he] at Hval
  have He := Lib.hid he
  clear hR hT hf hb1 hW1 hrow hTab he
  by_cases h0 : e = 0
  rotate_left
  · have q : (e != 0) = true := by simpa using h0
    have Hr := Lib.hid (show R.rew r t = ([], false, e) from by unfold R.rew; rw [He.out, if_pos h0])
    clear h0
    go_enter Tryz.func41, Tryz.ntmps41
    go_wp2_with fail
    rw [← HW1.out]
    (with_reducible refine Hval.out.mono ?_)
    rintro e w2 ⟨rfl, hb2⟩
    have Hb2 := Lib.hid (Hb1.out.trans (hb2.mono Hb1.out.size))
    clear hb2
    go_wp2
    go_ret3
    exact rewPost_none Hr.out Hb2.out
  have q : (e != 0) = false := by simpa using h0
  subst h0
  obtain ⟨hrok, htok⟩ := R.rerr_ok He.out
  have Hrok := Lib.hid hrok
  have Htok := Lib.hid htok
  have hfp := T.root_rep (R.pnode_ord hrok.lp) hrok.lpos
  have hft := T.root_rep htok.ord htok.pos
  have Hfp := Lib.hid hfp
  have Hft := Lib.hid hft
  have Hmatch := Lib.hid (fun (X : World) (h : Below W1.heap.size W1 X) => gmatch_any (cl := cl) (nr := nr) (cr := cr) (cp := cp) (ct := ct) (AR := AR) hrok htok (HR1.out.sl.below monoNd h) (HR1.out.sp.below monoCd h) (HT1.out.below monoNd h) _ _ hfp hft)
  have HSok := Lib.hid (fun s (h : R.mres r t = some s) => R.sok hrok htok Him.out hfp hft h)
  obtain ⟨mr, hmr⟩ : ∃ mr, R.mres r t = mr := ⟨_, rfl⟩
  have Hmr := Lib.hid hmr
  have hmr' : R.mtch r R.cond t (T.root r.left) (T.root t) = mr := hmr
  obtain ⟨w, hw⟩ : ∃ w, R.mtw r t (T.root r.left) (T.root t) = w := ⟨_, rfl⟩
  have hw' : R.mw r t = w := hw
  have Hmw := Lib.hid hw'
  rw [hmr', hw] at Hmatch
  rw [hmr] at HSok
  rw [hw] at HSok
  clear hrok htok hfp hft hmr hmr' hw hw'
  cases mr with
  | none =>
    go_enter Tryz.func41, Tryz.ntmps41
    go_wp2_with fail
    rw [← HW1.out]
    (with_reducible refine Hval.out.mono ?_)
    rintro e w2 ⟨rfl, hb2⟩
    have Hb2 := Lib.hid hb2
    have hrow2 := Hrow.out _ Hb2.out
    have c0 : w2.cell? ⟨W.heap.size, 0, none⟩ = some (.slice AL nl cl) := by rw [cell_of_row _ _ _ _ _ (0, 0) hrow2]; rfl
    have c1 : w2.cell? ⟨W.heap.size, 1, none⟩ = some (.slice AR nr cr) := by rw [cell_of_row _ _ _ _ _ (0, 0) hrow2]; rfl
    have c2 : w2.cell? ⟨W.heap.size, 2, none⟩ = some (.slice AP np cp) := by rw [cell_of_row _ _ _ _ _ (0, 0) hrow2]; rfl
    clear hb2 hrow2
    go_wp2_with fail
    (with_reducible refine (Hmatch.out _ Hb2.out).mono ?_)
    rintro e w3 ⟨gb, rfl, hb3, _, _⟩
    have Hb3 := Lib.hid (Hb1.out.trans ((Hb2.out.trans (hb3.mono Hb2.out.size)).mono Hb1.out.size))
    rw [show (none : Option R.St).isSome = false from rfl]
    clear hb3 c0 c1 c2
    go_wp2
    go_ret3
    exact rewPost_none (R.rew_none He.out Hmr.out) (Hb3.out.alloc Hb3.out.size _)
  | some s =>
    have hsok := HSok.out s rfl
    have Hsok := Lib.hid hsok
    have hlR := HR1.out.sr.len
    obtain ⟨m, rfl⟩ : ∃ m, nr = m + 1 := ⟨nr - 1, by have := Hrok.out.rpos; omega⟩
    have Hm12 := Lib.hid (show m ≤ 11 from by have := Hrok.out.rlen; omega)
    have HlR := Lib.hid hlR
    have Hinl := Lib.hid (show (R.inst r.right w s.hs).length = m + 1 from by rw [R.inst_len]; exact hlR)
    have HF := Lib.hid (show R.rtree r t s = R.sub s.tr (T.root (R.inst r.right w s.hs)) from by unfold R.rtree; rw [Hmw.out])
    clear hsok hlR
    go_enter Tryz.func41, Tryz.ntmps41
    go_wp2_with fail
    rw [← HW1.out]
    (with_reducible refine Hval.out.mono ?_)
    rintro e w2 ⟨rfl, hb2⟩
    have Hb2 := Lib.hid hb2
    have hrow2 := Hrow.out _ Hb2.out
    have c0 : w2.cell? ⟨W.heap.size, 0, none⟩ = some (.slice AL nl cl) := by rw [cell_of_row _ _ _ _ _ (0, 0) hrow2]; rfl
    have c1 : w2.cell? ⟨W.heap.size, 1, none⟩ = some (.slice AR (m + 1) cr) := by rw [cell_of_row _ _ _ _ _ (0, 0) hrow2]; rfl
    have c2 : w2.cell? ⟨W.heap.size, 2, none⟩ = some (.slice AP np cp) := by rw [cell_of_row _ _ _ _ _ (0, 0) hrow2]; rfl
    clear hb2 hrow2
    go_wp2_with fail
    (with_reducible refine (Hmatch.out _ Hb2.out).mono ?_)
    rintro e w3 ⟨gb, rfl, hb3, _, hbd3⟩
    have Hb3 := Lib.hid (Hb2.out.trans (hb3.mono Hb2.out.size))
    have Hbd3 := Lib.hid (hbd3 s rfl)
    rw [show (some s : Option R.St).isSome = true from rfl]
    clear hb3 c0 c1 c2 hbd3
    obtain ⟨w4, hw4⟩ : ∃ w4, w4 = w3.alloc (.cells #[.pointer (some ⟨gb, 0, none⟩)] 136) := ⟨_, rfl⟩
    have hb34 : Below w3.heap.size w3 w4 := by rw [hw4]; exact (Below.refl _ _).alloc (Nat.le_refl _) _
    have Hb4 := Lib.hid (Hb3.out.trans (hb34.mono Hb3.out.size))
    have Hbd4 := Lib.hid (Hbd3.out.below hb34)
    have hrow4 : w4.heap[w3.heap.size]? = some (.cells #[.pointer (some ⟨gb, 0, none⟩)] 136 (0, 0)) := by rw [hw4]; exact heap_alloc_new w3 _
    have hx4 : w4.cell? ⟨w3.heap.size, 0, none⟩ = some (.pointer (some ⟨gb, 0, none⟩)) := by rw [cell_of_row _ _ _ _ _ (0, 0) hrow4]; rfl
    have HS := Lib.hid (show ∀ Y, Below w4.heap.size w4 Y → Y.cell? ⟨W.heap.size, 1, none⟩ = some (.slice AR (m + 1) cr) ∧ Y.cell? ⟨w3.heap.size, 0, none⟩ = some (.pointer (some ⟨gb, 0, none⟩)) ∧ Y.cell? ⟨gb, 0, none⟩ = some (.int .i64 w) from fun Y hY => by
      have hrow := Hrow.out _ (Hb4.out.trans (hY.mono Hb4.out.size))
      obtain ⟨v0, v1, z0, z1, f0, f1, hbr, _⟩ := Hbd4.out.below hY
      refine ⟨?_, ?_, (bd_cells hbr).1⟩
      · rw [cell_of_row _ _ _ _ _ (0, 0) hrow]; rfl
      · exact (hY.cell (p := ⟨w3.heap.size, 0, none⟩) (cell_below hx4)).trans hx4)
    have HSide := Lib.hid (show ∀ X, Below w4.heap.size w4 X → Calls Tryz.prog 91 #[.slice AR (m + 1) cr, .int .i64 w, .slice (some ⟨gb, 7, none⟩) 2 2] X fun e W' => ∃ v, e = .returned v ∧ OwnR (NdF X.heap.size) X.heap.size W' v (R.inst r.right w s.hs) ∧ Below X.heap.size X W' from fun X hX => by
      have hb1X := Hb4.out.trans (hX.mono Hb4.out.size)
      exact gside_any (HR1.out.sr.below monoNd hb1X) (Hbd4.out.below hX).hs Hsok.out.wd Hsok.out.hs Hrok.out.rp (by have := Hm12.out; omega) (HTab.out.below hb1X))
    have Hx4 := Lib.hid hx4
    have HW4 := Lib.hid hw4
    clear hw4 hb34 hrow4 hx4
    go_upto_region 7 with (fail)
    rw [← HW4.out]
    refine wp_region_held_drew (S := fun Y => Y.cell? ⟨W.heap.size, 1, none⟩ = some (.slice AR (m + 1) cr) ∧ Y.cell? ⟨w3.heap.size, 0, none⟩ = some (.pointer (some ⟨gb, 0, none⟩)) ∧ Y.cell? ⟨gb, 0, none⟩ = some (.int .i64 w)) (by kernel_rfl) (HS.out w4.drew (Below.refl _ _).drew) (fun hHeld => ?_)
    refine wpAnyH_take (i := 0) (oi := _) (v := ?_) rfl (by kernel_rfl) (by kernel_rfl) (by kernel_rfl) (fun _ _ _ h => h) (Or.inl ⟨by rfl, fun Y hY => ?_⟩) hHeld ?_
    rotate_left
    · (go_simp) <;> with_reducible rfl
    try simp only [Act.put, List.setIfInBounds_toArray, List.set_cons_zero, List.set_cons_succ, List.getElem_toArray, List.getElem_cons_succ, List.getElem_cons_zero]
    refine wpAnyH_take (i := 1) (oi := _) (v := ?_) rfl (by kernel_rfl) (by kernel_rfl) (by kernel_rfl) (fun _ _ _ h => h) (Or.inl ⟨by rfl, fun Y hY => ?_⟩) hHeld ?_
    rotate_left
    · obtain ⟨y0, y1, y2⟩ := hY
      (go_simp) <;> with_reducible rfl
    try simp only [Act.put, List.setIfInBounds_toArray, List.set_cons_zero, List.set_cons_succ, List.getElem_toArray, List.getElem_cons_succ, List.getElem_cons_zero]
    refine wpAnyH_take (i := 2) (oi := _) (v := ?_) rfl (by kernel_rfl) (by kernel_rfl) (by kernel_rfl) (fun _ _ _ h => h) (Or.inl ⟨by rfl, fun Y hY => ?_⟩) hHeld ?_
    rotate_left
    · obtain ⟨y0, y1, y2⟩ := hY
      (go_simp) <;> with_reducible rfl
    try simp only [Act.put, List.setIfInBounds_toArray, List.set_cons_zero, List.set_cons_succ, List.getElem_toArray, List.getElem_cons_succ, List.getElem_cons_zero]
    refine wpAnyH_take (i := 3) (oi := _) (v := ?_) rfl (by kernel_rfl) (by kernel_rfl) (by kernel_rfl) (fun _ _ _ h => h) (Or.inl ⟨by rfl, fun Y hY => ?_⟩) hHeld ?_
    rotate_left
    · (go_simp) <;> with_reducible rfl
    try simp only [Act.put, List.setIfInBounds_toArray, List.set_cons_zero, List.set_cons_succ, List.getElem_toArray, List.getElem_cons_succ, List.getElem_cons_zero]
    refine wpAnyH_take (i := 4) (oi := _) (v := ?_) rfl (by kernel_rfl) (by kernel_rfl) (by kernel_rfl) (fun _ _ _ h => h) (Or.inl ⟨by rfl, fun Y hY => ?_⟩) hHeld ?_
    rotate_left
    · (go_simp) <;> with_reducible rfl
    try simp only [Act.put, List.setIfInBounds_toArray, List.set_cons_zero, List.set_cons_succ, List.getElem_toArray, List.getElem_cons_succ, List.getElem_cons_zero]
    refine wpAnyH_take (i := 5) (oi := _) (v := ?_) rfl (by kernel_rfl) (by kernel_rfl) (by kernel_rfl) (fun _ _ _ h => h) (Or.inl ⟨by rfl, fun Y hY => ?_⟩) hHeld ?_
    rotate_left
    · obtain ⟨y0, y1, y2⟩ := hY
      (go_simp) <;> with_reducible rfl
    try simp only [Act.put, List.setIfInBounds_toArray, List.set_cons_zero, List.set_cons_succ, List.getElem_toArray, List.getElem_cons_succ, List.getElem_cons_zero]
    refine wpAnyH_take (i := 6) (oi := _) (v := ?_) rfl (by kernel_rfl) (by kernel_rfl) (by kernel_rfl) (fun _ _ _ h => h) (Or.inl ⟨by rfl, fun Y hY => ?_⟩) hHeld ?_
    rotate_left
    · obtain ⟨y0, y1, y2⟩ := hY
      (go_simp) <;> with_reducible rfl
    try simp only [Act.put, List.setIfInBounds_toArray, List.set_cons_zero, List.set_cons_succ, List.getElem_toArray, List.getElem_cons_succ, List.getElem_cons_zero]
    refine wpAnyH_take (i := 7) (oi := _) (v := ?_) rfl (by kernel_rfl) (by kernel_rfl) (by kernel_rfl) (fun _ _ _ h => h) (Or.inl ⟨by rfl, fun Y hY => ?_⟩) hHeld ?_
    rotate_left
    · (go_simp) <;> with_reducible rfl
    try simp only [Act.put, List.setIfInBounds_toArray, List.set_cons_zero, List.set_cons_succ, List.getElem_toArray, List.getElem_cons_succ, List.getElem_cons_zero]
    refine wpAnyH_take (i := 8) (oi := _) (v := ?_) rfl (by kernel_rfl) (by kernel_rfl) (by kernel_rfl) (fun _ _ _ h => h) (Or.inl ⟨by rfl, fun Y hY => ?_⟩) hHeld ?_
    rotate_left
    · (go_simp) <;> with_reducible rfl
    try simp only [Act.put, List.setIfInBounds_toArray, List.set_cons_zero, List.set_cons_succ, List.getElem_toArray, List.getElem_cons_succ, List.getElem_cons_zero]
    refine wpAnyH_take (i := 9) (oi := _) (v := ?_) rfl (by kernel_rfl) (by kernel_rfl) (by kernel_rfl) (fun _ _ _ h => h) (Or.inl ⟨by rfl, fun Y hY => ?_⟩) hHeld ?_
    rotate_left
    · (go_simp) <;> with_reducible rfl
    try simp only [Act.put, List.setIfInBounds_toArray, List.set_cons_zero, List.set_cons_succ, List.getElem_toArray, List.getElem_cons_succ, List.getElem_cons_zero]
    refine wpAnyH_ready (rs := [10]) (by kernel_rfl) (by simp) ?_
    refine AllReadyH.cons (o := _) rfl (fun KK hKK => ?_) AllReadyH.nil
    clear hHeld
    go_simp
    (with_reducible refine (HSide.out _ (Below.refl _ _).drew).mono ?_)
    rintro e w5 ⟨v5, rfl, hown5, hb5⟩
    have Hown5 := Lib.hid hown5
    have Hb45 := Lib.hid (show Below w4.heap.size w4 w5 from (Below.refl _ _).drew.trans hb5)
    clear hown5 hb5
    refine hKK.out _ _ (HS.out w5 Hb45.out) (fun hHeld => ?_)
    clear hKK KK
    try simp only [Act.put, List.setIfInBounds_toArray, List.set_cons_zero, List.set_cons_succ, List.getElem_toArray, List.getElem_cons_succ, List.getElem_cons_zero]
    refine wpAnyH_take (i := 11) (oi := _) (v := ?_) rfl (by kernel_rfl) (by kernel_rfl) (by kernel_rfl) (fun _ _ _ h => h) (Or.inl ⟨by rfl, fun Y hY => ?_⟩) hHeld ?_
    rotate_left
    · (go_simp) <;> with_reducible rfl
    try simp only [Act.put, List.setIfInBounds_toArray, List.set_cons_zero, List.set_cons_succ, List.getElem_toArray, List.getElem_cons_succ, List.getElem_cons_zero]
    refine wpAnyH_done (by kernel_rfl) ?_ _
    have Hb5 := Lib.hid (Hb4.out.trans (Hb45.out.mono Hb4.out.size))
    have Hbd5 := Lib.hid (Hbd4.out.below Hb45.out)
    have Hx5 := Lib.hid ((Hb45.out.cell (p := ⟨w3.heap.size, 0, none⟩) (cell_below Hx4.out)).trans Hx4.out)
    clear hHeld
    obtain ⟨A5, c5, rfl⟩ := Hown5.out.form
    rw [Hinl.out] at Hown5 ⊢
    have HT5 := Lib.hid (Hown5.out.stAt (ndF_rel _) Hinl.out)
    have HRw := Lib.hid (show RwSt w5 gb w3.heap.size w (.slice AL nl cl) (.slice At nt ct) s from ⟨Hbd5.out, Hx5.out, R.sok_tr Htok.out Hsok.out⟩)
    have em : (m : Int) + 1 - 1 = (m : Int) := by omega
    obtain ⟨X, hX⟩ : ∃ X, X = ((w5.alloc (.cells #[.slice none 0 0, .map none] 148)).alloc (.cells #[.pointer (some ⟨w5.heap.size, 0, none⟩)] 145)).alloc (.map #[] 0) := ⟨_, rfl⟩
    have Hone := Lib.hid (show ∀ i, T.One (s.tr i) from R.St.tr_one fun i f h => (Hsok.out.inT i f h).one)
    have hroot := T.root_rep (R.inst_ord (w := w) (hs := s.hs) (R.pnode_ord Hrok.out.rp)) (by rw [Hinl.out]; omega)
    rw [Hinl.out, show ((m + 1 : Nat) : Int) - 1 = (m : Int) by omega] at hroot
    have Hroot := Lib.hid hroot
    have hwb := B.isWd_iff.1 Hsok.out.wd
    have Hfrom := Lib.hid (gfrom_any (ct := c5) (D := RwD s) (g := 300) (base := 0) (lim := 800000) HT5.out (R.inst_twf (by omega) Hrok.out.rp) (fun y hy la ho => by
      obtain ⟨k, hk⟩ := List.mem_iff_getElem?.1 hy
      obtain ⟨z, hz, rfl⟩ := R.inst_at hk
      obtain ⟨h1, _, h3⟩ := R.inst1_var ho
      have hzm := List.mem_of_getElem? hz
      dsimp only
      rw [h3]
      exact ⟨Him2.out z hzm, R.pnode_imm (Hrok.out.rp k z hz) (.inl h1), Hsok.out.bound z hzm h1⟩) (made_rw (bb := w5.heap.size) (ob := w5.heap.size + 1) HRw.out) (T.mkS_ok Hone.out) (by have := Hm12.out; omega) (by omega) (by have := Hm12.out; omega) m (by omega) X (w5.heap.size + 2) [] _ [] (rw_start hX) _ hroot)
    have HX := Lib.hid hX
    have hmk := fun W => run_makeMap_any (P := Tryz.prog) Tryz.underlying150 W
    have hm11 : m ≤ 11 := Hm12.out
    clear hroot hX hwb
    go_wp2_with fail
    rw [← HX.out]
    (with_reducible refine Hfrom.out.mono ?_)
    rintro e w6 ⟨r1, M', l', rfl, hr, hst, hkp, hm1, hm2, _⟩
    have hcn := R.cnnG_S Hone.out (T.root (R.inst r.right w s.hs)) (R.inst_leafy Hrok.out.rp Hroot.out) []
    rw [hcn] at hr hst
    obtain ⟨F, hFF⟩ : ∃ F, R.sub s.tr (T.root (R.inst r.right w s.hs)) = F := ⟨_, rfl⟩
    rw [hFF] at hr hst
    have HF2 := Lib.hid (show R.rtree r t s = F from HF.out.trans hFF)
    have hsm := hst.small
    rw [Hinl.out] at hsm
    obtain ⟨v6, fm6, hrow6, hown6, _⟩ := hst.bu.cells
    obtain ⟨A6, c6, rfl⟩ := hown6.form
    have hT6 := hown6.stAt rfl
    have hrep6 : T.Rep (T.canon F) [r1] F := T.canon_again hr
    obtain ⟨hr0, hrl⟩ : 0 ≤ r1 ∧ r1.toNat < (T.canon F).length := by cases hrep6 with | cons h0 hx _ _ => exact ⟨h0, (List.getElem?_eq_some_iff.1 hx).1⟩
    obtain ⟨rn, rfl⟩ : ∃ rn : Nat, r1 = rn := ⟨r1.toNat, by omega⟩
    rw [Int.toNat_natCast] at hrl
    have htw6 : TWf (T.canon F) := ⟨T.canon_ord F, fun x hx => ⟨(hst.bu.wf x hx).op, (hst.bu.wf x hx).w, (hst.bu.wf x hx).fl⟩, fun x hx => (hst.bu.wf x hx).len⟩
    have hlen6 : (T.canon F).length ≤ 3600 := by have := Hm12.out; show (T.cnn F []).1.length ≤ 3600; omega
    have Hlen6 := Lib.hid hlen6
    have Hpart := Lib.hid (gpart_any (ct := c6) (show StAt 5 NdR w6 A6 (T.canon F).length (T.canon F) from hT6) htw6 (by omega) rn hrl F hrep6)
    have Htw6 := Lib.hid htw6
    have ob6 : w6.cell? ⟨w5.heap.size + 1, 0, none⟩ = some (.pointer (some ⟨w5.heap.size, 0, none⟩)) := by
      have := (hst.kept _ (List.mem_singleton.2 rfl)).2.2
      rw [cell_of_row _ _ _ _ _ (0, 0) this]; rfl
    have bb6 : w6.cell? ⟨w5.heap.size, 0, none⟩ = some (.slice A6 (T.canon F).length c6) := by rw [cell_of_row _ _ _ _ _ (0, 0) hrow6]; rfl
    have Hb6 := Lib.hid (show Below w5.heap.size w5 w6 from hst.bel)
    obtain ⟨nf, hnf⟩ : ∃ nf, (T.canon F).length = nf := ⟨_, rfl⟩
    rw [hnf] at Hpart bb6
    have Hnf := Lib.hid hnf
    clear hr hst hkp hm1 hm2 hcn hFF hsm hrow6 hown6 hT6 hrep6 hr0 hrl htw6 hlen6 hnf em hmk
    go_wp2_with fail
    (with_reducible refine Hpart.out.mono ?_)
    rintro e w7 ⟨A7, c7, rfl, hst7, hb7, _⟩
    have hlen7 := Hlen6.out
    rw [Hnf.out] at hlen7
    have Hst7 := Lib.hid hst7
    have Hb7 := Lib.hid (Hb1.out.trans (((Hb5.out.trans (Hb6.out.mono Hb5.out.size)).trans (hb7.mono (Nat.le_trans Hb5.out.size Hb6.out.size))).mono Hb1.out.size))
    clear hst7 hb7 ob6 bb6
    by_cases hbig : 300 < nf
    · have qb : decide (300 < (nf : Int)) = true := by simp; omega
      have Hr := Lib.hid (show R.rew r t = ([], false, 3) from by rw [R.rew_some He.out Hmr.out, HF2.out, Hnf.out, if_pos hbig])
      clear hbig
      go_wp2
      go_ret3
      exact rewPost_none Hr.out Hb7.out
    · have qb : decide (300 < (nf : Int)) = false := by simp; omega
      have Hr := Lib.hid (show R.rew r t = (T.canon F, true, 0) from by rw [R.rew_some He.out Hmr.out, HF2.out, Hnf.out, if_neg hbig])
      have Hcop := Lib.hid (gcopied_any (ct := c7) Hst7.out (by omega) (fun x hx => by have := Htw6.out.len x hx; omega))
      clear hbig
      go_wp2_with fail
      (with_reducible refine Hcop.out.mono ?_)
      rintro e w8 ⟨v8, rfl, hown8, hb8⟩
      have Hown8 := Lib.hid (hown8.weak Hb7.out.size)
      have Hb8 := Lib.hid (Hb7.out.trans (hb8.mono Hb7.out.size))
      clear hown8 hb8
      go_wp2
      go_ret3
      unfold RewPost
      rw [Hr.out]
      exact ⟨v8, rfl, Hown8.out, Hb8.out⟩
end Go.Proofs.YtbiopedpceddeaaGreatDoor
