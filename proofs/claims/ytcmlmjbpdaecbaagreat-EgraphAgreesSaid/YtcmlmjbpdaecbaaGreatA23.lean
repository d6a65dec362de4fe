/- Merged: QJ3, QJ4, QPlainEF. -/
import Derived.Test.YtcmlmjbpdaecbaaGreatA22
import Derived.Test.YtcmlmjbpdaecbaaGreatA04
import Derived.Test.YtcmlmjbpdaecbaaGreatA01
set_option linter.unusedVariables false
set_option linter.unusedSimpArgs false
section
namespace Go.Proofs.YtcmlmjbpdaecbaaGreat
open Go.RowKit Go.MapKept Go.Maps Go.WideMaps
set_option linter.unusedVariables false
set_option linter.unusedSimpArgs false

theorem look_rk {w : World} {kb : Nat} {kn : List (E.Opn × Nat)} (h : MapAt Tryz.prog 95 opV NatE w kb kn) {k : E.Opn} (hk : OWf k) (w' : World) (hw : w'.heap[kb]? = w.heap[kb]?) :
    (Instr.lookup 90 (.map (some kb)) (opV k) true).run Tryz.prog w' = .ok (.tuple #[.int .i64 (lookN (AL.get kn k)), .bool (AL.get kn k).isSome]) w' := by
  obtain ⟨kl, hkl⟩ := keyOf_rk hk
  have hz : ∀ w, (zeroValue 3).run Tryz.prog w = .ok (.int .i64 0) w := fun w => by go_simp
  obtain ⟨u, _, h2, h3⟩ := (h.keep (R' := NatE) hw (fun _ _ _ h => h)).lookup rkKeyed opV_inj Tryz.underlying90 (hz w') hkl
  rw [h2]
  rcases h3 with ⟨h3, h4⟩ | ⟨a, h3, h4⟩
  · rw [h3, h4]; rfl
  · rw [h3, show u = _ from h4]; rfl

/-- behind put -/
structure RPutPost (W : World) (b : Nat) (s : E.Gr) (x : E.Opn) (v1 v2 v4 : Value) (kb : Nat) (e : Ending) (W' : World) (v1' v2' : Value) : Prop where
  ret : e = .returned (.tuple #[.int .i64 ((s.put x).2.1 : Int), .bool (s.put x).2.2])
  gr : RGC W' b (s.put x).1.p (s.put x).1.wd (s.put x).1.es (s.put x).1.nm (s.put x).1.vr v1' v2' v4 kb
  kp : Kpm (MR b v1 v2 v4 kb) W W'
  new : ∀ i, MR b v1' v2' v4 kb i → MR b v1 v2 v4 kb i ∨ W.heap.size ≤ i

/-- the operation lies in its box; what is not the graph's stays -/
structure RPMid (W : World) (M : Nat → Prop) (q : E.Opn) (w : World) : Prop where
  kp : Kpm M W w
  row : w.heap[W.heap.size]? = some (.cells (opC q) 95 (0, 0))
theorem RPMid.app {W : World} {M : Nat → Prop} {q : E.Opn} {w w' : World} {o : Obj} {r : Option Nat} (h : RPMid W M q w) (hgr : (w.alloc o).grownBy w' r) (hr : ∀ i, r = some i → M i) (hM : ∀ i, M i → i < W.heap.size) {b : Nat} (hb : M b) (i : Nat) (u : Value) : RPMid W M q (w'.setCell ⟨b, i, none⟩ u) := by
  have hbW := hM b hb
  refine ⟨(((h.kp.alloc o).trans (Kpm.grown hgr hr) (fun _ _ h => h)).setCell (p := ⟨b, i, none⟩) (fun _ => hb) u), ?_⟩
  rw [Below.heap_setCell _ _ _ _ (by show W.heap.size ≠ b; omega)]
  exact grown_row hgr (row_alloc h.row o) (fun e => by have := hM _ (hr _ e); omega)
theorem RPMid.upd {W : World} {M : Nat → Prop} {q : E.Opn} {w w' : World} {k : Nat} (h : RPMid W M q w) (hgr : w.grownBy w' (some k)) (hk : M k) (hM : ∀ i, M i → i < W.heap.size) : RPMid W M q w' :=
  ⟨h.kp.trans (Kpm.grown hgr (fun i e => by cases e; exact hk)) (fun _ _ h => h), grown_row hgr h.row (fun e => by have := hM _ hk; injection e with e; omega)⟩
set_option maxRecDepth 100000 in
set_option maxHeartbeats 4000000 in
theorem rput_any {W : World} {b : Nat} {s : E.Gr} {v1 v2 v4 : Value} {kb : Nat} (h : RGC W b s.p s.wd s.es s.nm s.vr v1 v2 v4 kb) (ok : s.Ok) {x : E.Opn} (hx : E.Ar s.p.length x) (hw : OWf x) (hn : s.p.length ≤ 900000) (he : s.es.length ≤ 900000) :
    Calls Tryz.prog 71 #[.pointer (some ⟨b, 0, none⟩), opV x] W fun e W' => ∃ v1' v2', RPutPost W b s x v1 v2 v4 kb e W' v1' v2' := by
  obtain ⟨W2, hW2⟩ : ∃ W2, W2 = W.alloc (.cells #[.int .i64 x.op, .int .i64 x.w, .int .u32 x.imm, .int .i64 x.a0, .int .i64 x.a1, .int .i64 x.a2] 95) := ⟨_, rfl⟩
  have hb2 : Below W.heap.size W W2 := by rw [hW2]; exact (Below.refl _ _).alloc (Nat.le_refl _) _
  have hr0 : W2.heap[W.heap.size]? = some (.cells (opC x) 95 (0, 0)) := by rw [hW2]; exact heap_alloc_new W _
  have h2 := h.below hb2
  have hcan := h2.canon ok.down hx
  unfold opV at hcan
  have Hcan := Lib.hid hcan
  have H := Lib.hid h
  have Ok := Lib.hid ok
  have Hx := Lib.hid hx
  have Hw := Lib.hid hw
  have Hb2 := Lib.hid hb2
  have Hr0 := Lib.hid hr0
  obtain ⟨y0, y1, y2, y3, y4, y5⟩ := op6_cells hr0
  have Hbs := Lib.hid (h.lt b (.inl rfl))
  clear h ok hx hw hb2 hr0 h2 hcan
  unfold opV
  go_enter Tryz.func71, Tryz.ntmps71
  go_wp2_with fail
  rw [← hW2]
  go_wp2_with fail
  clear hW2 y0 y1 y2 y3 y4 y5
  (with_reducible refine Hcan.out.mono ?_)
  rintro e w3 ⟨rfl, hb3⟩
  have hr3 := row_step (Lib.hid hb3) Hr0.out
  unfold opC at hr3
  have z0 := frozen_row hr3 0
  have z1 := frozen_row hr3 1
  have z2 := frozen_row hr3 2
  have z3 := frozen_row hr3 3
  have z4 := frozen_row hr3 4
  have z5 := frozen_row hr3 5
  obtain ⟨y0, y1, y2, y3, y4, y5⟩ := op6_cells hr3
  have Hr3 := Lib.hid hr3
  have Hb3 := Lib.hid (Hb2.out.trans (hb3.mono Hb2.out.size))
  obtain ⟨q, hq⟩ : ∃ q, E.can s.p x = q := ⟨_, rfl⟩
  rw [hq]
  have Hq := Lib.hid hq
  have Hqw := Lib.hid (show OWf q from by rw [← hq]; exact owf_can Hw.out Hx.out (by omega))
  clear hr3 hb3 hq
  go_upto_region 2 with (fail)
  clear y0 y1 y2 y3 y4 y5 z0 z1 z2 z3 z4 z5
  obtain ⟨X, hX⟩ : ∃ X, X = (((((w3.setCell ⟨W.heap.size, 0, none⟩ (.int .i64 q.op)).setCell ⟨W.heap.size, 1, none⟩ (.int .i64 q.w)).setCell ⟨W.heap.size, 2, none⟩ (.int .u32 q.imm)).setCell ⟨W.heap.size, 3, none⟩ (.int .i64 q.a0)).setCell ⟨W.heap.size, 4, none⟩ (.int .i64 q.a1)).setCell ⟨W.heap.size, 5, none⟩ (.int .i64 q.a2) := ⟨_, rfl⟩
  rw [← hX]
  have hrX : X.heap[W.heap.size]? = some (.cells (opC q) 95 (0, 0)) := by rw [hX]; exact set6_row Hr3.out _ _ _ _ _ _
  have HbX := Lib.hid (show Below W.heap.size W X from by rw [hX]; exact set6_below Hb3.out (Nat.le_refl _) _ _ _ _ _ _)
  have hgX := H.out.below HbX.out
  have HgX := Lib.hid hgX
  have HrX := Lib.hid hrX
  clear hX Hr3 Hb3 Hr0 Hb2
  unfold opC at hrX
  obtain ⟨y0, y1, y2, y3, y4, y5⟩ := op6_cells hrX
  obtain ⟨_, _, k3, _⟩ := hgX.cells
  have hlk := fun w' => look_rk hgX.km Hqw.out w'
  clear hrX hgX
  obtain ⟨ov⟩ := ov_ex X
  have k3o := ov.cell k3
  have z0 := ov.cell y0
  have z1 := ov.cell y1
  have z2 := ov.cell y2
  have z3 := ov.cell y3
  have z4 := ov.cell y4
  have z5 := ov.cell y5
  have hlo := fun u => hlk (ov.f u) ((ov.below u).block kb HgX.out.km.lt)
  obtain ⟨o, ho⟩ : ∃ o, AL.get s.es q = o := ⟨_, rfl⟩
  rw [ho] at hlo
  have Ho := Lib.hid ho
  unfold opV at hlo
  clear hlk k3 y0 y1 y2 y3 y4 y5 ho
  refine wp_region_ovq ov (by kernel_rfl) (by kernel_rfl) ?_
  repeat (go_big_quiet_step (fail))
  refine wpQuiet_nil ?_
  rintro _ ⟨u, rfl⟩
  have Hbo := Lib.hid (ov.below u)
  clear hlo k3o z0 z1 z2 z3 z4 z5
  generalize ov.f u = w4 at *
  have Hr4 := Lib.hid (row_step Hbo HrX.out)
  have Hg4 := Lib.hid (HgX.out.below Hbo.out)
  have Hb4 := Lib.hid (HbX.out.trans (Hbo.out.mono HbX.out.size))
  clear Hbo HrX HgX HbX
  cases o with
  | some c =>
    have hcl := Ok.out.inn _ (E.get_in Ho.out)
    have Hf := Lib.hid (Hg4.out.find Ok.out.down c hcl)
    have Hc := Lib.hid hcl
    clear hcl
    rw [show lookN (some c) = (c : Int) from rfl, show (some c).isSome = true from rfl]
    go_wp2_with fail
    (with_reducible refine Hf.out.mono ?_)
    rintro e w5 ⟨rfl, rfl⟩
    go_wp2
    refine bodyPost_ret (results_tmp2 rfl _ _ _) rfl ?_
    have hp := E.Gr.put_some (s := s) (x := x) (by rw [Hq.out]; exact Ho.out)
    refine ⟨v1, v2, ?_, ?_, Kpm.of_below Hb4.out _, fun i hi => .inl hi⟩
    · rw [hp]; rfl
    · rw [hp]; exact Hg4.out
  | none =>
    rw [show lookN none = (0 : Int) from rfl, show (none : Option Nat).isSome = false from rfl]
    obtain ⟨A1, c1, rfl⟩ := Hg4.out.o1.form
    obtain ⟨k0, _, _, _⟩ := Hg4.out.cells
    have Ho1 := Lib.hid Hg4.out.o1
    have hnW := Hg4.out.ne1
    have HnW := Lib.hid hnW
    clear hnW
    go_wp2_with (at_builtin; refine wpList_append_one' rfl (.tmp 33) (.tmp 35) 60 rfl 3 (.int .i64 0) 8 Tryz.underlying60 infoInt rfl _ s.p.length _ rfl Ho1.out (.int .i64 (s.p.length : Int)) rfl 3 w4.heap.size rfl rfl (by omega) (by omega) ?_; intro v1' w5 hown' hgr hat; obtain ⟨A1', c1', rfl⟩ := hown'.form; have Hown' := Lib.hid hown'; have Hgr := Lib.hid hgr; have Hat := Lib.hid hat; have kc := cell_of_row w5 b 0 _ _ (0, 0) (grown_row hgr (row_alloc Hg4.out.row _) HnW.out); have kf := frozen_row (grown_row hgr (row_alloc Hg4.out.row _) HnW.out) 0; simp only [List.getElem?_toArray, List.getElem?_cons_zero] at kc; clear hown' hgr hat)
    have Hg4a := Lib.hid (Hg4.out.below (w' := w4.alloc (.cells #[.int .i64 (s.p.length : Int)] 3)) ((Below.refl _ _).alloc (Nat.le_refl _) _))
    have Hat1 := Lib.hid (hat_ex (o := .cells #[.int .i64 (s.p.length : Int)] 3) Hat.out)
    have HM := Lib.hid (show ∀ i, MR b (.slice A1 s.p.length c1) v2 v4 kb i → i < W.heap.size from H.out.lt)
    have Hm4 := Lib.hid (show RPMid W (MR b (.slice A1 s.p.length c1) v2 v4 kb) q w4 from ⟨Kpm.of_below Hb4.out _, Hr4.out⟩)
    have Hm6 := Lib.hid (Hm4.out.app Hgr.out (fun i e => .inr (.inr (.inl e))) HM.out (.inl rfl) 0 (.slice A1' (s.p.length + 1) c1'))
    have Hg6 := Lib.hid (Hg4a.out.app1 Hown'.out Hgr.out Hat1.out)
    have Hw4 := Lib.hid (show W.heap.size ≤ (w4.alloc (.cells #[.int .i64 (s.p.length : Int)] 3)).heap.size from by have := Hb4.out.size; simp; omega)
    have Hn1 := Lib.hid (hat_new Hat1.out Hw4.out (M := MR b (.slice A1 s.p.length c1) v2 v4 kb) (fun i e => .inr (.inr (.inl e))))
    obtain ⟨w6, hw6⟩ : ∃ w6, w6 = w5.setCell ⟨b, 0, none⟩ (.slice A1' (s.p.length + 1) c1') := ⟨_, rfl⟩
    rw [← hw6] at Hm6 Hg6 ⊢
    clear hw6 Hown' Hgr Hat Hat1 Hg4a Hw4 kc kf k0 Hg4 Hr4 Hb4 HnW Ho1
    -- the width
    obtain ⟨A2, c2, rfl⟩ := Hg6.out.o2.form
    obtain ⟨M, hMM⟩ : ∃ M, M = MR b (.slice A1 s.p.length c1) (.slice A2 s.wd.length c2) v4 kb := ⟨_, rfl⟩
    have HMb := Lib.hid (show M b ∧ M kb ∧ (∀ i, (Value.slice A2 s.wd.length c2).ownBlock = some i → M i) ∧ (∀ i, v4.ownBlock = some i → M i) from by rw [hMM]; exact ⟨.inl rfl, .inr (.inl rfl), fun i e => .inr (.inr (.inr (.inl e))), fun i e => .inr (.inr (.inr (.inr e)))⟩)
    rw [← hMM] at HM Hm6 Hn1
    have HMM := Lib.hid hMM
    clear hMM
    have HsW := Lib.hid Hm6.out.kp.size
    have Hwd := Lib.hid (show s.wd.length + 1 ≤ 1000000000 from by have := Ok.out.wd; omega)
    go_cut [6] (fun s8 wx => ∃ v2', s8 = .int .i64 (s.p.length : Int) ∧ Hid (RPMid W M q wx) ∧ Hid (RGC wx b (s.p ++ [s.p.length]) (s.wd ++ [q.w]) s.es s.nm s.vr (.slice A1' (s.p.length + 1) c1') v2' v4 kb) ∧ Hid (∀ i, v2'.ownBlock = some i → M i ∨ W.heap.size ≤ i))
    case first =>
      have hr6 := Hm6.out.row
      unfold opC at hr6
      obtain ⟨_, y1, _, _, _, _⟩ := op6_cells hr6
      have y1' : (w6.alloc (.cells #[.int .i64 q.w] 3)).cell? ⟨W.heap.size, 1, none⟩ = some (.int .i64 q.w) := by rw [cell_of_row _ _ _ _ _ (0, 0) (row_alloc hr6 _)]; rfl
      obtain ⟨_, k1, _, _⟩ := Hg6.out.cells
      have k1' : (w6.alloc (.cells #[.int .i64 q.w] 3)).cell? ⟨b, 1, none⟩ = some (.slice A2 s.wd.length c2) := by rw [cell_of_row _ _ _ _ _ (0, 0) (row_alloc Hg6.out.row _)]; rfl
      have HW := Lib.hid (show Below w6.heap.size w6 ((w6.alloc (.cells #[.int .i64 q.w] 3)).drew) from ((Below.refl _ _).alloc (Nat.le_refl _) _).drew)
      have Hne2 := Lib.hid Hg6.out.ne2
      have Hrb := Lib.hid (show ((w6.alloc (.cells #[.int .i64 q.w] 3)).drew).heap[b]? = _ from row_alloc Hg6.out.row _)
      clear hr6
      go_region_law (first
        | (refine step_append_src _ rfl (.tmp 43) (.tmp 46) 60 rfl 3 (.int .i64 0) 1 8 Tryz.underlying60 infoInt rfl (by decide) (.slice A2 s.wd.length c2) s.wd.length _ rfl (Hg6.out.o2.same (fun g hg => HW.out.block g (Hg6.out.o2.lt g hg))) (some ⟨w6.heap.size, 0, none⟩) 1 1 [.int .i64 q.w] rfl rfl (src_new w6 [.int .i64 q.w] 3) (by simp; rfl) Hwd.out (by decide) ?_
           intro v' w7 hown7 hgr7 hat7
           obtain ⟨A7, c7, rfl⟩ := hown7.form
           have kc := cell_of_row w7 b 1 _ _ (0, 0) (grown_row hgr7 Hrb.out Hne2.out)
           have kfr := frozen_row (grown_row hgr7 Hrb.out Hne2.out) 1
           have Hown7 := Lib.hid hown7
           have Hgr7 := Lib.hid (undrew hgr7)
           have Hat7 := Lib.hid (hat_ex2 hat7)
           clear hown7 hgr7 hat7
           simp only [List.getElem?_toArray, List.getElem?_cons_zero, List.getElem?_cons_succ] at kc))
      all_goals
        go_wp2_with fail
        go_meet
        exact ⟨.slice A7 (s.wd.length + 1) c7, rfl, Lib.hid (Hm6.out.app Hgr7.out HMb.out.2.2.1 HM.out HMb.out.1 1 _), Lib.hid ((Hg6.out.below ((Below.refl _ _).alloc (Nat.le_refl _) _)).app2 Hown7.out Hgr7.out Hat7.out), Lib.hid (hat_new Hat7.out (by have := HsW.out; simp; omega) HMb.out.2.2.1)⟩
    case rest =>
    obtain ⟨v2', rfl, Hm8, Hg8, Hn2⟩ := hcut
    obtain ⟨w9, hw9⟩ : ∃ w9, w9 = wc := ⟨_, rfl⟩
    rw [← hw9] at Hm8 Hg8 ⊢
    have Hm9 := Hm8
    have Hg9 := Hg8
    clear Hm6 Hg6 HsW Hwd hw9 Hm8 Hg8
    -- what is known
    go_upto_region 8 with fail
    obtain ⟨kl, hkl⟩ := keyOf_rk Hqw.out
    obtain ⟨w10, hupd, hgr, hsz, hM⟩ := (Hg9.out.km.keep (w' := w9.drew) (R' := NatE) rfl (fun _ _ _ h => h)).update rkKeyed opV_inj Tryz.underlying90 hkl (.int .i64 (s.p.length : Int))
    have hgr' := undrew hgr
    have Hg10 := Lib.hid (Hg9.out.know hgr' (by
      have := hM NatE s.p.length (fun _ _ _ _ h => h) rfl
      rw [AL.put_none (fun e he h => by
        have h1 := AL_get_none Ho.out e he
        exact h1 h)] at this
      exact this))
    have Hm10 := Lib.hid (Hm9.out.upd hgr' HMb.out.2.1 HM.out)
    have hr9 := Hm9.out.row
    unfold opC at hr9
    obtain ⟨y0, y1, y2, y3, y4, y5⟩ := op6_cells hr9
    obtain ⟨_, _, k3, _⟩ := Hg9.out.cells
    unfold opV at hupd
    clear hgr hgr' hsz hM hkl hr9
    go_region
    clear hupd y0 y1 y2 y3 y4 y5 k3
    go_wp2
    refine bodyPost_ret (results_tmp2 rfl _ _ _) rfl ?_
    have hp := E.Gr.put_none (s := s) (x := x) (by rw [Hq.out]; exact Ho.out)
    have hqw : q.w = x.w := by rw [← Hq.out]; rfl
    have hg := Hg10.out
    rw [hqw] at hg
    refine ⟨.slice A1' (s.p.length + 1) c1', v2', ?_, ?_, ?_, ?_⟩
    · rw [hp]; rfl
    · rw [hp, Hq.out]; exact hg
    · rw [← HMM.out]; exact Hm10.out.kp
    · rw [← HMM.out]
      rintro i (rfl | rfl | e | e | e)
      · exact .inl HMb.out.1
      · exact .inl HMb.out.2.1
      · exact Hn1.out i e
      · exact Hn2.out i e
      · exact .inl (HMb.out.2.2.2 i e)
end Go.Proofs.YtcmlmjbpdaecbaaGreat
end
section
namespace Go.Proofs.YtcmlmjbpdaecbaaGreat
open Go.RowKit Go.MapKept Go.Maps Go.WideMaps
set_option linter.unusedVariables false
set_option linter.unusedSimpArgs false

set_option maxRecDepth 100000 in
set_option maxHeartbeats 4000000 in
theorem rjoin_any {W : World} {b : Nat} {p : List Nat} {wd : List Int} {kn : List (E.Opn × Nat)} {nm : List Nat} {vr : E.Vr} {v1 v2 v4 : Value} {kb : Nat} (h : RGC W b p wd kn nm vr v1 v2 v4 kb) (hd : E.Down p) (x y : Nat) (hx : x < p.length) (hy : y < p.length) :
    Calls Tryz.prog 75 #[.pointer (some ⟨b, 0, none⟩), .int .i64 (x : Int), .int .i64 (y : Int)] W fun e W' => e = .returned (.bool (decide (E.root p x ≠ E.root p y))) ∧ RGC W' b (E.join p x y) wd kn nm vr v1 v2 v4 kb ∧ Kpm (fun i => v1.ownBlock = some i) W W' ∧ W'.heap.size = W.heap.size := by
  have Hfx := Lib.hid (h.find hd x hx)
  have Hfy := Lib.hid (h.find hd y hy)
  have hrx := E.root_lt hx
  have hry := E.root_lt hy
  obtain ⟨rx, hrx'⟩ : ∃ rx, E.root p x = rx := ⟨_, rfl⟩
  obtain ⟨ry, hry'⟩ : ∃ ry, E.root p y = ry := ⟨_, rfl⟩
  rw [hrx'] at Hfx hrx
  rw [hry'] at Hfy hry
  obtain ⟨g, off, c, rfl⟩ : ∃ g off c, v1 = .slice (some ⟨g, off, none⟩) p.length c := by
    rcases h.o1.2 with ⟨_, e⟩ | ⟨g, off, cap, cur, e, _⟩
    · omega
    · exact ⟨g, off, cap, e⟩
  obtain ⟨k0, _, _, _⟩ := h.cells
  obtain ⟨cur, hcur⟩ := h.o1.row_ex (g := g) rfl
  have hsl := h.o1
  have Hrx := Lib.hid hrx
  have Hry := Lib.hid hry
  have Hex := Lib.hid hrx'
  have Hey := Lib.hid hry'
  have H := Lib.hid h
  have hple : p.length ≤ 9223372036854775807 := h.o1.le
  have Hu := Lib.hid (show ∀ m, m < p.length → ∃ u, W.cell? ⟨g, off + m, none⟩ = some u from fun m hml => by
    obtain ⟨A, ca, e, hs⟩ := h.slP
    cases e
    obtain ⟨z, b', off', u, _, e, _, hc, _⟩ := hs.at_ hml
    cases e
    exact ⟨u, hc⟩)
  have Hset := Lib.hid (show p.set rx rx = p from by
    have h1 := E.root_fix hd x
    rw [hrx'] at h1
    rw [List.getD_eq_getElem?_getD, List.getElem?_eq_getElem hrx, Option.getD_some] at h1
    apply List.ext_getElem?
    intro i
    rw [List.getElem?_set]
    by_cases e : rx = i
    · subst e; rw [if_pos rfl, if_pos hrx, List.getElem?_eq_getElem hrx, h1]
    · rw [if_neg e])
  have Hf := Lib.hid (show ∀ m, W.frozen? ⟨g, off + m, none⟩ = false from fun m => frozen_row hcur _)
  clear h hd hrx hry hrx' hry' hcur hsl
  by_cases hne : rx = ry
  · subst hne
    have hd : ((rx : Int) != (rx : Int)) = false := by simp
    obtain ⟨u, hu⟩ := Hu.out rx Hrx.out
    have hf := Hf.out rx
    have hlL : (rx : Int) ≤ (rx : Int) := Int.le_refl _
    go_enter Tryz.func75, Tryz.ntmps75
    go_wp2_with fail
    (with_reducible refine Hfx.out.mono ?_)
    rintro e w2 ⟨rfl, rfl⟩
    go_wp2_with fail
    (with_reducible refine Hfy.out.mono ?_)
    rintro e w2 ⟨rfl, rfl⟩
    go_wp2
    go_ret
    have e : E.join p x y = p.set rx rx := by
      unfold E.join
      rw [if_pos (by rw [Hex.out, Hey.out])]
      exact (Hset.out).symm
    refine ⟨?_, by rw [e]; exact H.out.setP Hrx.out, (Kpm.refl (fun i => some g = some i) _).setCell (p := ⟨g, off + rx, none⟩) (fun _ => rfl) _, by simp⟩
    rw [Hex.out, Hey.out]; simp
  rcases Nat.lt_or_gt_of_ne hne with hlt | hlt
  · clear hne
    have hd : ((rx : Int) != (ry : Int)) = true := by simp; omega
    obtain ⟨u, hu⟩ := Hu.out ry Hry.out
    have hf := Hf.out ry
    have Hlt := Lib.hid hlt
    have hlI : (rx : Int) < (ry : Int) := by omega
    have hlJ : ¬ (ry : Int) ≤ (rx : Int) := by omega
    have hlL : (rx : Int) ≤ (ry : Int) := by omega
    clear hlt
    go_enter Tryz.func75, Tryz.ntmps75
    go_wp2_with fail
    (with_reducible refine Hfx.out.mono ?_)
    rintro e w2 ⟨rfl, rfl⟩
    go_wp2_with fail
    (with_reducible refine Hfy.out.mono ?_)
    rintro e w2 ⟨rfl, rfl⟩
    go_wp2
    go_ret
    have hne : rx ≠ ry := by have := Hlt.out; omega
    have e : E.join p x y = p.set ry rx := by unfold E.join; rw [if_neg (by rw [Hex.out, Hey.out]; exact hne), Hex.out, Hey.out, show max rx ry = ry by have := Hlt.out; omega, show min rx ry = rx by have := Hlt.out; omega]
    refine ⟨?_, by rw [e]; exact H.out.setP Hry.out, (Kpm.refl (fun i => some g = some i) _).setCell (p := ⟨g, off + ry, none⟩) (fun _ => rfl) _, by simp⟩
    rw [Hex.out, Hey.out]; simp [hne]
  · clear hne
    have hd : ((rx : Int) != (ry : Int)) = true := by simp; omega
    obtain ⟨u, hu⟩ := Hu.out rx Hrx.out
    have hf := Hf.out rx
    have Hlt := Lib.hid hlt
    have hlI : (ry : Int) < (rx : Int) := by omega
    have hlJ : ¬ (rx : Int) ≤ (ry : Int) := by omega
    have hlL : (ry : Int) ≤ (rx : Int) := by omega
    clear hlt
    go_enter Tryz.func75, Tryz.ntmps75
    go_wp2_with fail
    (with_reducible refine Hfx.out.mono ?_)
    rintro e w2 ⟨rfl, rfl⟩
    go_wp2_with fail
    (with_reducible refine Hfy.out.mono ?_)
    rintro e w2 ⟨rfl, rfl⟩
    go_wp2
    go_ret
    have hne : rx ≠ ry := by have := Hlt.out; omega
    have e : E.join p x y = p.set rx ry := by unfold E.join; rw [if_neg (by rw [Hex.out, Hey.out]; exact hne), Hex.out, Hey.out, show max rx ry = rx by have := Hlt.out; omega, show min rx ry = ry by have := Hlt.out; omega]
    refine ⟨?_, by rw [e]; exact H.out.setP Hrx.out, (Kpm.refl (fun i => some g = some i) _).setCell (p := ⟨g, off + rx, none⟩) (fun _ => rfl) _, by simp⟩
    rw [Hex.out, Hey.out]; simp [hne]
end Go.Proofs.YtcmlmjbpdaecbaaGreat
end
section
namespace Go.Proofs.YtcmlmjbpdaecbaaGreat
set_option linter.unusedVariables false
set_option linter.unusedSimpArgs false
namespace E

theorem pass_cons (p : List Nat) (kn : List (Opn × Nat)) (e : Opn × Nat) (es : List (Opn × Nat)) : pass p kn (e :: es) = match kn.find? (fun k => decide (k.1 = can p e.1)) with
    | none => pass p (kn ++ [(can p e.1, root p e.2)]) es
    | some k => if root p k.2 = root p e.2 then pass p kn es else ((pass (join p k.2 e.2) kn es).1, (pass (join p k.2 e.2) kn es).2.1, true) := rfl
theorem pass_app : ∀ (l : List (Opn × Nat)) (p : List Nat) (kn : List (Opn × Nat)) (m : List (Opn × Nat)), pass p kn (l ++ m) = ((pass (pass p kn l).1 (pass p kn l).2.1 m).1, (pass (pass p kn l).1 (pass p kn l).2.1 m).2.1, (pass p kn l).2.2 || (pass (pass p kn l).1 (pass p kn l).2.1 m).2.2) := by
  intro l
  induction l with
  | nil => intro p kn m; simp [pass]
  | cons e l ih =>
    intro p kn m
    rw [List.cons_append, pass_cons, pass_cons]
    cases hf : kn.find? (fun k => decide (k.1 = can p e.1)) with
    | none => exact ih _ _ _
    | some k =>
      dsimp only
      split
      · exact ih _ _ _
      · rw [ih]; simp

/-- the same keys, and classes that are one -/
def RelK (p : List Nat) (kn kr : List (Opn × Nat)) : Prop := kn.map Prod.fst = kr.map Prod.fst ∧ ∀ (i : Nat) (a b : Opn × Nat), kn[i]? = some a → kr[i]? = some b → root p a.2 = root p b.2
theorem RelK.nil (p : List Nat) : RelK p [] [] := ⟨rfl, fun i a b h => by simp at h⟩
theorem RelK.len {p : List Nat} {kn kr : List (Opn × Nat)} (h : RelK p kn kr) : kn.length = kr.length := by
  have := congrArg List.length h.1
  simpa using this
theorem RelK.coarse {p p' : List Nat} {kn kr : List (Opn × Nat)} (h : RelK p kn kr) (hc : Coarse p p') : RelK p' kn kr := ⟨h.1, fun i a b ha hb => hc _ _ (h.2 i a b ha hb)⟩
theorem RelK.push {p : List Nat} {kn kr : List (Opn × Nat)} (h : RelK p kn kr) {q : Opn} {c d : Nat} (hcd : root p c = root p d) : RelK p (kn ++ [(q, c)]) (kr ++ [(q, d)]) := by
  refine ⟨by simp [h.1], fun i a b ha hb => ?_⟩
  have hl := h.len
  rcases Nat.lt_or_ge i kn.length with hi | hi
  · rw [List.getElem?_append_left hi] at ha
    rw [List.getElem?_append_left (by omega)] at hb
    exact h.2 i a b ha hb
  · rw [List.getElem?_append_right hi] at ha
    rw [List.getElem?_append_right (by omega), ← hl] at hb
    have hi0 : i - kn.length = 0 := by
      rcases Nat.eq_zero_or_pos (i - kn.length) with e | e
      · exact e
      · rw [List.getElem?_eq_none (by simp; omega)] at ha; cases ha
    rw [hi0] at ha hb
    simp at ha hb
    subst ha hb
    exact hcd
theorem get_rel : ∀ {kn kr : List (Opn × Nat)} {p : List Nat} {q : Opn}, RelK p kn kr → (AL.get kr q = none → AL.get kn q = none) ∧ ∀ d, AL.get kr q = some d → ∃ c, AL.get kn q = some c ∧ root p c = root p d := by
  intro kn
  induction kn with
  | nil =>
    intro kr p q h
    have : kr = [] := List.length_eq_zero_iff.1 h.len.symm
    subst this
    exact ⟨fun h => h, fun d h => by cases h⟩
  | cons a kn ih =>
    intro kr p q h
    cases kr with
    | nil => have := h.len; simp at this
    | cons b kr =>
      have h1 := h.1
      simp only [List.map_cons, List.cons.injEq] at h1
      have ht : RelK p kn kr := ⟨h1.2, fun i x y hx hy => h.2 (i + 1) x y (by simpa using hx) (by simpa using hy)⟩
      have h0 := h.2 0 a b rfl rfl
      simp only [AL.get]
      rw [← h1.1]
      by_cases e : a.1 = q
      · rw [if_pos e, if_pos e]
        exact ⟨fun h => (by cases h), fun d hd => by cases hd; exact ⟨a.2, rfl, h0⟩⟩
      · rw [if_neg e, if_neg e]
        exact ih ht
theorem rel_mem {p : List Nat} {kn kr : List (Opn × Nat)} (h : RelK p kn kr) {k : Opn × Nat} (hk : k ∈ kn) : ∃ k' ∈ kr, k'.1 = k.1 ∧ root p k.2 = root p k'.2 := by
  obtain ⟨i, hi⟩ := List.getElem?_of_mem hk
  have hl := (List.getElem?_eq_some_iff.1 hi).1
  have hl' : i < kr.length := by rw [← h.len]; exact hl
  have h1 := congrArg (fun l => l[i]?) h.1
  simp only [List.getElem?_map, hi, List.getElem?_eq_getElem hl', Option.map_some, Option.some.injEq] at h1
  exact ⟨kr[i], List.getElem_mem _, h1.symm, h.2 i k kr[i] hi (List.getElem?_eq_getElem hl')⟩
theorem RelK.symm {p : List Nat} {kn kr : List (Opn × Nat)} (h : RelK p kn kr) : RelK p kr kn := ⟨h.1.symm, fun i a b ha hb => (h.2 i b a hb ha).symm⟩

theorem Mid.of_set {p : List Nat} {es : List (Opn × Nat)} {p1 : List Nat} {es1 vs : List (Opn × Nat)} (h : Mid p es p1 es1) (hs : ∀ e, e ∈ vs ↔ e ∈ es1) : Mid p es p1 vs :=
  ⟨h.down, h.len, fun e he => h.inn e ((hs e).1 he), h.coarse, fun e he => by
    obtain ⟨k, hk, r⟩ := h.rep e he
    exact ⟨k, (hs k).2 hk, r⟩, fun R E0 hq hc hsn hg => by
    obtain ⟨s1, s2⟩ := h.sound R E0 hq hc hsn hg
    exact ⟨s1, fun k hk => s2 k ((hs k).1 hk)⟩, fun ha k hk => h.ar ha k ((hs k).1 hk)⟩
theorem Mid.relk {p : List Nat} {es : List (Opn × Nat)} {p1 : List Nat} {kn kr : List (Opn × Nat)} (h : Mid p es p1 kn) (hr : RelK p1 kn kr) (hi : In p1 kr) : Mid p es p1 kr :=
  ⟨h.down, h.len, hi, h.coarse, fun e he => by
    obtain ⟨k, hk, k1, k2⟩ := h.rep e he
    obtain ⟨k', hk', e1, e2⟩ := rel_mem hr hk
    exact ⟨k', hk', by rw [e1]; exact k1, e2.symm.trans k2⟩, fun R E0 hq hc hsn hg => by
    obtain ⟨s1, s2⟩ := h.sound R E0 hq hc hsn hg
    refine ⟨s1, fun k' hk' => ?_⟩
    obtain ⟨k, hk, e1, e2⟩ := rel_mem hr.symm hk'
    obtain ⟨y, hy, y1, y2⟩ := s2 k hk
    rw [e1] at y1
    exact ⟨y, hy, y1, hq.trans _ _ _ (eq1_of_sound hq s1 e2) y2⟩, fun ha k' hk' => by
    obtain ⟨k, hk, e1, _⟩ := rel_mem hr.symm hk'
    rw [← e1]
    exact h.ar ha k hk⟩

/-- behind the reference's rebuild -/
structure RShut (p : List Nat) (es : List (Opn × Nat)) (p1 : List Nat) (es1 : List (Opn × Nat)) : Prop where
  mid : Mid p es p1 es1
  nd : (es1.map Prod.fst).Nodup
  keys : ∀ k ∈ es1, can p1 k.1 = k.1
theorem rshut_of {p : List Nat} {es : List (Opn × Nat)} {p1 : List Nat} {es1 vs kn kr : List (Opn × Nat)} {p2 : List Nat} (h : Mid p es p1 es1) (hs : ∀ e, e ∈ vs ↔ e ∈ es1) (hp : pass p1 [] vs = (p2, kn, false)) (hr : RelK p2 kn kr) (hi : In p2 kr) : RShut p es p2 kr := by
  have hv := h.of_set hs
  have hl := hv.last (by rw [hp])
  rw [hp] at hl
  refine ⟨hl.mid.relk hr hi, ?_, fun k' hk' => ?_⟩
  · rw [← hr.1]; exact hl.nd
  · obtain ⟨k, hk, e1, _⟩ := rel_mem hr.symm hk'
    rw [← e1]; exact hl.keys k hk
theorem rstep_of {p : List Nat} {es : List (Opn × Nat)} {p1 : List Nat} {es1 vs kn kr : List (Opn × Nat)} {p2 : List Nat} {fl : Bool} (h : Mid p es p1 es1) (hs : ∀ e, e ∈ vs ↔ e ∈ es1) (hp : pass p1 [] vs = (p2, kn, fl)) (hr : RelK p2 kn kr) (hi : In p2 kr) : Mid p es p2 kr := by
  have hv := (h.of_set hs).step
  rw [hp] at hv
  exact hv.relk hr hi

/-- the same classes: the same roots -/
theorem root_eq {p q : List Nat} (dp : Down p) (dq : Down q) (h : ∀ a b, Eq1 p a b ↔ Eq1 q a b) (c : Nat) : root p c = root q c := by
  have h1 : root p c ≤ root q c := by
    have : Eq1 p c (root q c) := (h _ _).2 (root_root dq c).symm
    have e : root p c = root p (root q c) := this
    rw [e]; exact root_le p _
  have h2 : root q c ≤ root p c := by
    have : Eq1 q c (root p c) := (h _ _).1 (root_root dp c).symm
    have e : root q c = root q (root p c) := this
    rw [e]; exact root_le q _
  omega
end E
end Go.Proofs.YtcmlmjbpdaecbaaGreat
end
