/- Graphs (the program): put. -/
import Derived.Test.YtcmlmjbpdaecbaaGreatA10
set_option linter.unusedVariables false
set_option linter.unusedSimpArgs false
namespace Go.Proofs.YtcmlmjbpdaecbaaGreat
open Go.RowKit Go.MapKept Go.Maps Go.WideMaps
set_option linter.unusedVariables false
set_option linter.unusedSimpArgs false

theorem infoEnt : (Tryz.prog.info? 87).map (fun i => (i.zero, i.size, i.bytes)) = some (some (.agg #[.int .i64 0, .int .i64 0, .int .u32 0, .int .i64 0, .int .i64 0, .int .i64 0, .int .i64 0]), 7, 56) := by kernel_rfl
theorem entC_one (e : E.Opn × Nat) : ∀ u ∈ entC e, u.oneCell' = true := by
  intro u hu
  simp [entC] at hu
  rcases hu with rfl | rfl | rfl | rfl | rfl | rfl | rfl <;> rfl
theorem arOk_i64 {n : Nat} (hn : n ≤ 1000000000) {a : Int} (h : E.ArOk n a) : I64 a := by
  rcases h with rfl | ⟨h1, h2⟩
  · exact ⟨by decide, by decide⟩
  · exact ⟨by omega, by omega⟩
theorem owf_can {p : List Nat} {x : E.Opn} (hw : OWf x) (hx : E.Ar p.length x) (hn : p.length ≤ 1000000000) : OWf (E.can p x) := by
  have h := E.ar_can hx
  exact ⟨hw.op, hw.w, hw.imm, arOk_i64 hn h.1, arOk_i64 hn h.2.1, arOk_i64 hn h.2.2⟩
def lookN (o : Option Nat) : Int := match o with
  | some c => (c : Int)
  | none => 0
theorem look_op {w : World} {kb : Nat} {kn : List (E.Opn × Nat)} (h : MapAt Tryz.prog 85 opV NatE w kb kn) {k : E.Opn} (hk : OWf k) (w' : World) (hw : w'.heap[kb]? = w.heap[kb]?) :
    (Instr.lookup 77 (.map (some kb)) (opV k) true).run Tryz.prog w' = .ok (.tuple #[.int .i64 (lookN (AL.get kn k)), .bool (AL.get kn k).isSome]) w' := by
  obtain ⟨kl, hkl⟩ := keyOf_op hk
  have hz : ∀ w, (zeroValue 3).run Tryz.prog w = .ok (.int .i64 0) w := fun w => by go_simp
  obtain ⟨u, _, h2, h3⟩ := (h.keep (R' := NatE) hw (fun _ _ _ h => h)).lookup opKeyed opV_inj Tryz.underlying77 (hz w') hkl
  rw [h2]
  rcases h3 with ⟨h3, h4⟩ | ⟨a, h3, h4⟩
  · rw [h3, h4]; rfl
  · rw [h3, show u = _ from h4]; rfl

/-- behind put -/
structure PutPost (W : World) (b : Nat) (s : E.Gr) (x : E.Opn) (v1 v2 v3 v4 : Value) (kb : Nat) (e : Ending) (W' : World) (v1' v2' v3' : Value) : Prop where
  ret : e = .returned (.tuple #[.int .i64 ((s.put x).2.1 : Int), .bool (s.put x).2.2])
  gr : GrC W' b (s.put x).1.p (s.put x).1.wd (s.put x).1.es (s.put x).1.es (s.put x).1.nm (s.put x).1.vr v1' v2' v3' v4 kb
  kp : Kpm (MG b v1 v2 v3 v4 kb) W W'
  new : ∀ i, MG b v1' v2' v3' v4 kb i → MG b v1 v2 v3 v4 kb i ∨ W.heap.size ≤ i

theorem grown_row {w w' : World} {b : Nat} {o : Obj} {r : Option Nat} (h : w.grownBy w' r) (hr : w.heap[b]? = some o) (hne : r ≠ some b) : w'.heap[b]? = some o :=
  (h.block b (Array.getElem?_eq_some_iff.1 hr).1 (fun e => hne e.symm)).trans hr

theorem AL_get_none {κ α : Type} [DecidableEq κ] {l : List (κ × α)} {k : κ} (h : AL.get l k = none) : ∀ p ∈ l, p.1 ≠ k := by
  induction l with
  | nil => intro p hp; cases hp
  | cons q l ih =>
    unfold AL.get at h
    split at h
    · cases h
    · rename_i hne
      intro p hp
      rcases List.mem_cons.1 hp with rfl | hp
      · exact hne
      · exact ih h p hp
/-- the operation lies in its box; what is not the graph's stays -/
structure PMid (W : World) (M : Nat → Prop) (q : E.Opn) (w : World) : Prop where
  kp : Kpm M W w
  row : w.heap[W.heap.size]? = some (.cells (opC q) 85 (0, 0))
theorem PMid.app {W : World} {M : Nat → Prop} {q : E.Opn} {w w' : World} {o : Obj} {r : Option Nat} (h : PMid W M q w) (hgr : (w.alloc o).grownBy w' r) (hr : ∀ i, r = some i → M i) (hM : ∀ i, M i → i < W.heap.size) {b : Nat} (hb : M b) (i : Nat) (u : Value) : PMid W M q (w'.setCell ⟨b, i, none⟩ u) := by
  have hbW := hM b hb
  refine ⟨(((h.kp.alloc o).trans (Kpm.grown hgr hr) (fun _ _ h => h)).setCell (p := ⟨b, i, none⟩) (fun _ => hb) u), ?_⟩
  rw [Below.heap_setCell _ _ _ _ (by show W.heap.size ≠ b; omega)]
  exact grown_row hgr (row_alloc h.row o) (fun e => by have := hM _ (hr _ e); omega)
theorem PMid.upd {W : World} {M : Nat → Prop} {q : E.Opn} {w w' : World} {k : Nat} (h : PMid W M q w) (hgr : w.grownBy w' (some k)) (hk : M k) (hM : ∀ i, M i → i < W.heap.size) : PMid W M q w' :=
  ⟨h.kp.trans (Kpm.grown hgr (fun i e => by cases e; exact hk)) (fun _ _ h => h), grown_row hgr h.row (fun e => by have := hM _ hk; injection e with e; omega)⟩
theorem undrew {w w' : World} {r : Option Nat} (h : w.drew.grownBy w' r) : w.grownBy w' r := ⟨h.os, h.tape, h.output, h.size, h.block⟩
theorem hat_ex {w : World} {v v' : Value} {o : Obj} (h : v'.ownBlock = v.ownBlock ∨ v'.ownBlock = some (w.heap.size + 1)) : v'.ownBlock = v.ownBlock ∨ ∃ k, (w.alloc o).heap.size ≤ k ∧ v'.ownBlock = some k := h.imp id fun h => ⟨_, by simp, h⟩
theorem hat_ex2 {w : World} {v v' : Value} {o : Obj} (h : v'.ownBlock = v.ownBlock ∨ v'.ownBlock = some (w.alloc o).drew.heap.size) : v'.ownBlock = v.ownBlock ∨ ∃ k, (w.alloc o).heap.size ≤ k ∧ v'.ownBlock = some k := h.imp id fun h => ⟨_, Nat.le_refl _, h⟩
theorem hat_new {w W : World} {v v' : Value} {M : Nat → Prop} (h : v'.ownBlock = v.ownBlock ∨ ∃ k, w.heap.size ≤ k ∧ v'.ownBlock = some k) (hs : W.heap.size ≤ w.heap.size) (hM : ∀ i, v.ownBlock = some i → M i) : ∀ i, v'.ownBlock = some i → M i ∨ W.heap.size ≤ i := fun i hi => by
  rcases h with e | ⟨k, hk, e⟩
  · exact .inl (hM i (e ▸ hi))
  · rw [e] at hi; injection hi with hi; exact .inr (by omega)

theorem E.Gr.put_some {s : E.Gr} {x : E.Opn} {c : Nat} (h : AL.get s.es (E.can s.p x) = some c) : s.put x = (s, E.root s.p c, false) := by
  unfold E.Gr.put; rw [h]
theorem E.Gr.put_none {s : E.Gr} {x : E.Opn} (h : AL.get s.es (E.can s.p x) = none) : s.put x = ({ s with p := s.p ++ [s.p.length], wd := s.wd ++ [x.w], es := s.es ++ [(E.can s.p x, s.p.length)] }, s.p.length, true) := by
  unfold E.Gr.put; rw [h]

set_option maxRecDepth 100000 in
set_option maxHeartbeats 4000000 in
theorem gput_any {W : World} {b : Nat} {s : E.Gr} {v1 v2 v3 v4 : Value} {kb : Nat} (h : GrC W b s.p s.wd s.es s.es s.nm s.vr v1 v2 v3 v4 kb) (ok : s.Ok) {x : E.Opn} (hx : E.Ar s.p.length x) (hw : OWf x) (hn : s.p.length ≤ 900000) (he : s.es.length ≤ 900000) :
    Calls Tryz.prog 67 #[.pointer (some ⟨b, 0, none⟩), opV x] W fun e W' => ∃ v1' v2' v3', PutPost W b s x v1 v2 v3 v4 kb e W' v1' v2' v3' := by
  obtain ⟨W2, hW2⟩ : ∃ W2, W2 = W.alloc (.cells #[.int .i64 x.op, .int .i64 x.w, .int .u32 x.imm, .int .i64 x.a0, .int .i64 x.a1, .int .i64 x.a2] 85) := ⟨_, rfl⟩
  have hb2 : Below W.heap.size W W2 := by rw [hW2]; exact (Below.refl _ _).alloc (Nat.le_refl _) _
  have hr0 : W2.heap[W.heap.size]? = some (.cells (opC x) 85 (0, 0)) := by rw [hW2]; exact heap_alloc_new W _
  have h2 := h.below hb2
  have hcan := h2.canonical ok.down hx
  unfold opV at hcan
  have Hcan := Lib.hid hcan
  have H := Lib.hid h
  have Ok := Lib.hid ok
  have Hx := Lib.hid hx
  have Hw := Lib.hid hw
  have Hb2 := Lib.hid hb2
  have Hr0 := Lib.hid hr0
  obtain ⟨y0, y1, y2, y3, y4, y5⟩ := op6_cells hr0
  have Hbs := Lib.hid (h.lt b (.inl rfl))
  clear h ok hx hw hb2 hr0 h2 hcan
  unfold opV
  go_enter Tryz.func67, Tryz.ntmps67
  go_wp2_with fail
  rw [← hW2]
  go_wp2_with fail
  clear hW2 y0 y1 y2 y3 y4 y5
  (with_reducible refine Hcan.out.mono ?_)
  rintro e w3 ⟨rfl, hb3⟩
  have hr3 := row_step (Lib.hid hb3) Hr0.out
  unfold opC at hr3
  have z0 := frozen_row hr3 0
  have z1 := frozen_row hr3 1
  have z2 := frozen_row hr3 2
  have z3 := frozen_row hr3 3
  have z4 := frozen_row hr3 4
  have z5 := frozen_row hr3 5
  obtain ⟨y0, y1, y2, y3, y4, y5⟩ := op6_cells hr3
  have Hr3 := Lib.hid hr3
  have Hb3 := Lib.hid (Hb2.out.trans (hb3.mono Hb2.out.size))
  obtain ⟨q, hq⟩ : ∃ q, E.can s.p x = q := ⟨_, rfl⟩
  rw [hq]
  have Hq := Lib.hid hq
  have Hqw := Lib.hid (show OWf q from by rw [← hq]; exact owf_can Hw.out Hx.out (by omega))
  clear hr3 hb3 hq
  go_upto_region 2 with (fail)
  clear y0 y1 y2 y3 y4 y5 z0 z1 z2 z3 z4 z5
  obtain ⟨X, hX⟩ : ∃ X, X = (((((w3.setCell ⟨W.heap.size, 0, none⟩ (.int .i64 q.op)).setCell ⟨W.heap.size, 1, none⟩ (.int .i64 q.w)).setCell ⟨W.heap.size, 2, none⟩ (.int .u32 q.imm)).setCell ⟨W.heap.size, 3, none⟩ (.int .i64 q.a0)).setCell ⟨W.heap.size, 4, none⟩ (.int .i64 q.a1)).setCell ⟨W.heap.size, 5, none⟩ (.int .i64 q.a2) := ⟨_, rfl⟩
  rw [← hX]
  have hrX : X.heap[W.heap.size]? = some (.cells (opC q) 85 (0, 0)) := by rw [hX]; exact set6_row Hr3.out _ _ _ _ _ _
  have HbX := Lib.hid (show Below W.heap.size W X from by rw [hX]; exact set6_below Hb3.out (Nat.le_refl _) _ _ _ _ _ _)
  have hgX := H.out.below HbX.out
  have HgX := Lib.hid hgX
  have HrX := Lib.hid hrX
  clear hX Hr3 Hb3 Hr0 Hb2
  unfold opC at hrX
  obtain ⟨y0, y1, y2, y3, y4, y5⟩ := op6_cells hrX
  obtain ⟨_, _, _, k3, _⟩ := hgX.cells
  have hlk := fun w' => look_op hgX.km Hqw.out w'
  clear hrX hgX
  obtain ⟨ov⟩ := ov_ex X
  have k3o := ov.cell k3
  have z0 := ov.cell y0
  have z1 := ov.cell y1
  have z2 := ov.cell y2
  have z3 := ov.cell y3
  have z4 := ov.cell y4
  have z5 := ov.cell y5
  have hlo := fun u => hlk (ov.f u) ((ov.below u).block kb HgX.out.km.lt)
  obtain ⟨o, ho⟩ : ∃ o, AL.get s.es q = o := ⟨_, rfl⟩
  rw [ho] at hlo
  have Ho := Lib.hid ho
  unfold opV at hlo
  clear hlk k3 y0 y1 y2 y3 y4 y5 ho
  refine wp_region_ovq ov (by kernel_rfl) (by kernel_rfl) ?_
  repeat (go_big_quiet_step (fail))
  refine wpQuiet_nil ?_
  rintro _ ⟨u, rfl⟩
  have Hbo := Lib.hid (ov.below u)
  clear hlo k3o z0 z1 z2 z3 z4 z5
  generalize ov.f u = w4 at *
  have Hr4 := Lib.hid (row_step Hbo HrX.out)
  have Hg4 := Lib.hid (HgX.out.below Hbo.out)
  have Hb4 := Lib.hid (HbX.out.trans (Hbo.out.mono HbX.out.size))
  clear Hbo HrX HgX HbX
  cases o with
  | some c =>
    have hcl := Ok.out.inn _ (E.get_in Ho.out)
    have Hf := Lib.hid (Hg4.out.find Ok.out.down c hcl)
    have Hc := Lib.hid hcl
    clear hcl
    rw [show lookN (some c) = (c : Int) from rfl, show (some c).isSome = true from rfl]
    go_wp2_with fail
    (with_reducible refine Hf.out.mono ?_)
    rintro e w5 ⟨rfl, rfl⟩
    go_wp2
    refine bodyPost_ret (results_tmp2 rfl _ _ _) rfl ?_
    have hp := E.Gr.put_some (s := s) (x := x) (by rw [Hq.out]; exact Ho.out)
    refine ⟨v1, v2, v3, ?_, ?_, Kpm.of_below Hb4.out _, fun i hi => .inl hi⟩
    · rw [hp]; rfl
    · rw [hp]; exact Hg4.out
  | none =>
    rw [show lookN none = (0 : Int) from rfl, show (none : Option Nat).isSome = false from rfl]
    obtain ⟨A1, c1, rfl⟩ := Hg4.out.o1.form
    obtain ⟨k0, _, _, _, _⟩ := Hg4.out.cells
    have Ho1 := Lib.hid Hg4.out.o1
    have hnW := Hg4.out.ne1
    have HnW := Lib.hid hnW
    clear hnW
    go_wp2_with (at_builtin; refine wpList_append_one' rfl (.tmp 34) (.tmp 36) 60 rfl 3 (.int .i64 0) 8 Tryz.underlying60 infoInt rfl _ s.p.length _ rfl Ho1.out (.int .i64 (s.p.length : Int)) rfl 3 w4.heap.size rfl rfl (by omega) (by omega) ?_; intro v1' w5 hown' hgr hat; obtain ⟨A1', c1', rfl⟩ := hown'.form; have Hown' := Lib.hid hown'; have Hgr := Lib.hid hgr; have Hat := Lib.hid hat; have kc := cell_of_row w5 b 0 _ _ (0, 0) (grown_row hgr (row_alloc Hg4.out.row _) HnW.out); have kf := frozen_row (grown_row hgr (row_alloc Hg4.out.row _) HnW.out) 0; simp only [List.getElem?_toArray, List.getElem?_cons_zero] at kc; clear hown' hgr hat)
    have Hg4a := Lib.hid (Hg4.out.below (w' := w4.alloc (.cells #[.int .i64 (s.p.length : Int)] 3)) ((Below.refl _ _).alloc (Nat.le_refl _) _))
    have Hat1 := Lib.hid (hat_ex (o := .cells #[.int .i64 (s.p.length : Int)] 3) Hat.out)
    have HM := Lib.hid (show ∀ i, MG b (.slice A1 s.p.length c1) v2 v3 v4 kb i → i < W.heap.size from H.out.lt)
    have Hm4 := Lib.hid (show PMid W (MG b (.slice A1 s.p.length c1) v2 v3 v4 kb) q w4 from ⟨Kpm.of_below Hb4.out _, Hr4.out⟩)
    have Hm6 := Lib.hid (Hm4.out.app Hgr.out (fun i e => .inr (.inr (.inl e))) HM.out (.inl rfl) 0 (.slice A1' (s.p.length + 1) c1'))
    have Hg6 := Lib.hid (Hg4a.out.app1 Hown'.out Hgr.out Hat1.out)
    have Hw4 := Lib.hid (show W.heap.size ≤ (w4.alloc (.cells #[.int .i64 (s.p.length : Int)] 3)).heap.size from by have := Hb4.out.size; simp; omega)
    have Hn1 := Lib.hid (hat_new Hat1.out Hw4.out (M := MG b (.slice A1 s.p.length c1) v2 v3 v4 kb) (fun i e => .inr (.inr (.inl e))))
    obtain ⟨w6, hw6⟩ : ∃ w6, w6 = w5.setCell ⟨b, 0, none⟩ (.slice A1' (s.p.length + 1) c1') := ⟨_, rfl⟩
    rw [← hw6] at Hm6 Hg6 ⊢
    clear hw6 Hown' Hgr Hat Hat1 Hg4a Hw4 kc kf k0 Hg4 Hr4 Hb4 HnW Ho1
    -- the width
    obtain ⟨A2, c2, rfl⟩ := Hg6.out.o2.form
    obtain ⟨M, hMM⟩ : ∃ M, M = MG b (.slice A1 s.p.length c1) (.slice A2 s.wd.length c2) v3 v4 kb := ⟨_, rfl⟩
    have HMb := Lib.hid (show M b ∧ M kb ∧ (∀ i, (Value.slice A2 s.wd.length c2).ownBlock = some i → M i) ∧ (∀ i, v3.ownBlock = some i → M i) ∧ (∀ i, v4.ownBlock = some i → M i) from by rw [hMM]; exact ⟨.inl rfl, .inr (.inl rfl), fun i e => .inr (.inr (.inr (.inl e))), fun i e => .inr (.inr (.inr (.inr (.inl e)))), fun i e => .inr (.inr (.inr (.inr (.inr e))))⟩)
    rw [← hMM] at HM Hm6 Hn1
    have HMM := Lib.hid hMM
    clear hMM
    have HsW := Lib.hid Hm6.out.kp.size
    have Hwd := Lib.hid (show s.wd.length + 1 ≤ 1000000000 from by have := Ok.out.wd; omega)
    go_cut [8] (fun s8 wx => ∃ v2', s8 = .int .i64 (s.p.length : Int) ∧ Hid (PMid W M q wx) ∧ Hid (GrC wx b (s.p ++ [s.p.length]) (s.wd ++ [q.w]) s.es s.es s.nm s.vr (.slice A1' (s.p.length + 1) c1') v2' v3 v4 kb) ∧ Hid (∀ i, v2'.ownBlock = some i → M i ∨ W.heap.size ≤ i))
    case first =>
      have hr6 := Hm6.out.row
      unfold opC at hr6
      obtain ⟨_, y1, _, _, _, _⟩ := op6_cells hr6
      have y1' : (w6.alloc (.cells #[.int .i64 q.w] 3)).cell? ⟨W.heap.size, 1, none⟩ = some (.int .i64 q.w) := by rw [cell_of_row _ _ _ _ _ (0, 0) (row_alloc hr6 _)]; rfl
      obtain ⟨_, k1, _, _, _⟩ := Hg6.out.cells
      have k1' : (w6.alloc (.cells #[.int .i64 q.w] 3)).cell? ⟨b, 1, none⟩ = some (.slice A2 s.wd.length c2) := by rw [cell_of_row _ _ _ _ _ (0, 0) (row_alloc Hg6.out.row _)]; rfl
      have HW := Lib.hid (show Below w6.heap.size w6 ((w6.alloc (.cells #[.int .i64 q.w] 3)).drew) from ((Below.refl _ _).alloc (Nat.le_refl _) _).drew)
      have Hne2 := Lib.hid Hg6.out.ne2
      have Hrb := Lib.hid (show ((w6.alloc (.cells #[.int .i64 q.w] 3)).drew).heap[b]? = _ from row_alloc Hg6.out.row _)
      clear hr6
      go_region_law (first
        | (refine step_append_src _ rfl (.tmp 44) (.tmp 47) 60 rfl 3 (.int .i64 0) 1 8 Tryz.underlying60 infoInt rfl (by decide) (.slice A2 s.wd.length c2) s.wd.length _ rfl (Hg6.out.o2.same (fun g hg => HW.out.block g (Hg6.out.o2.lt g hg))) (some ⟨w6.heap.size, 0, none⟩) 1 1 [.int .i64 q.w] rfl rfl (src_new w6 [.int .i64 q.w] 3) (by simp; rfl) Hwd.out (by decide) ?_
           intro v' w7 hown7 hgr7 hat7
           obtain ⟨A7, c7, rfl⟩ := hown7.form
           have kc := cell_of_row w7 b 1 _ _ (0, 0) (grown_row hgr7 Hrb.out Hne2.out)
           have kfr := frozen_row (grown_row hgr7 Hrb.out Hne2.out) 1
           have Hown7 := Lib.hid hown7
           have Hgr7 := Lib.hid (undrew hgr7)
           have Hat7 := Lib.hid (hat_ex2 hat7)
           clear hown7 hgr7 hat7
           simp only [List.getElem?_toArray, List.getElem?_cons_zero, List.getElem?_cons_succ] at kc))
      all_goals
        go_wp2_with fail
        go_meet
        exact ⟨.slice A7 (s.wd.length + 1) c7, rfl, Lib.hid (Hm6.out.app Hgr7.out HMb.out.2.2.1 HM.out HMb.out.1 1 _), Lib.hid ((Hg6.out.below ((Below.refl _ _).alloc (Nat.le_refl _) _)).app2 Hown7.out Hgr7.out Hat7.out), Lib.hid (hat_new Hat7.out (by have := HsW.out; simp; omega) HMb.out.2.2.1)⟩
    case rest =>
    obtain ⟨v2', rfl, Hm8, Hg8, Hn2⟩ := hcut
    obtain ⟨w8, hw8⟩ : ∃ w8, w8 = wc := ⟨_, rfl⟩
    rw [← hw8] at Hm8 Hg8 ⊢
    clear Hm6 Hg6 HsW Hwd hw8
    -- the entry
    obtain ⟨A3, c3, rfl⟩ := Hg8.out.o3.form
    have HsW := Lib.hid Hm8.out.kp.size
    have Hes := Lib.hid (show s.es.length + 1 ≤ 1000000000 from by omega)
    go_upto_region 8 with fail
    go_cut [8] (fun s8 wx => ∃ v3', s8 = .int .i64 (s.p.length : Int) ∧ Hid (PMid W M q wx) ∧ Hid (GrC wx b (s.p ++ [s.p.length]) (s.wd ++ [q.w]) (s.es ++ [(q, s.p.length)]) s.es s.nm s.vr (.slice A1' (s.p.length + 1) c1') v2' v3' v4 kb) ∧ Hid (∀ i, v3'.ownBlock = some i → M i ∨ W.heap.size ≤ i))
    case first =>
      have hr8 := Hm8.out.row
      unfold opC at hr8
      obtain ⟨y0, y1, y2, y3, y4, y5⟩ := op6_cells hr8
      obtain ⟨e0, e1, e2, e3, e4, e5⟩ := op6_cells (row_alloc hr8 (.cells (entC (q, s.p.length)).toArray 87))
      obtain ⟨_, _, k2, _, _⟩ := Hg8.out.cells
      have k2' : (w8.alloc (.cells (entC (q, s.p.length)).toArray 87)).cell? ⟨b, 2, none⟩ = some (.slice A3 s.es.length c3) := by rw [cell_of_row _ _ _ _ _ (0, 0) (row_alloc Hg8.out.row _)]; rfl
      have HW := Lib.hid (show Below w8.heap.size w8 ((w8.alloc (.cells (entC (q, s.p.length)).toArray 87)).drew) from ((Below.refl _ _).alloc (Nat.le_refl _) _).drew)
      have Hne3 := Lib.hid Hg8.out.ne3
      have Hrb := Lib.hid (show ((w8.alloc (.cells (entC (q, s.p.length)).toArray 87)).drew).heap[b]? = _ from row_alloc Hg8.out.row _)
      clear hr8
      unfold entC at e0 e1 e2 e3 e4 e5 k2'
      go_region_law (first
        | (refine step_append_src _ rfl (.tmp 55) (.tmp 59) 76 rfl 87 (.agg #[.int .i64 0, .int .i64 0, .int .u32 0, .int .i64 0, .int .i64 0, .int .i64 0, .int .i64 0]) 7 56 Tryz.underlying76 infoEnt rfl (by decide) (.slice A3 s.es.length c3) s.es.length _ rfl (Hg8.out.o3.same (fun g hg => HW.out.block g (Hg8.out.o3.lt g hg))) (some ⟨w8.heap.size, 0, none⟩) 1 1 (entC (q, s.p.length)) rfl rfl (src_new w8 (entC (q, s.p.length)) 87) (entC_one _) Hes.out (by decide) ?_
           intro v' w9 hown7 hgr7 hat7
           obtain ⟨A7, c7, rfl⟩ := hown7.form
           have kc := cell_of_row w9 b 2 _ _ (0, 0) (grown_row hgr7 Hrb.out Hne3.out)
           have kfr := frozen_row (grown_row hgr7 Hrb.out Hne3.out) 2
           have Hown7 := Lib.hid hown7
           have Hgr7 := Lib.hid (undrew hgr7)
           have Hat7 := Lib.hid (hat_ex2 hat7)
           clear hown7 hgr7 hat7
           simp only [List.getElem?_toArray, List.getElem?_cons_zero, List.getElem?_cons_succ] at kc))
      all_goals
        go_wp2_with fail
        go_meet
        exact ⟨.slice A7 (s.es.length + 1) c7, rfl, Lib.hid (Hm8.out.app Hgr7.out HMb.out.2.2.2.1 HM.out HMb.out.1 2 _), Lib.hid ((Hg8.out.below ((Below.refl _ _).alloc (Nat.le_refl _) _)).app3 Hown7.out Hgr7.out Hat7.out), Lib.hid (hat_new Hat7.out (by have := HsW.out; simp; omega) HMb.out.2.2.2.1)⟩
    case rest =>
    obtain ⟨v3', rfl, Hm9, Hg9, Hn3⟩ := hcut
    obtain ⟨w9, hw9⟩ : ∃ w9, w9 = wc := ⟨_, rfl⟩
    rw [← hw9] at Hm9 Hg9 ⊢
    clear Hm8 Hg8 HsW Hes hw9
    -- what is known
    go_upto_region 9 with fail
    obtain ⟨kl, hkl⟩ := keyOf_op Hqw.out
    obtain ⟨w10, hupd, hgr, hsz, hM⟩ := (Hg9.out.km.keep (w' := w9.drew) (R' := NatE) rfl (fun _ _ _ h => h)).update opKeyed opV_inj Tryz.underlying77 hkl (.int .i64 (s.p.length : Int))
    have hgr' := undrew hgr
    have Hg10 := Lib.hid (Hg9.out.know hgr' (by
      have := hM NatE s.p.length (fun _ _ _ _ h => h) rfl
      rw [AL.put_none (fun e he h => by
        have h1 := AL_get_none Ho.out e he
        exact h1 h)] at this
      exact this))
    have Hm10 := Lib.hid (Hm9.out.upd hgr' HMb.out.2.1 HM.out)
    have hr9 := Hm9.out.row
    unfold opC at hr9
    obtain ⟨y0, y1, y2, y3, y4, y5⟩ := op6_cells hr9
    obtain ⟨_, _, _, k3, _⟩ := Hg9.out.cells
    unfold opV at hupd
    clear hgr hgr' hsz hM hkl hr9
    go_region
    clear hupd y0 y1 y2 y3 y4 y5 k3
    go_wp2
    refine bodyPost_ret (results_tmp2 rfl _ _ _) rfl ?_
    have hp := E.Gr.put_none (s := s) (x := x) (by rw [Hq.out]; exact Ho.out)
    have hqw : q.w = x.w := by rw [← Hq.out]; rfl
    have hg := Hg10.out
    rw [hqw] at hg
    refine ⟨.slice A1' (s.p.length + 1) c1', v2', v3', ?_, ?_, ?_, ?_⟩
    · rw [hp]; rfl
    · rw [hp, Hq.out]; exact hg
    · rw [← HMM.out]; exact Hm10.out.kp
    · rw [← HMM.out]
      rintro i (rfl | rfl | e | e | e | e)
      · exact .inl HMb.out.1
      · exact .inl HMb.out.2.1
      · exact Hn1.out i e
      · exact Hn2.out i e
      · exact Hn3.out i e
      · exact .inl (HMb.out.2.2.2.2 i e)
end Go.Proofs.YtcmlmjbpdaecbaaGreat
