/- Part. -/
import Derived.Test.YtbiopedpceddeaaGreatDoorQz18
set_option linter.unusedVariables false
set_option linter.unusedSimpArgs false
set_option maxRecDepth 100000
set_option maxHeartbeats 16000000
namespace Go.Proofs.YtbiopedpceddeaaGreatDoor
section
open Go.RowKit Go.Maps Go.Lib
namespace KT
theorem own_word {w : World} {A : Option Addr} {c n : Nat} {ws : List (List UInt8)} (h : OwnAt w 9 1 (.slice A n c) n (ss ws)) {j : Nat} {x : List UInt8} (hx : ws[j]? = some x) : ∃ g off, A = some ⟨g, off, none⟩ ∧ w.cell? ⟨g, off + j, none⟩ = some (.string ⟨x.toArray⟩) ∧ ∃ cur, w.heap[g]? = some (.cells cur 9 (0, 0)) := by
 have hj := (List.getElem?_eq_some_iff.1 hx).1
 have hl := h.1
 unfold ss at hl
 rw [List.length_map] at hl
 rcases h.2 with ⟨e, h0⟩ | ⟨g, off, cap, cur, e, hg, q1, q2, q3, q4⟩
 · omega
 · cases e
   refine ⟨g, off, rfl, ?_, cur, hg⟩
   rw [cell_of_row _ _ _ _ _ (0, 0) hg]
   exact q4 j _ (by simp [ss, hx])
theorem words_fra {gr : Nat} {w w' : World} {v : Value} {n : Nat} {ws : List (List UInt8)} (h : OwnAt w 9 1 v n (ss ws)) (hg : ∀ g, v.ownBlock = some g → g ≠ gr) (hf : Fra gr w w') : OwnAt w' 9 1 v n (ss ws) := by
 refine h.same fun g e => hf g (h.lt g e) (hg g e) fun cur T fr hc => ?_
 rcases h.2 with ⟨rfl, _⟩ | ⟨g', off, cap, cur', rfl, hc', _⟩
 · simp [Value.ownBlock] at e
 · simp [Value.ownBlock] at e
   subst e
   rw [ty_of hc hc']
   exact ⟨by decide, by decide⟩
theorem fieldsR_len (s : List UInt8) : 5 ≤ (fieldsR s).length := by
 have := pcs_ne 46 s
 unfold fieldsR
 rw [List.length_append, List.length_map]
 have : 1 ≤ (pcs 46 s).length := List.length_pos_iff.2 this
 simp only [List.length_cons, List.length_nil]
 omega
def ReadPost (W : World) (t : List UInt8) (e : Ending) (w' : World) : Prop :=
 ∃ v1 v2 v3, e = .returned (.agg #[v1, v2, v3]) ∧ OwnRl W.heap.size w' v1 v2 v3 (candR t) ∧ Below W.heap.size W w'
theorem own_ne {w : World} {T : TypeId} {s n gr : Nat} {v : Value} {xs : List Value} {c1 : Array Value} {T1 : TypeId} {f1 : Nat × Nat} (h : OwnAt w T s v n xs) (hr : w.heap[gr]? = some (.cells c1 T1 f1)) (hT : T ≠ T1) : ∀ g, v.ownBlock = some g → g ≠ gr := by
 intro g e
 rcases h.2 with ⟨rfl, _⟩ | ⟨g', off, cap, cur', rfl, hc', _⟩
 · simp [Value.ownBlock] at e
 · simp [Value.ownBlock] at e
   subst e
   exact RF.row_ne hc' hr hT
theorem rread_any {t : List UInt8} (ht : t.length ≤ 900000) {W : World} :
 Calls Tryz.prog 78 #[.string ⟨t.toArray⟩] W (ReadPost W t) := by
 obtain ⟨W1, hW1⟩ : ∃ W1, W1 = (W.alloc (.cells #[.slice none 0 0, .slice none 0 0, .slice none 0 0] 33)).alloc (.cells #[.slice none 0 0, .slice none 0 0, .slice none 0 0] 33) := ⟨_, rfl⟩
 have hb1 : Below W.heap.size W W1 := by rw [hW1]; exact (al0).alloc (by simp) _
 have hr1 : W1.heap[W.heap.size]? = some (.cells #[.slice none 0 0, .slice none 0 0, .slice none 0 0] 33 (0, 0)) := by rw [hW1]; exact row_alloc (heap_alloc_new W _) _
 have hr2 : W1.heap[W.heap.size + 1]? = some (.cells #[.slice none 0 0, .slice none 0 0, .slice none 0 0] 33 (0, 0)) := by rw [hW1]; exact new_two W _ _
 obtain ⟨gr, hgr⟩ : ∃ gr, gr = W.heap.size + 1 := ⟨_, rfl⟩
 rw [← hgr] at hr2
 have HR1 := kH (show RdSt W.heap.size gr (.slice none 0 0) (.slice none 0 0) (.slice none 0 0) ⟨[], [], []⟩ W W1 from ⟨by omega, hr2, OwnRl.nil_ _ _, fun g e => by simp [Value.ownBlock] at e, hb1⟩)
 have Hg2 := kH hr1
 have HC := kH (show Calls Tryz.prog 140 #[.string ⟨t.toArray⟩, .int .u8 32] W1 fun e w' => ∃ v, e = .returned v ∧ WS W1 w' v (pcs 32 t).length (pcs 32 t) from rcut_any (c := 32) (by omega))
 obtain ⟨ws, hws⟩ : ∃ ws, ws = pcs 32 t := ⟨_, rfl⟩
 have Hsz := kH (show ws.length ≤ 900001 ∧ ∀ x ∈ ws, x.length ≤ 900000 from by
  rw [hws]
  obtain ⟨h1, h2⟩ := pcs_size 32 t
  exact ⟨by omega, fun x hx => Nat.le_trans (h2 x hx) ht⟩)
 have Hcand := kH (show candR t = (ws.foldl stepR (0, ⟨[], [], []⟩)).2 from by rw [hws]; rfl)
 rw [← hws] at HC
 have HW1 := kH hW1
 have Hgr := kH hgr
 clear hb1 hr1 hr2 hws hW1
 go_enter Tryz.func78, Tryz.ntmps78
 go_upto_region 2 with (fail)
 rw [← HW1.out, ← Hgr.out]
 clear hgr
 go_wp2_with fail
 (refine HC.out.mono ?_)
 rintro e w2 ⟨v, rfl, hws⟩
 obtain ⟨Aw, cw, ev⟩ := hws.o.form
 subst ev
 obtain ⟨n, hn⟩ : ∃ n, n = ws.length := ⟨_, rfl⟩
 have HR2 := kH (HR1.out.below HR1.out.b.size hws.b)
 have Hg22 := kH ((hws.b.block _ (gA Hg2.out).1).trans Hg2.out)
 have Hwd := kH hws.o
 have Hn := kH hn
 rw [← hn] at Hwd ⊢
 have hnn : n ≤ 900001 := by rw [hn]; exact Hsz.out.1
 clear hws HC hn
 go_wp2_with fail
 go_loopg [4, 6] (n + 1) (fun gg s4 s6 wr => ∃ (j : Nat) (pt : Int) (q : R.Rl) (vl vr vp : Value), j ≤ n ∧ s4 = .int .i64 pt ∧ s6 = .int .i64 (j : Int) ∧ gg + j = n + 1 ∧ 0 ≤ pt ∧ pt ≤ j ∧ Hid ((ws.take j).foldl stepR (0, ⟨[], [], []⟩) = (pt, q)) ∧ Hid (RdSt W.heap.size gr vl vr vp q W wr) ∧ Hid (wr.heap[W.heap.size]? = some (.cells #[.slice none 0 0, .slice none 0 0, .slice none 0 0] 33 (0, 0))) ∧ Hid (OwnAt wr 9 1 (.slice Aw n cw) n (ss ws)) ∧ q.left.length ≤ j ∧ q.right.length ≤ j ∧ q.pre.length ≤ j)
 case atStart => exact ⟨0, 0, _, _, _, _, Nat.zero_le _, rfl, rfl, rfl, by omega, by omega, kH rfl, HR2, Hg22, Hwd, by simp, by simp, by simp⟩
 case round =>
  obtain ⟨gO, rfl⟩ : ∃ g, g = gk := ⟨_, rfl⟩
  obtain ⟨j, pt, q, vl, vr, vp, hj, rfl, rfl, hgk, hp0, hpj, Hq, HR, Hg2, Hwd, hll, hlr, hlp⟩ := hrel
  have Hgk := kH hgk
  clear hgk
  have hB0 := HR.out.b.size
  by_cases hjn : j < n
  · obtain ⟨x, hxe⟩ : ∃ x, ws[j]? = some x := ⟨_, List.getElem?_eq_getElem (by have := Hn.out; omega)⟩
    obtain ⟨gw, ow, rfl, hc, _⟩ := own_word Hwd.out hxe
    have Hx := kH hxe
    have Hxl := kH (Hsz.out.2 x (List.mem_of_getElem? hxe))
    have Hq1 := kH (show (ws.take (j + 1)).foldl stepR (0, ⟨[], [], []⟩) = stepR (pt, q) x from by
     rw [List.take_add_one, hxe, List.foldl_append, Hq.out]
     rfl)
    clear hxe
    by_cases ha : x = arrow ∨ x = iff_
    · have Hst := kH (show stepR (pt, q) x = (pt + 1, q) from by unfold stepR; rw [if_pos ha])
      have goal1 := kH (show (ws.take (j + 1)).foldl stepR (0, ⟨[], [], []⟩) = (pt + 1, q) from Hq1.out.trans Hst.out)
      rcases ha with rfl | rfl
      · unfold arrow at hc
        go_wp2_with fail
        go_roundg (gO - 1)
        case measure => have := Hgk.out; omega
        case rel =>
         have := Hgk.out
         exact ⟨j + 1, pt + 1, q, vl, vr, vp, by omega, by go_num, by go_num, by omega, by omega, by omega, goal1, HR, Hg2, Hwd, by omega, by omega, by omega⟩
      · unfold iff_ at hc
        go_wp2_with fail
        go_roundg (gO - 1)
        case measure => have := Hgk.out; omega
        case rel =>
         have := Hgk.out
         exact ⟨j + 1, pt + 1, q, vl, vr, vp, by omega, by go_num, by go_num, by omega, by omega, by omega, goal1, HR, Hg2, Hwd, by omega, by omega, by omega⟩
    · have hna : ¬ x = [61, 62] := fun e => ha (.inl e)
      have hni : ¬ x = [105, 102] := fun e => ha (.inr e)
      have qa : (x == [61, 62]) = false := by simpa using hna
      have qi : (x == [105, 102]) = false := by simpa using hni
      have Hst := kH (show stepR (pt, q) x = if pt = 2 then (pt, { q with pre := q.pre ++ [condR x] }) else if pt = 0 then (pt, { q with left := q.left ++ [nodeR x] }) else if pt = 1 then (pt, { q with right := q.right ++ [nodeR x] }) else (pt, q) from by unfold stepR; rw [if_neg ha])
      obtain ⟨w0, rfl⟩ : ∃ w, w = wr := ⟨_, rfl⟩
      have HC2 := kH (show Calls Tryz.prog 140 #[.string ⟨x.toArray⟩, .int .u8 44] w0 fun e w' => ∃ v, e = .returned v ∧ WS w0 w' v (pcs 44 x).length (pcs 44 x) from rcut_any (c := 44) (by have := Hxl.out; omega))
      obtain ⟨hd, ats, has⟩ : ∃ hd ats, pcs 44 x = hd :: ats := by
       cases h : pcs 44 x with
       | nil => exact absurd h (pcs_ne 44 x)
       | cons a b => exact ⟨a, b, rfl⟩
      have Has := kH (show (∀ y ∈ hd :: ats, y.length ≤ 900000) ∧ ats.length ≤ 900001 from by
       obtain ⟨h1, h2⟩ := pcs_size 44 x
       rw [has] at h1 h2
       have := Hxl.out
       simp only [List.length_cons] at h1
       exact ⟨fun y hy => Nat.le_trans (h2 y hy) (by omega), by omega⟩)
      have Hhd := kH (show condR x = ⟨(fieldsR hd).getD 0 0, (fieldsR hd).getD 1 0, (fieldsR hd).getD 2 0⟩ ∧ nodeR x = ⟨(fieldsR hd).getD 0 0, (fieldsR hd).getD 1 0, (fieldsR hd).getD 2 0, ats.map rnum, (fieldsR hd).getD 3 0⟩ from by
       unfold condR nodeR
       rw [has]
       exact ⟨rfl, rfl⟩)
      rw [has] at HC2
      clear ha hna hni has
      go_wp2_with fail
      (refine HC2.out.mono ?_)
      rintro e w3 ⟨v, rfl, hwsx⟩
      obtain ⟨Ag, cg, ev⟩ := hwsx.o.form
      subst ev
      obtain ⟨ga, oa, rfl, hca, cura, hga⟩ := own_word hwsx.o (j := 0) (x := hd) rfl
      have Hga := kH (fun (k : Nat) (y : List UInt8) (h : (hd :: ats)[k]? = some y) => (by
       obtain ⟨_, _, e, hc, _⟩ := own_word hwsx.o h
       cases e
       exact hc : w3.cell? ⟨ga, oa + k, none⟩ = some (.string ⟨y.toArray⟩)))
      have Hga2 := kH (gA hga).1
      have Hb3 := kH hwsx.b
      have HF := kH (rfields_any (t := hd) (by have := Has.out.1 hd (by simp); omega) (W := w3))
      rw [Nat.add_zero] at hca
      clear HC2 hwsx hga
      go_wp2_with fail
      (refine HF.out.mono ?_)
      rintro e w4 ⟨v, rfl, hown, hb4, hnw⟩
      obtain ⟨Av, cv, ev⟩ := hown.form
      subst ev
      obtain ⟨a0, ha0⟩ : ∃ a, a = (fieldsR hd).getD 0 0 := ⟨_, rfl⟩
      obtain ⟨a1, ha1⟩ : ∃ a, a = (fieldsR hd).getD 1 0 := ⟨_, rfl⟩
      obtain ⟨a2, ha2⟩ : ∃ a, a = (fieldsR hd).getD 2 0 := ⟨_, rfl⟩
      obtain ⟨a3, ha3⟩ : ∃ a, a = (fieldsR hd).getD 3 0 := ⟨_, rfl⟩
      have hpl := fieldsR_len hd
      obtain ⟨gv, ov, rfl, k0, curv, hgv⟩ := own_cellr hown (getD_some (show 0 < _ by omega))
      obtain ⟨_, _, e, k1, _⟩ := own_cellr hown (getD_some (show 1 < _ by omega))
      cases e
      obtain ⟨_, _, e, k2, _⟩ := own_cellr hown (getD_some (show 2 < _ by omega))
      cases e
      obtain ⟨_, _, e, k3, _⟩ := own_cellr hown (getD_some (show 3 < _ by omega))
      cases e
      have ha2r := fields_u hd 2
      have ha3r := fields_u hd 3
      rw [← ha0] at k0
      rw [← ha1] at k1
      rw [← ha2] at k2 ha2r
      rw [← ha3] at k3 ha3r
      rw [← ha0, ← ha1, ← ha2, ← ha3] at Hhd
      obtain ⟨nf, hnf⟩ : ∃ nf, nf = (fieldsR hd).length := ⟨_, rfl⟩
      have hnf5 : 5 ≤ nf := by omega
      have hn0 : 0 < nf := by omega
      have hn1 : (1 : Int) < (nf : Int) := by omega
      have hn2 : (2 : Int) < (nf : Int) := by omega
      have hn3 : (3 : Int) < (nf : Int) := by omega
      rw [← hnf]
      have Hbb := kH (Hb3.out.trans (hb4.mono Hb3.out.size))
      have Hg4 := kH (fun (k : Nat) (y : List UInt8) (h : (hd :: ats)[k]? = some y) => ((hb4.cell (p := ⟨ga, oa + k, none⟩) Hga2.out).trans (Hga.out k y h) : w4.cell? ⟨ga, oa + k, none⟩ = some (.string ⟨y.toArray⟩)))
      have Hg42 := kH (show ga < w4.heap.size from Nat.lt_of_lt_of_le Hga2.out hb4.size)
      have HR4 := kH (HR.out.below HR.out.b.size Hbb.out)
      have Hw4 := kH (Hwd.out.below Hbb.out Hwd.out.lt)
      have Hr4 := kH ((Hbb.out.block _ (gA Hg2.out).1).trans Hg2.out)
      have Hgv := kH hgv
      have hB := kH HR4.out.b.size
      have Ha2 := kH (show 0 ≤ a2 ∧ a2 < 4294967296 from ha2r)
      have Hu3 := kH (show 0 ≤ a3 ∧ a3 < 4294967296 from ha3r)
      simp only [Nat.add_zero] at k0
      clear hown hb4 hnw hpl ha0 ha1 ha2 ha3 hnf HF ha2r ha3r hgv hca Hga Hga2 HR Hg2 Hwd Hq Hb3
      have Hfin := kH (show ∀ (w' : World), Fra gr w4 w' → w'.heap[W.heap.size]? = some (.cells #[.slice none 0 0, .slice none 0 0, .slice none 0 0] 33 (0, 0)) ∧ OwnAt w' 9 1 (.slice (some ⟨gw, ow, none⟩) n cw) n (ss ws) from fun w' hf => ⟨(hf W.heap.size (gA Hr4.out).1 (by have := Hgr.out; omega) fun cur T fr hc => by rw [ty_of hc Hr4.out]; exact ⟨by decide, by decide⟩).trans Hr4.out, words_fra Hw4.out (own_ne Hw4.out HR4.out.row (by decide)) hf⟩)
      by_cases hp2 : pt = 2
      · have Hst2 := kH (show stepR (pt, q) x = (pt, { q with pre := q.pre ++ [condR x] }) from by rw [Hst.out, if_pos hp2])
        clear Hst
        subst hp2
        obtain ⟨Ap, cp, hv⟩ := HR4.out.own.op.form
        subst hv
        have HR := kH HR4.out
        obtain ⟨np, hnp⟩ : ∃ np, np = q.pre.length := ⟨_, rfl⟩
        have Hnp := kH hnp.symm
        have hnb : np + 1 ≤ 1000000000 := by omega
        rw [← hnp] at HR
        have hwr : IntKind.u32.wrap a2 = a2 := by rw [IntKind.wrap_u32]; have := Ha2.out; omega
        clear hnp HR4 k3
        go_wp2_with fail
        have HS := kH (show ∀ Y : World, Y.heap[gr]? = (w4).heap[gr]? → Y.heap[gv]? = (w4).heap[gv]? → Y.cell? ⟨gr, 2, none⟩ = some (.slice Ap np cp) ∧ Y.cell? ⟨gv, ov, none⟩ = some (.int .i64 a0) ∧ Y.cell? ⟨gv, ov + 1, none⟩ = some (.int .i64 a1) ∧ Y.cell? ⟨gv, ov + 2, none⟩ = some (.int .i64 a2) from fun Y h1 h2 => by
         obtain ⟨_, _, n2, _⟩ := rl_cells (h1.trans HR.out.row)
         refine ⟨n2, ?_, ?_, ?_⟩
         · unfold World.cell? at k0 ⊢; rw [h2]; exact k0
         · unfold World.cell? at k1 ⊢; rw [h2]; exact k1
         · unfold World.cell? at k2 ⊢; rw [h2]; exact k2)
        obtain ⟨us, ho, hcr, hlo⟩ := HR.out.own.op
        rw [Hnp.out] at ho
        have Hus := kH (show us.length = q.pre.length * 3 from by rw [Hnp.out]; exact ho.1)
        have Ho := kH ho
        have Hcr := kH hcr
        clear ho hcr hlo k0 k1 k2
        refine wp_region_split 16 (by kernel_rfl) (by kernel_rfl) ?_
        simp only [List.take_succ_cons, List.take_zero]
        refine wpAny_of_held (S := fun Y => Y.cell? ⟨gr, 2, none⟩ = some (.slice Ap np cp) ∧ Y.cell? ⟨gv, ov, none⟩ = some (.int .i64 a0) ∧ Y.cell? ⟨gv, ov + 1, none⟩ = some (.int .i64 a1) ∧ Y.cell? ⟨gv, ov + 2, none⟩ = some (.int .i64 a2)) _ _ _ _ ?_
        have hHeld := HS.out (w4).drew rfl rfl
        refine tk 0 ?_ hHeld (fun Y hY => ?_) ?_
        rotate_left
        · (go_simp) <;> with_reducible rfl
        try simp only [Act.put, yL]
        refine tk 1 ?_ hHeld (fun Y hY => ?_) ?_
        rotate_left
        · obtain ⟨y0, y1, y2, y3⟩ := hY
          (go_simp) <;> with_reducible rfl
        try simp only [Act.put, yL]
        refine tk 2 ?_ hHeld (fun Y hY => ?_) ?_
        rotate_left
        · (go_simp) <;> with_reducible rfl
        try simp only [Act.put, yL]
        refine tk 3 ?_ hHeld (fun Y hY => ?_) ?_
        rotate_left
        · (go_simp) <;> with_reducible rfl
        try simp only [Act.put, yL]
        refine tk 4 ?_ hHeld (fun Y hY => ?_) ?_
        rotate_left
        · obtain ⟨y0, y1, y2, y3⟩ := hY
          (go_simp) <;> with_reducible rfl
        try simp only [Act.put, yL]
        refine tk 5 ?_ hHeld (fun Y hY => ?_) ?_
        rotate_left
        · (go_simp) <;> with_reducible rfl
        try simp only [Act.put, yL]
        refine tk 6 ?_ hHeld (fun Y hY => ?_) ?_
        rotate_left
        · (go_simp) <;> with_reducible rfl
        try simp only [Act.put, yL]
        refine tk 7 ?_ hHeld (fun Y hY => ?_) ?_
        rotate_left
        · obtain ⟨y0, y1, y2, y3⟩ := hY
          (go_simp) <;> with_reducible rfl
        try simp only [Act.put, yL]
        refine tk 8 ?_ hHeld (fun Y hY => ?_) ?_
        rotate_left
        · (go_simp) <;> with_reducible rfl
        try simp only [Act.put, yL]
        refine tk 9 ?_ hHeld (fun Y hY => ?_) ?_
        rotate_left
        · (go_simp) <;> with_reducible rfl
        try simp only [Act.put, yL]
        refine tk 10 ?_ hHeld (fun Y hY => ?_) ?_
        rotate_left
        · obtain ⟨y0, y1, y2, y3⟩ := hY
          (go_simp) <;> with_reducible rfl
        try simp only [Act.put, yL]
        refine tk 11 ?_ hHeld (fun Y hY => ?_) ?_
        rotate_left
        · (go_simp) <;> with_reducible rfl
        try simp only [Act.put, yL]
        refine tk 12 ?_ hHeld (fun Y hY => ?_) ?_
        rotate_left
        · (go_simp) <;> with_reducible rfl
        try simp only [Act.put, yL]
        refine rd 13 (fun KK hKK => ?_)
        clear hHeld
        go_simp
        obtain ⟨x2, hx2⟩ : ∃ x2, x2 = ((w4).alloc (.cells #[.int .i64 a0, .int .i64 a1, .int .u32 a2] 88)).drew := ⟨_, rfl⟩
        first | rw [← hx2] | (simp only [← hx2])
        have Hx2 := kH (show Below (w4).heap.size (w4) x2 from by rw [hx2]; exact (al0).drew)
        have Hsz2 := kH (show x2.heap.size = (w4).heap.size + 1 from by rw [hx2]; simp)
        have Hsrc := kH (show ∀ q u, [Value.int .i64 a0, .int .i64 a1, .int .u32 a2][q]? = some u → ∃ ad : Addr, (some (⟨(w4).heap.size, 0, none⟩ : Addr)) = some ad ∧ x2.cell? (ad.add q) = some u from by rw [hx2]; exact src_new (w4) [.int .i64 a0, .int .i64 a1, .int .u32 a2] _)
        clear hx2
        refine hKK.out _ _ (HS.out _ (Hx2.out.block _ HR.out.lt) (Hx2.out.block _ (gA Hgv.out).1)) (fun hHeld => ?_)
        clear hKK KK
        try simp only [Act.put, yL]
        refine rd 14 (fun KK hKK => ?_)
        clear hHeld
        refine step_append_src x2 rfl (.tmp 41) (.tmp 53) 31 rfl 88 (.agg #[.int .i64 0, .int .i64 0, .int .u32 0]) 3 24 Tryz.underlying31 RF.infoCd rfl (by decide) (.slice Ap np cp) np us rfl (Ho.out.below Hx2.out Ho.out.lt) (some ⟨(w4).heap.size, 0, none⟩) 1 1 [.int .i64 a0, .int .i64 a1, .int .u32 a2] rfl rfl Hsrc.out (by simp [Value.oneCell']) hnb (by decide) ?_
        intro v6 w6 hown6 hgr6 hat6
        have hk6 : w6.heap[gv]? = (w4).heap[gv]? := (hgr6.block gv (Nat.lt_of_lt_of_le (gA Hgv.out).1 Hx2.out.size) (fun e => by
         obtain ⟨cur, hc⟩ := RF.ownC_ty (HR.out.own.op.below Hx2.out) e.symm
         have := ty_of ((Hx2.out.block _ (gA Hgv.out).1).trans Hgv.out) hc
         exact absurd this (by decide))).trans (Hx2.out.block _ (gA Hgv.out).1)
        obtain ⟨A6, c6, rfl⟩ := hown6.form
        obtain ⟨g0, G1, G2⟩ := HR.out.cond (w' := w6) (y := ⟨a0, a1, a2⟩) hB.out Hx2.out Hus.out (fun k y h => Hcr.out k y h) (by rw [Hnp.out]; exact hown6) Ha2.out hgr6 (by
         rcases hat6 with e | e
         · exact .inl e
         · exact .inr ⟨_, e, Hx2.out.size⟩)
        refine hKK.out _ _ (HS.out w6 (g0.trans HR.out.row.symm) hk6) (fun hHeld => ?_)
        clear hKK KK
        try simp only [Act.put, yL]
        have HR6 := kH G1
        have HF6 := kH G2
        obtain ⟨z0, z1, z2, zf⟩ := rl_cells g0
        have zf2 := zf 2
        clear zf G1 G2 hk6 g0 hown6 hgr6 hat6
        refine tk 15 ?_ hHeld (fun Y hY => ?_) ?_
        rotate_left
        · (go_simp) <;> with_reducible rfl
        try simp only [Act.put, yL]
        refine wpAnyH_done (by kernel_rfl) ?_ _
        clear hHeld
        obtain ⟨w8, hw8⟩ : ∃ w8, w8 = w6.setCell ⟨gr, 2, none⟩ (.slice A6 (np + 1) c6) := ⟨_, rfl⟩
        rw [← hw8] at HR6 HF6
        go_upto_region 6 with (fail)
        rw [← hw8]
        clear hw8 z0 z1 z2 zf2
        go_wp2_with fail
        go_roundg (gO - 1)
        case measure => have := Hgk.out; omega
        case rel =>
         have := Hgk.out
         obtain ⟨f1, f2⟩ := Hfin.out _ HF6.out
         refine ⟨j + 1, 2, _, vl, vr, _, by omega, rfl, by go_num, by omega, by omega, by omega, kH ?_, HR6, kH f1, kH f2, by show q.left.length ≤ _; omega, by show q.right.length ≤ _; omega, ?_⟩
         · rw [Hq1.out, Hst2.out, Hhd.out.1]
         · have := Hnp.out
           show (q.pre ++ _).length ≤ _
           rw [List.length_append, List.length_singleton]
           omega
      · have Hst3 := kH (fun (h0 : pt = 0) => (by rw [Hst.out, if_neg hp2, if_pos h0] : stepR (pt, q) x = (pt, { q with left := q.left ++ [nodeR x] })))
        have Hst4 := kH (fun (h0 : ¬ pt = 0) (h1 : pt = 1) => (by rw [Hst.out, if_neg hp2, if_neg h0, if_pos h1] : stepR (pt, q) x = (pt, { q with right := q.right ++ [nodeR x] })))
        have Hst5 := kH (fun (h0 : ¬ pt = 0) (h1 : ¬ pt = 1) => (by rw [Hst.out, if_neg hp2, if_neg h0, if_neg h1] : stepR (pt, q) x = (pt, q)))
        clear Hst
        have qp2 : (pt == 2) = false := by simpa using hp2
        have hwr : IntKind.u32.wrap a3 = a3 := by rw [IntKind.wrap_u32]; have := Hu3.out; omega
        go_wp2_with fail
        clear qp2
        refine wp_region_fr 14 1 (.cells #[.int .i64 0, .int .i64 0, .int .i64 0, .slice none 0 0, .int .u32 0] 62) ?af (by kernel_rfl) (by kernel_rfl) (by kernel_rfl) (by kernel_rfl) ?_ ?_ ?_
        rotate_left
        · intro i h1 h2
          obtain rfl : i = 14 := by omega
          exact ⟨_, rfl, rfl, fun ρ w => by go_simp⟩
        · intro X hX ov
          have c0 := ov.cell ((hX.cell (p := ⟨_, _, none⟩) (cell_below k0)).trans k0)
          have c1 := ov.cell ((hX.cell (p := ⟨_, _, none⟩) (cell_below k1)).trans k1)
          have c2 := ov.cell ((hX.cell (p := ⟨_, _, none⟩) (cell_below k2)).trans k2)
          have c3 := ov.cell ((hX.cell (p := ⟨_, _, none⟩) (cell_below k3)).trans k3)
          simp only [Nat.reduceAdd, List.take_succ_cons, List.take_zero]
          repeat (go_big_quiet_step (fail))
          refine wpQuiet_nil ?_
          rfl
        intro g w5 hb5 hrow hne
        obtain ⟨hg1, r1⟩ := hrow 14 (by omega) (by omega)
        simp only [List.range, List.range.loop, List.foldl_cons, List.foldl_nil, Nat.reduceAdd, Nat.add_zero]
        clear hrow hne
        generalize g 14 = gx at *
        obtain ⟨p0, p1, p2, p3, p4, pf⟩ := cells5f r1
        have pf0 := pf 0
        have pf1 := pf 1
        have pf2 := pf 2
        have pf3 := pf 3
        have pf4 := pf 4
        clear pf g k0 k1 k2 k3
        simp only [Nat.reduceAdd, List.drop_succ_cons, List.drop_zero, Rg.dst, Act.put]
        obtain ⟨w7, hw7⟩ : ∃ w7, w7 = set5 w5 gx (.int .i64 a0) (.int .i64 a1) (.int .i64 a2) (.slice none 0 0) (.int .u32 a3) := ⟨_, rfl⟩
        have Hgx := kH hg1
        have Hrx := kH (show w7.heap[gx]? = some (.cells #[.int .i64 a0, .int .i64 a1, .int .i64 a2, .slice none 0 0, .int .u32 a3] 62 (0, 0)) from by rw [hw7]; exact set5_row _ _ _ _ _ r1)
        have Hb7 := kH (show Below (w4).heap.size (w4) w7 from by rw [hw7]; exact set5_below _ _ _ _ _ hb5 hg1)
        clear hg1 r1 hb5
        unfold set5 at hw7
        go_upto_region 15 with (fail)
        rw [← hw7]
        clear hw7 p0 p1 p2 p3 p4 pf0 pf1 pf2 pf3 pf4
        have Hgx4 := kH (show w4.heap.size ≤ gx from Hgx.out)
        have Hgl := kH (gA Hrx.out).1
        go_wp2_with fail
        go_loopg [11] (ats.length + 1) (fun gg s11 wr => ∃ (jj : Nat) (va : Value), jj ≤ ats.length ∧ s11 = .int .i64 ((jj : Int) + 1) ∧ gg + jj = ats.length + 1 ∧ Hid (wr.heap[gx]? = some (.cells #[.int .i64 a0, .int .i64 a1, .int .i64 a2, va, .int .u32 a3] 62 (0, 0))) ∧ Hid (OwnAt wr 3 1 va jj (((ats.take jj).map rnum).map (Value.int .i64))) ∧ Hid (∀ g, va.ownBlock = some g → w7.heap.size ≤ g) ∧ Hid (Kpm (fun i => i = gx) w7 wr))
        case atStart => exact ⟨0, _, Nat.zero_le _, rfl, by omega, Hrx, kH (OwnAt.nil_ _ _ _), kH (fun g hg => by simp [Value.ownBlock] at hg), kH (Kpm.refl _ _)⟩
        case round =>
         obtain ⟨jj, va, hj2, rfl, hgk, Hrow, Ho, Hvo, Hkp⟩ := hrel
         have Hgk2 := kH hgk
         clear hgk
         obtain ⟨Ax, cx, hv⟩ := Ho.out.form
         subst hv
         have Hsz2 := kH Hkp.out.size
         have HbR := kH (show Below w4.heap.size w4 wr from Hb7.out.trans (Hkp.out.below Hb7.out.size (fun i (hi : i = gx) => by have := Hgx4.out; omega)))
         by_cases hjm : jj < ats.length
         · obtain ⟨y, hye⟩ : ∃ y, ats[jj]? = some y := ⟨_, List.getElem?_eq_getElem hjm⟩
           have hcy := Hg4.out (jj + 1) y (by simpa using hye)
           have hcy7 := (Hb7.out.cell (p := ⟨ga, oa + (jj + 1), none⟩) Hg42.out).trans hcy
           have hcyr : wr.cell? ⟨ga, oa + (jj + 1), none⟩ = some (.string ⟨y.toArray⟩) := (HbR.out.cell (p := ⟨ga, oa + (jj + 1), none⟩) Hg42.out).trans hcy
           have Hcyr := kH hcyr
           have HyE := kH hye
           have Hyl := kH (Has.out.1 y (by simp [List.mem_of_getElem? hye]))
           have HN := kH (show ∀ Y, Below wr.heap.size wr Y → Calls Tryz.prog 142 #[.string ⟨y.toArray⟩] Y fun e w' => e = .returned (.int .i64 (rnum y)) ∧ Below Y.heap.size Y w' from fun Y hY => (rnumber_any (t := y) (by have := Hyl.out; omega) (W := Y)).mono fun e w' ⟨h1, h2⟩ => ⟨h1, by rw [← h2]; exact Below.refl _ _⟩)
           have HS := kH (show ∀ Y, Below w7.heap.size wr Y → Y.cell? ⟨gx, 3, none⟩ = some (.slice Ax jj cx) ∧ Y.cell? ⟨ga, oa + (jj + 1), none⟩ = some (.string ⟨y.toArray⟩) from fun Y hY => by
            obtain ⟨_, _, _, n3, _⟩ := cells5' ((hY.block gx Hgl.out).trans Hrow.out)
            exact ⟨n3, (hY.cell (p := ⟨ga, oa + (jj + 1), none⟩) (Nat.lt_of_lt_of_le Hg42.out Hb7.out.size)).trans Hcyr.out⟩)
           have hjb : jj + 1 ≤ 1000000000 := by have := Has.out.2; omega
           have hidx : ((jj : Int) + 1).toNat = jj + 1 := by omega
           have hge : (0 : Int) ≤ (jj : Int) + 1 := by omega
           have Hsz := Hsz2
           clear hcy hcy7 hcyr hye
           go_wp2_with fail
           refine wp_region_split 10 (by kernel_rfl) (by kernel_rfl) ?_
           simp only [List.take_succ_cons, List.take_zero]
           refine wpAny_of_held (S := fun Y => Y.cell? ⟨gx, 3, none⟩ = some (.slice Ax jj cx) ∧ Y.cell? ⟨ga, oa + (jj + 1), none⟩ = some (.string ⟨y.toArray⟩)) _ _ _ _ ?_
           have hHeld := HS.out wr.drew (Below.refl _ _).drew
           refine tk 0 ?_ hHeld (fun Y hY => ?_) ?_
           rotate_left
           · (go_simp) <;> with_reducible rfl
           try simp only [Act.put, yL]
           refine tk 1 ?_ hHeld (fun Y hY => ?_) ?_
           rotate_left
           · obtain ⟨y0, y1⟩ := hY
             (go_simp) <;> with_reducible rfl
           try simp only [Act.put, yL]
           refine tk 2 ?_ hHeld (fun Y hY => ?_) ?_
           rotate_left
           · (go_simp) <;> with_reducible rfl
           try simp only [Act.put, yL]
           refine tk 3 ?_ hHeld (fun Y hY => ?_) ?_
           rotate_left
           · (go_simp) <;> with_reducible rfl
           try simp only [Act.put, yL]
           refine tk 4 ?_ hHeld (fun Y hY => ?_) ?_
           rotate_left
           · (go_simp) <;> with_reducible rfl
           try simp only [Act.put, yL]
           refine tk 5 ?_ hHeld (fun Y hY => ?_) ?_
           rotate_left
           · obtain ⟨y0, y1⟩ := hY
             (go_simp) <;> with_reducible rfl
           try simp only [Act.put, yL]
           refine rd 6 (fun KK hKK => ?_)
           clear hHeld
           go_simp
           (with_reducible refine (HN.out _ (Below.refl _ _).drew).mono ?_)
           rintro e x1 ⟨rfl, hb1⟩
           have Hx1 := kH (show Below wr.heap.size wr x1 from (Below.refl _ _).drew.trans hb1)
           clear hb1
           refine hKK.out _ _ (HS.out _ (Hx1.out.mono Hsz.out)) (fun hHeld => ?_)
           clear hKK KK
           try simp only [Act.put, yL]
           refine rd 7 (fun KK hKK => ?_)
           clear hHeld
           go_simp
           obtain ⟨x2, hx2⟩ : ∃ x2, x2 = x1.alloc (.cells #[.int .i64 (rnum y)] 3) := ⟨_, rfl⟩
           first | rw [← hx2] | (simp only [← hx2])
           have Hx2 := kH (show Below wr.heap.size wr x2 from by rw [hx2]; exact Hx1.out.alloc Hx1.out.size _)
           have Hsz2 := kH (show x2.heap.size = x1.heap.size + 1 from by rw [hx2]; simp)
           have Hsrc := kH (show ∀ q u, [Value.int .i64 (rnum y)][q]? = some u → ∃ ad : Addr, (some (⟨x1.heap.size, 0, none⟩ : Addr)) = some ad ∧ x2.cell? (ad.add q) = some u from by rw [hx2]; exact fun q u hq => ⟨_, rfl, cell_one_new x1 _ _ q u hq⟩)
           clear hx2
           refine hKK.out _ _ (HS.out _ (Hx2.out.mono Hsz.out)) (fun hHeld => ?_)
           clear hKK KK
           try simp only [Act.put, yL]
           refine rd 8 (fun KK hKK => ?_)
           clear hHeld
           refine step_append_src x2 rfl (.tmp 77) (.tmp 83) 60 rfl 3 (.int .i64 0) 1 8 Tryz.underlying60 infoI rfl (by decide) (.slice Ax jj cx) jj _ rfl (Ho.out.below Hx2.out Ho.out.lt) (some ⟨x1.heap.size, 0, none⟩) 1 1 [.int .i64 (rnum y)] rfl rfl Hsrc.out (by simp; rfl) hjb (by decide) ?_
           intro v6 w6 hown6 hgr6 hat6
           have Hb6 := kH (show Below w7.heap.size wr w6 from (Hx2.out.mono Hsz.out).grown hgr6 (Nat.le_trans Hsz.out Hx2.out.size) Hvo.out)
           refine hKK.out _ _ (HS.out w6 Hb6.out) (fun hHeld => ?_)
           clear hKK KK
           try simp only [Act.put, yL]
           obtain ⟨A6, c6, rfl⟩ := hown6.form
           have Hv6 := kH (show ∀ g, (Value.slice A6 (jj + 1) c6).ownBlock = some g → w7.heap.size ≤ g from fun g hg => by
            rcases hat6 with e | e
            · rw [e] at hg; exact Hvo.out g hg
            · rw [e] at hg
              injection hg with hg
              have h1 := Hsz.out
              have h2 := Hx2.out.size
              omega)
           have hr6 := (Hb6.out.block gx Hgl.out).trans Hrow.out
           obtain ⟨_, _, _, n3, _, nf⟩ := cells5f hr6
           have nf3 := nf 3
           have Hr7 := kH (show (w6.setCell ⟨gx, 3, none⟩ (.slice A6 (jj + 1) c6)).heap[gx]? = some (.cells #[.int .i64 a0, .int .i64 a1, .int .i64 a2, .slice A6 (jj + 1) c6, .int .u32 a3] 62 (0, 0)) from by
            have := heap_setCell_same w6 gx 3 _ _ (.slice A6 (jj + 1) c6) hr6
            rw [this]
            rfl)
           have Hown7 := kH (hown6.setCell (p := ⟨gx, 3, none⟩) (fun e => by have h1 : w7.heap.size ≤ gx := Hv6.out _ e; have h2 := Hgl.out; omega) (.slice A6 (jj + 1) c6))
           have Hk7 := kH (show Kpm (fun i => i = gx) w7 (w6.setCell ⟨gx, 3, none⟩ (.slice A6 (jj + 1) c6)) from (Hkp.out.trans (Kpm.of_belowN Hb6.out) (fun i hi (h : w7.heap.size ≤ i) => by omega)).setCell (p := ⟨gx, 3, none⟩) (fun _ => rfl) _)
           clear hr6 nf hat6 hown6 hgr6
           refine tk 9 ?_ hHeld (fun Y hY => ?_) ?_
           rotate_left
           · (go_simp) <;> with_reducible rfl
           try simp only [Act.put, yL]
           refine wpAnyH_done (by kernel_rfl) ?_ _
           clear hHeld
           go_wp2
           go_roundg (gk - 1)
           case measure => have := Hgk2.out; omega
           case rel =>
            have := Hgk2.out
            refine ⟨jj + 1, .slice A6 (jj + 1) c6, by omega, by go_num, by omega, Hr7, kH ?_, Hv6, Hk7⟩
            have h := Hown7.out
            rw [List.take_add_one, HyE.out, List.map_append, List.map_append]
            simpa using h
         · obtain rfl : jj = ats.length := by omega
           have HRr := kH (HR4.out.below HR4.out.b.size HbR.out)
           have hbs := HbR.out.size
           have Hwr2 := kH (show ∀ w', Fra gr wr w' → Fra gr w4 w' from fun w' hf i hi hne hT => (hf i (Nat.lt_of_lt_of_le hi HbR.out.size) hne fun cur T fr hc => hT cur T fr (by rw [← HbR.out.block i hi]; exact hc)).trans (HbR.out.block i hi))
           obtain ⟨nx, hnx⟩ : ∃ nx : T.Nd, nx = ⟨a0, a1, a2, ats.map rnum, a3⟩ := ⟨_, rfl⟩
           have Hnx := kH hnx
           have HNd := kH (show NdF W.heap.size wr [.int .i64 a0, .int .i64 a1, .int .i64 a2, .slice Ax ats.length cx, .int .u32 a3] nx from by
            rw [hnx]
            have h := Ho.out
            rw [List.take_length] at h
            refine ⟨Ax, cx, by simp [ndC], by rw [List.length_map]; exact h, Hu3.out.1, Hu3.out.2, fun g hg => ?_⟩
            rw [List.length_map] at hg
            have h1 := Hvo.out g hg
            have h2 := HR4.out.b.size
            have h3 := Hb7.out.size
            omega)
           have Hnr := kH (show nodeR x = nx from by rw [Hhd.out.2, hnx])
           obtain ⟨p0, p1, p2, p3, p4⟩ := cells5' Hrow.out
           obtain ⟨z0, z1, z2, _⟩ := rl_cells HRr.out.row
           have hB2 := HRr.out.b.size
           clear hnx hbs Hrow Ho Hvo Hkp
           by_cases hp0 : pt = 0
           · have Hst2 := kH (Hst3.out hp0)
             clear Hst3 Hst4 Hst5
             subst hp0
             obtain ⟨Al, cl, hv⟩ := HRr.out.own.ol.form
             subst hv
             obtain ⟨nl, hnl⟩ : ∃ nl, nl = q.left.length := ⟨_, rfl⟩
             have Hnl := kH hnl
             rw [← hnl] at HRr z0
             clear hnl
             have hdl : q.left.length ≤ 900000 ∨ 900000 < q.left.length := by omega
             have hdl : q.left.length ≤ 900000 := by omega
             go_wp2_with (at_builtin; go_loud (refine wpList_append_nodeR3 (ndF_rel _) rfl (.tmp 89) (.tmp 91) rfl (.slice Al nl cl) q.left rfl HRr.out.own.ol [.int .i64 a0, .int .i64 a1, .int .i64 a2, .slice Ax ats.length cx, .int .u32 a3] nx HNd.out wr.heap.size rfl rfl hdl hB2 ?_); intro v' w8 hown hgr hat; obtain ⟨A8, c8, e8⟩ := hown.form; rw [List.length_append, List.length_singleton] at e8; subst e8; obtain ⟨g0, G1, G2⟩ := HRr.out.left hB2 ((Below.refl wr.heap.size wr).alloc (Nat.le_refl _) _) hown hgr (by rcases hat with e | e; exact .inl e; exact .inr ⟨_, e, by omega⟩); have HG1 := kH G1; have HG2 := kH G2; obtain ⟨y0, y1, y2, yf⟩ := rl_cells g0; have yf0 := yf 0; clear g0 G1 G2 hown hgr hat yf)
             go_roundg (gO - 1)
             case measure => have := Hgk.out; omega
             case rel =>
              have := Hgk.out
              obtain ⟨f1, f2⟩ := Hfin.out _ (Hwr2.out _ HG2.out)
              refine ⟨j + 1, 0, { q with left := q.left ++ [nx] }, _, vr, vp, by omega, rfl, by go_num, by omega, by omega, by omega, kH ?_, HG1, kH f1, kH f2, ?_, by show q.right.length ≤ _; omega, by show q.pre.length ≤ _; omega⟩
              · rw [Hq1.out, Hst2.out, Hnr.out]
              · show (q.left ++ _).length ≤ _
                rw [List.length_append, List.length_singleton]
                omega
           · by_cases hp1 : pt = 1
             · have Hst2 := kH (Hst4.out hp0 hp1)
               clear Hst3 Hst4 Hst5
               subst hp1
               obtain ⟨Ar, cr, hv⟩ := HRr.out.own.or_.form
               subst hv
               obtain ⟨nr, hnr⟩ : ∃ nr, nr = q.right.length := ⟨_, rfl⟩
               have Hnr2 := kH hnr
               rw [← hnr] at HRr z1
               clear hnr
               have hdl : q.right.length ≤ 900000 := by omega
               go_wp2_with (at_builtin; go_loud (refine wpList_append_nodeR3 (ndF_rel _) rfl (.tmp 97) (.tmp 99) rfl (.slice Ar nr cr) q.right rfl HRr.out.own.or_ [.int .i64 a0, .int .i64 a1, .int .i64 a2, .slice Ax ats.length cx, .int .u32 a3] nx HNd.out wr.heap.size rfl rfl hdl hB2 ?_); intro v' w8 hown hgr hat; obtain ⟨A8, c8, e8⟩ := hown.form; rw [List.length_append, List.length_singleton] at e8; subst e8; obtain ⟨g0, G1, G2⟩ := HRr.out.right hB2 ((Below.refl wr.heap.size wr).alloc (Nat.le_refl _) _) hown hgr (by rcases hat with e | e; exact .inl e; exact .inr ⟨_, e, by omega⟩); have HG1 := kH G1; have HG2 := kH G2; obtain ⟨y0, y1, y2, yf⟩ := rl_cells g0; have yf1 := yf 1; clear g0 G1 G2 hown hgr hat yf)
               go_roundg (gO - 1)
               case measure => have := Hgk.out; omega
               case rel =>
                have := Hgk.out
                obtain ⟨f1, f2⟩ := Hfin.out _ (Hwr2.out _ HG2.out)
                refine ⟨j + 1, 1, { q with right := q.right ++ [nx] }, vl, _, vp, by omega, rfl, by go_num, by omega, by omega, by omega, kH ?_, HG1, kH f1, kH f2, by show q.left.length ≤ _; omega, ?_, by show q.pre.length ≤ _; omega⟩
                · rw [Hq1.out, Hst2.out, Hnr.out]
                · show (q.right ++ _).length ≤ _
                  rw [List.length_append, List.length_singleton]
                  omega
             · have Hst2 := kH (Hst5.out hp0 hp1)
               clear Hst3 Hst4 Hst5
               have qp0 : (pt == 0) = false := by simpa using hp0
               have qp1 : (pt == 1) = false := by simpa using hp1
               go_wp2_with fail
               go_roundg (gO - 1)
               case measure => have := Hgk.out; omega
               case rel =>
                have := Hgk.out
                obtain ⟨f1, f2⟩ := Hfin.out _ (Hwr2.out wr (fun i hi hne hT => rfl))
                refine ⟨j + 1, pt, q, vl, vr, vp, by omega, rfl, by go_num, by omega, by omega, by omega, kH ?_, HRr, kH f1, kH f2, by omega, by omega, by omega⟩
                rw [Hq1.out, Hst2.out]
  · obtain rfl : j = n := by omega
    have HcR := kH (show candR t = q from by
     have h := Hq.out
     rw [List.take_of_length_le (by have := Hn.out; omega)] at h
     rw [Hcand.out, h])
    obtain ⟨Ax1, cx1, e1⟩ := HR.out.own.ol.form
    obtain ⟨Ax2, cx2, e2⟩ := HR.out.own.or_.form
    obtain ⟨Ax3, cx3, e3⟩ := HR.out.own.op.form
    subst e1 e2 e3
    have hrw := HR.out.row
    obtain ⟨z0, z1, z2, _⟩ := rl_cells hrw
    obtain ⟨y0, y1, y2, yf⟩ := rl_cells Hg2.out
    have yf0 := yf 0
    have yf1 := yf 1
    have yf2 := yf 2
    clear yf hrw
    go_wp2_with fail
    (try simp only [Exit.inBlock, Exit.then])
    refine bodyPost_ret (results_cell_row rfl _ _ W.heap.size _ _ (0, 0) _ rfl (set3_row _ _ _ Hg2.out) Tryz.underlying33 rfl (by kernel_rfl)) rfl ?_
    refine ⟨_, _, _, rfl, ?_, set3_below _ _ _ HR.out.b (Nat.le_refl _)⟩
    rw [HcR.out]
    exact HR.out.own.set3 _ _ _ Hg2.out
end KT
end
end Go.Proofs.YtbiopedpceddeaaGreatDoor
