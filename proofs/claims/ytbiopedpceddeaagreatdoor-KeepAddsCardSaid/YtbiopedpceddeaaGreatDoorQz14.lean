/- Part. -/
import Derived.Test.YtbiopedpceddeaaGreatDoorQz13
set_option linter.unusedVariables false
set_option linter.unusedSimpArgs false
set_option maxRecDepth 100000
set_option maxHeartbeats 16000000
namespace Go.Proofs.YtbiopedpceddeaaGreatDoor
section
open Go.RowKit Go.Maps
namespace KT
theorem RowAt.below {W W' : World} {g : Nat} {e : Value × List Int} (h : RowAt W g e) (hb : Below W.heap.size W W') : RowAt W' g e := by
 obtain ⟨A, n, c, h1, h2, h3, h4⟩ := h
 exact ⟨A, n, c, h1, h2, h3.below (monoInt _) hb, h4⟩
theorem RowAt.eq {W : World} {g : Nat} {a b : Value × List Int} (h : RowAt W g a) (k : RowAt W g b) : Calls Tryz.prog 64 #[a.1, b.1] W fun e w' => e = .returned (.bool (decide (a.2 = b.2))) ∧ Below W.heap.size W w' := by
 obtain ⟨A, n, c, h1, _, h3, _⟩ := h
 obtain ⟨A2, n2, c2, k1, _, k3, _⟩ := k
 rw [h1, k1]
 exact (kEqual_any h3 k3).mono fun e w' hh => ⟨hh.1, by obtain ⟨q, rfl⟩ := hh.2; exact (Below.refl _ _).dr ⟨q, rfl⟩⟩
theorem RowAt.grown {W w' : World} {g : Nat} {e : Value × List Int} (h : RowAt W g e) (hg : W.grownBy w' (some g)) : RowAt w' g e := by
 obtain ⟨A, n, c, h1, h2, h3, h4⟩ := h
 exact ⟨A, n, c, h1, h2, h3.kpm (Kpm.grown (M := fun i => i = g) hg (fun x e => by cases e; rfl)) (fun _ b o e => h4 b o e), h4⟩
theorem setCells_row {b : Nat} {T : TypeId} : ∀ (vs : List Value) (o : Nat) (w : World) (cur : Array Value), w.heap[b]? = some (.cells cur T (0, 0)) →
 ∃ cur', (w.setCells b o vs).heap[b]? = some (.cells cur' T (0, 0)) ∧ cur'.size = cur.size ∧ (∀ q, q < o → cur'[q]? = cur[q]?) ∧ w.grownBy (w.setCells b o vs) (some b) := by
 intro vs
 induction vs with
 | nil => intro o w cur h; exact ⟨cur, h, rfl, fun _ _ => rfl, ⟨rfl, rfl, rfl, Nat.le_refl _, fun _ _ _ => rfl⟩⟩
 | cons v vs ih =>
  intro o w cur h
  obtain ⟨cur', h1, h2, h3, h4⟩ := ih (o + 1) (w.setCell ⟨b, o, none⟩ v) (cur.setIfInBounds o v) (heap_setCell_same w b _ _ _ v h)
  refine ⟨cur', h1, by simpa using h2, fun q hq => ?_, ?_⟩
  · rw [h3 q (by omega), Array.getElem?_setIfInBounds, if_neg (by omega)]
  · refine ⟨h4.os, h4.tape, h4.output, by simp, fun k hk hne => ?_⟩
    rw [show w.setCells b o (v :: vs) = (w.setCell ⟨b, o, none⟩ v).setCells b (o + 1) vs from rfl, h4.block k (by simpa using hk) hne]
    exact heap_setCell_other _ _ _ _ (fun e => hne (by rw [e]))
structure CmpI (es : List (Value × List Int)) (W : World) (g off c : Nat) (wr : World) (m : Nat) : Prop where
 row : ∃ cur, wr.heap[g]? = some (.cells cur 60 (0, 0)) ∧ off + c ≤ cur.size ∧ (∀ (q : Nat) e, (compE (es.take m))[q]? = some e → cur[off + q]? = some e.1) ∧ ∀ (q : Nat) e, m ≤ q + 1 → es[q]? = some e → cur[off + q]? = some e.1
 gr : W.grownBy wr (some g)
theorem CmpI.cell {es : List (Value × List Int)} {W : World} {g off c : Nat} {wr : World} {m : Nat} (h : CmpI es W g off c wr m) {q : Nat} {e : Value × List Int} (hq : m ≤ q + 1) (he : es[q]? = some e) : wr.cell? ⟨g, off + q, none⟩ = some e.1 := by
 obtain ⟨cur, h1, _, _, h4⟩ := h.row
 unfold World.cell?
 rw [h1]
 simpa using h4 q e hq he
theorem CmpI.below {es : List (Value × List Int)} {W : World} {g off c : Nat} {wr wr' : World} {m : Nat} (h : CmpI es W g off c wr m) (hg : g < wr.heap.size) (hb : Below wr.heap.size wr wr') : CmpI es W g off c wr' m := by
 obtain ⟨cur, h1, h2, h3, h4⟩ := h.row
 exact ⟨⟨cur, (hb.block g hg).trans h1, h2, h3, h4⟩, ⟨hb.os.trans h.gr.os, hb.tape.trans h.gr.tape, hb.output.trans h.gr.output, Nat.le_trans h.gr.size hb.size, fun k hk hne => (hb.block k (Nat.lt_of_lt_of_le hk h.gr.size)).trans (h.gr.block k hk hne)⟩⟩
theorem CmpI.skip {es : List (Value × List Int)} {W : World} {g off c : Nat} {wr : World} {m : Nat} (h : CmpI es W g off c wr (m + 1)) {a e : Value × List Int} (ha : es[m]? = some a) (he : es[m + 1]? = some e) (hq : e.2 = a.2) : CmpI es W g off c wr (m + 2) := by
 obtain ⟨cur, h1, h2, h3, h4⟩ := h.row
 refine ⟨⟨cur, h1, h2, fun q x hx => ?_, fun q x hq2 hx => h4 q x (by omega) hx⟩, h.gr⟩
 rw [compE_snoc ha he, if_pos hq, List.append_nil] at hx
 exact h3 q x hx
theorem CmpI.move {es : List (Value × List Int)} {W : World} {g off c : Nat} {wr : World} {m : Nat} (h : CmpI es W g off c wr (m + 1)) {a e : Value × List Int} (ha : es[m]? = some a) (he : es[m + 1]? = some e) (hq : e.2 ≠ a.2) (hn : es.length ≤ c) : CmpI es W g off c (wr.setCell ⟨g, off + (compE (es.take (m + 1))).length, none⟩ e.1) (m + 2) := by
 obtain ⟨cur, h1, h2, h3, h4⟩ := h.row
 have hl : (compE (es.take (m + 1))).length ≤ m + 1 := Nat.le_trans (compE_le _) (by rw [List.length_take]; omega)
 have hlen := (List.getElem?_eq_some_iff.1 he).1
 refine ⟨⟨_, heap_setCell_same wr g _ _ _ e.1 h1, by simpa using h2, fun q x hx => ?_, fun q x hq2 hx => ?_⟩, ⟨h.gr.os, h.gr.tape, h.gr.output, by simpa using h.gr.size, fun k hk hne => ?_⟩⟩
 · rw [compE_snoc ha he, if_neg hq] at hx
   by_cases hlt : q < (compE (es.take (m + 1))).length
   · rw [List.getElem?_append_left hlt] at hx
     rw [Array.getElem?_setIfInBounds, if_neg (by omega)]
     exact h3 q x hx
   · rw [List.getElem?_append_right (by omega)] at hx
     have hq0 : q - (compE (es.take (m + 1))).length = 0 := by
      rcases Nat.eq_zero_or_pos (q - (compE (es.take (m + 1))).length) with h | h
      · exact h
      · rw [List.getElem?_eq_none (by simp; omega)] at hx; cases hx
     have hqe : q = (compE (es.take (m + 1))).length := by omega
     have hin : off + q < cur.size := by omega
     rw [hq0] at hx
     simp at hx
     subst hx
     rw [Array.getElem?_setIfInBounds, if_pos (by rw [hqe]), if_pos (by rw [← hqe]; exact hin)]
 · by_cases hql : q = (compE (es.take (m + 1))).length
   · have hqm : q = m + 1 := by omega
     have hin : off + q < cur.size := by omega
     have hxe : x = e := by rw [hqm, he] at hx; cases hx; rfl
     rw [Array.getElem?_setIfInBounds, if_pos (by rw [← hql]), if_pos (by rw [← hql]; exact hin), hxe]
   · rw [Array.getElem?_setIfInBounds, if_neg (by omega)]
     exact h4 q x (by omega) hx
 · rw [heap_setCell_other _ _ _ _ (fun e => hne (by rw [e]))]
   exact h.gr.block k hk hne
theorem kCompact_any {es : List (Value × List Int)} {g off c n : Nat} {W : World} (hn : es.length = n) (hn1 : n ≤ 1000000) (ho : OwnAt W 60 1 (.slice (some ⟨g, off, none⟩) n c) n (es.map Prod.fst)) (hr : ∀ e ∈ es, RowAt W g e) :
 Calls Tryz.prog 63 #[.slice (some ⟨g, off, none⟩) n c, .func (.func 64) #[] #[]] W fun e w' =>
  ∃ c', e = .returned (.slice (some ⟨g, off, none⟩) (compE es).length c') ∧ OwnAt w' 60 1 (.slice (some ⟨g, off, none⟩) (compE es).length c') (compE es).length ((compE es).map Prod.fst) ∧ W.grownBy w' (some g) := by
 rcases ho.2 with ⟨e, h0⟩ | ⟨g', off', cap, cur, e, hc, h1, h2, h3, h4⟩
 · cases e
 injection e with e1 e2 e3
 injection e1 with e1
 injection e1 with e1 e4
 subst e1 e4 e3
 have hgl : g < W.heap.size := (gA hc).1
 have hcell : ∀ j e, es[j]? = some e → W.cell? ⟨g, off + j, none⟩ = some e.1 := fun j e hj => by
  have := h4 j e.1 (by rw [List.getElem?_map, hj]; rfl)
  unfold World.cell?
  rw [hc]
  simpa using this
 have HC0 := kH (show ∃ cur, W.heap[g]? = some (.cells cur 60 (0, 0)) ∧ off + c ≤ cur.size ∧ ∀ (q : Nat) e, es[q]? = some e → cur[off + q]? = some e.1 from ⟨cur, hc, by omega, fun q e hq => h4 q e.1 (by rw [List.getElem?_map, hq]; rfl)⟩)
 have Ho := kH ho
 have Hr := kH hr
 have Hcell := kH hcell
 have Hn := kH hn
 have Hgl := kH hgl
 have h3' := kH h2
 clear h2 h3 h4 hc ho hr hcell hn
 by_cases h2 : n < 2
 · have e : compE es = es := by
    have hn := Hn.out
    match es, hn with
    | [], _ => rfl
    | [a], _ => rfl
    | a :: b :: l, hn => simp at hn; omega
   rw [e]
   go_enter Tryz.func63, Tryz.ntmps63
   go_wp2
   go_ret
   refine ⟨c, ?_, ?_, ⟨rfl, rfl, rfl, Nat.le_refl _, fun _ _ _ => rfl⟩⟩
   · rw [Hn.out]; rfl
   · rw [Hn.out]; exact Ho.out
 · go_enter Tryz.func63, Tryz.ntmps63
   go_wp2
   go_loopg [5] n (fun gg s5 wr => ∃ (j : Nat), j + 1 ≤ n ∧ s5 = .int .i64 ((j : Int) + 1) ∧ gg + j = n ∧ Hid (Below W.heap.size W wr) ∧ Hid (compE (es.take (j + 1)) = es.take (j + 1)))
   case atStart =>
    refine ⟨0, by omega, by go_num, by omega, kH (Below.refl _ _), kH ?_⟩
    have hn := Hn.out
    cases es with
    | nil => rfl
    | cons a l => rfl
   case round =>
    obtain ⟨j, hj, rfl, hgk, Hbw, He⟩ := hrel
    have Hgk := kH hgk
    clear hgk
    by_cases hjn : j + 1 < n
    · have hlen := Hn.out
      obtain ⟨a, ha⟩ : ∃ a, es[j]? = some a := ⟨es[j], List.getElem?_eq_getElem (by omega)⟩
      obtain ⟨b, hb⟩ : ∃ b, es[j + 1]? = some b := ⟨es[j + 1], List.getElem?_eq_getElem (by omega)⟩
      have k0 := (Hbw.out.cell (p := ⟨g, off + j, none⟩) Hgl.out).trans (Hcell.out j a ha)
      have k1 := (Hbw.out.cell (p := ⟨g, off + (j + 1), none⟩) Hgl.out).trans (Hcell.out (j + 1) b hb)
      have Hra := kH ((Hr.out a (List.mem_of_getElem? ha)).below Hbw.out)
      have Hrb := kH ((Hr.out b (List.mem_of_getElem? hb)).below Hbw.out)
      have Ha := kH ha
      have Hb := kH hb
      clear ha hb hlen
      by_cases hab : b.2 = a.2
      · have hq : decide (b.2 = a.2) = true := by simpa using hab
        have Hq := kH hq
        have Hab := kH hab
        clear hq hab
        go_wp2
        obtain ⟨ov⟩ := ov_ex wr
        have o0 := ov.cell k0
        have o1 := ov.cell k1
        have HE := kH (fun u => calls_over (ov := ov) (by have h := RowAt.eq (Hrb.out.below (ov.below u)) (Hra.out.below (ov.below u)); rw [Hq.out] at h; exact h))
        refine wp_region_ovq ov (by kernel_rfl) (by kernel_rfl) ?_
        repeat (go_big_quiet_step ((go_at_call 64; with_reducible exact HE.out _)))
        refine wpQuiet_nil ?_
        rintro _ ⟨u, rfl⟩
        have Hbo := kH (Hbw.out.trans ((ov.below u).mono Hbw.out.size))
        clear o0 o1 k0 k1
        generalize ov.f u = w2 at *
        have Hstart := kH (show CmpI es W g off c w2 (j + 2) from by
         obtain ⟨cur, c1, c2, c3⟩ := HC0.out
         refine ⟨⟨cur, (Hbo.out.block g Hgl.out).trans c1, c2, fun q e hq => c3 q e ?_, fun q e _ he => c3 q e he⟩, ⟨Hbo.out.os, Hbo.out.tape, Hbo.out.output, Hbo.out.size, fun k hk _ => Hbo.out.block k hk⟩⟩
         rw [compE_snoc Ha.out Hb.out, if_pos Hab.out, List.append_nil, He.out, List.getElem?_take] at hq
         split at hq
         · exact hq
         · cases hq)
        have Hlen0 := kH (show (compE (es.take (j + 2))).length = j + 1 from by
         rw [compE_snoc Ha.out Hb.out, if_pos Hab.out, List.append_nil, He.out, List.length_take, Hn.out]
         omega)
        go_wp2
        go_loopg [5, 7] n (fun gg s5 s7 wr => ∃ (i : Nat), 1 ≤ i ∧ j + 1 + i ≤ n ∧ s5 = .int .i64 ((compE (es.take (j + 1 + i))).length : Int) ∧ s7 = .int .i64 (i : Int) ∧ gg + i = n + 1 ∧ Hid (CmpI es W g off c wr (j + 1 + i)) ∧ Hid ((compE (es.take (j + 1 + i))).length ≤ j + i))
        case atStart => exact ⟨1, by omega, by omega, by rw [Hlen0.out]; go_num, by go_num, by omega, Hstart, kH (by rw [Hlen0.out]; exact Nat.le_refl _)⟩
        case round =>
         obtain ⟨i, hi1, hi, rfl, rfl, hgk2, HI, HK⟩ := hrel
         have Hgk2 := kH hgk2
         clear hgk2
         obtain ⟨K, hKe⟩ : ∃ K, (compE (es.take (j + 1 + i))).length = K := ⟨_, rfl⟩
         rw [hKe] at HK ⊢
         have HKe := kH hKe
         clear hKe
         by_cases hin : j + 1 + i < n
         · have hlen := Hn.out
           obtain ⟨a2, ha2⟩ : ∃ a, es[j + i]? = some a := ⟨es[j + i], List.getElem?_eq_getElem (by omega)⟩
           obtain ⟨b2, hb2⟩ : ∃ b, es[j + i + 1]? = some b := ⟨es[j + i + 1], List.getElem?_eq_getElem (by omega)⟩
           have HI1 := kH (show CmpI es W g off c wr (j + i + 1) from by have h := HI.out; rwa [show j + 1 + i = j + i + 1 by omega] at h)
           have k1 : wr.cell? ⟨g, off + (j + 1) + i, none⟩ = some b2.1 := by
            rw [show off + (j + 1) + i = off + (j + i + 1) by omega]
            exact HI1.out.cell (by omega) hb2
           have k0 : wr.cell? ⟨g, off + (j + 1) + (i - 1), none⟩ = some a2.1 := by
            rw [show off + (j + 1) + (i - 1) = off + (j + i) by omega]
            exact HI1.out.cell (by omega) ha2
           have hgw : g < wr.heap.size := Nat.lt_of_lt_of_le Hgl.out HI.out.gr.size
           have Hgw := kH hgw
           have Hra2 := kH ((Hr.out a2 (List.mem_of_getElem? ha2)).grown HI.out.gr)
           have Hrb2 := kH ((Hr.out b2 (List.mem_of_getElem? hb2)).grown HI.out.gr)
           have Ha2 := kH ha2
           have Hb2 := kH hb2
           clear ha2 hb2 hgw
           obtain ⟨i', rfl⟩ : ∃ i', i = i' + 1 := ⟨i - 1, by omega⟩
           rw [show i' + 1 - 1 = i' by omega] at k0
           by_cases hab2 : b2.2 = a2.2
           · have hq2 : decide (b2.2 = a2.2) = true := by simpa using hab2
             have Hq2 := kH hq2
             have Hab2 := kH hab2
             clear hq2 hab2
             go_wp2
             obtain ⟨ov⟩ := ov_ex wr
             have o0 := ov.cell k0
             have o1 := ov.cell k1
             have HE := kH (fun u => calls_over (ov := ov) (by have h := RowAt.eq (Hrb2.out.below (ov.below u)) (Hra2.out.below (ov.below u)); rw [Hq2.out] at h; exact h))
             refine wp_region_ovq ov (by kernel_rfl) (by kernel_rfl) ?_
             repeat (go_big_quiet_step ((go_at_call 64; with_reducible exact HE.out _)))
             refine wpQuiet_nil ?_
             rintro _ ⟨u, rfl⟩
             have HI5 := kH (HI1.out.below Hgw.out (ov.below u))
             clear o0 o1 k0 k1
             generalize ov.f u = w5 at *
             go_wp2
             go_roundg (gk - 1)
             case measure => have := Hgk2.out; omega
             case rel =>
              have := Hgk2.out
              have e5 : (compE (es.take (j + 1 + (i' + 1 + 1)))).length = K := by
               rw [show j + 1 + (i' + 1 + 1) = j + (i' + 1) + 2 by omega, compE_snoc Ha2.out Hb2.out, if_pos Hab2.out, List.append_nil, show j + (i' + 1) + 1 = j + 1 + (i' + 1) by omega]
               exact HKe.out
              refine ⟨i' + 1 + 1, by omega, by omega, by rw [e5], by go_num, by omega, kH ?_, kH (by rw [e5]; have := HK.out; omega)⟩
              rw [show j + 1 + (i' + 1 + 1) = j + (i' + 1) + 2 by omega]
              exact HI5.out.skip Ha2.out Hb2.out Hab2.out
           · have hq2 : decide (b2.2 = a2.2) = false := by simpa using hab2
             have Hq2 := kH hq2
             have Hab2 := kH hab2
             clear hq2 hab2
             go_wp2
             obtain ⟨ov⟩ := ov_ex wr
             have o0 := ov.cell k0
             have o1 := ov.cell k1
             have HE := kH (fun u => calls_over (ov := ov) (by have h := RowAt.eq (Hrb2.out.below (ov.below u)) (Hra2.out.below (ov.below u)); rw [Hq2.out] at h; exact h))
             refine wp_region_ovq ov (by kernel_rfl) (by kernel_rfl) ?_
             repeat (go_big_quiet_step ((go_at_call 64; with_reducible exact HE.out _)))
             refine wpQuiet_nil ?_
             rintro _ ⟨u, rfl⟩
             have HI5 := kH (HI1.out.below Hgw.out (ov.below u))
             have ho1 := o1 u
             obtain ⟨Ab, nb, cb, hbe, _⟩ := Hrb2.out
             rw [hbe] at ho1
             have Hbe := kH hbe
             clear hbe
             clear o0 o1 k0 k1
             generalize ov.f u = w5 at *
             obtain ⟨cur5, hr5, hs5, _⟩ := HI5.out.row
             have hKn := HK.out
             have hfz : w5.frozen? ⟨g, off + K, none⟩ = false := frozen_row hr5 _
             obtain ⟨u5, hu5⟩ : ∃ u, cur5[off + K]? = some u := ⟨cur5[off + K], Array.getElem?_eq_getElem (by omega)⟩
             have hc5 : w5.cell? ⟨g, off + K, none⟩ = some u5 := by
              rw [cell_of_row _ _ _ _ _ (0, 0) hr5]
              exact hu5
             clear hu5 hs5 hr5
             go_wp2
             go_roundg (gk - 1)
             case measure => have := Hgk2.out; omega
             case rel =>
              have := Hgk2.out
              have e5 : (compE (es.take (j + 1 + (i' + 1 + 1)))).length = K + 1 := by
               rw [show j + 1 + (i' + 1 + 1) = j + (i' + 1) + 2 by omega, compE_snoc Ha2.out Hb2.out, if_neg Hab2.out, show j + (i' + 1) + 1 = j + 1 + (i' + 1) by omega, List.length_append, HKe.out]
               rfl
              refine ⟨i' + 1 + 1, by omega, by omega, by rw [e5]; go_num, by go_num, by omega, kH ?_, kH (by rw [e5]; have := HK.out; omega)⟩
              have h := HI5.out.move Ha2.out Hb2.out Hab2.out (by have := Hn.out; omega)
              rw [Hbe.out] at h
              rw [show j + (i' + 1) + 1 = j + 1 + (i' + 1) by omega, HKe.out] at h
              rw [show j + 1 + (i' + 1 + 1) = j + (i' + 1) + 2 by omega]
              exact h
         · have hni : j + 1 + i = n := by omega
           have Hes := kH (show es.take (j + 1 + i) = es from List.take_of_length_le (by rw [Hn.out]; omega))
           have hKl : (compE es).length = K := by have h := HKe.out; rwa [Hes.out] at h
           have HKl := kH hKl
           obtain ⟨cur, r1, r2, r3, r4⟩ := HI.out.row
           have hKn := HK.out
           have hcl : ∀ ty, (Builtin.clear_ #[86] ty #[.slice (some ⟨g, off + K, none⟩) (n - K) (c - K)]).run Tryz.prog wr = .ok (.tuple #[]) (wr.setCells g (off + K) (List.replicate (n - K) (.slice none 0 0))) := fun ty =>
            Lib.run_clear_slice wr _ _ ty (.slice none 0 0) Tryz.underlying86 (fun w => by go_simp) rfl rfl g (off + K) _ _ (by omega) (fun q hq => by
             rw [cell_of_row _ _ _ _ _ (0, 0) r1]
             simp [Array.getElem?_eq_getElem (show off + K + q < cur.size by omega)]) (fun q hq => frozen_row r1 _)
           obtain ⟨cur', s1, s2, s3, s4⟩ := setCells_row (List.replicate (n - K) (.slice none 0 0)) (off + K) wr cur r1
           have Hown := kH (show OwnAt (wr.setCells g (off + K) (List.replicate (n - K) (.slice none 0 0))) 60 1 (.slice (some ⟨g, off, none⟩) K c) K ((compE es).map Prod.fst) from by
            refine ⟨by simp [HKl.out], .inr ⟨g, off, c, cur', rfl, s1, by omega, by have := h3'.out; omega, by omega, fun q u hq => ?_⟩⟩
            rw [List.getElem?_map] at hq
            cases he : (compE es)[q]? with
            | none => rw [he] at hq; cases hq
            | some e =>
             rw [he] at hq
             have hql := (List.getElem?_eq_some_iff.1 he).1
             rw [s3 _ (by omega), r3 q e (by rw [Hes.out]; exact he)]
             exact hq)
           have Hgr := kH (show W.grownBy (wr.setCells g (off + K) (List.replicate (n - K) (.slice none 0 0))) (some g) from
            ⟨s4.os.trans HI.out.gr.os, s4.tape.trans HI.out.gr.tape, s4.output.trans HI.out.gr.output, Nat.le_trans HI.out.gr.size s4.size, fun q hq hne => (s4.block q (Nat.lt_of_lt_of_le hq HI.out.gr.size) hne).trans (HI.out.gr.block q hq hne)⟩)
           clear r1 r2 r3 r4 s1 s2 s3 s4 hKl
           go_wp2
           go_ret
           exact ⟨c, by rw [HKl.out]; rfl, by rw [HKl.out]; exact Hown.out, Hgr.out⟩
      · have hq : decide (b.2 = a.2) = false := by simpa using hab
        have Hq := kH hq
        have Hab := kH hab
        clear hq hab
        go_wp2
        obtain ⟨ov⟩ := ov_ex wr
        have o0 := ov.cell k0
        have o1 := ov.cell k1
        have HE := kH (fun u => calls_over (ov := ov) (by have h := RowAt.eq (Hrb.out.below (ov.below u)) (Hra.out.below (ov.below u)); rw [Hq.out] at h; exact h))
        refine wp_region_ovq ov (by kernel_rfl) (by kernel_rfl) ?_
        repeat (go_big_quiet_step ((go_at_call 64; with_reducible exact HE.out _)))
        refine wpQuiet_nil ?_
        rintro _ ⟨u, rfl⟩
        have Hbo := kH (Hbw.out.trans ((ov.below u).mono Hbw.out.size))
        clear o0 o1 k0 k1
        generalize ov.f u = w2 at *
        go_wp2
        go_roundg (gk - 1)
        case measure => have := Hgk.out; omega
        case rel =>
         have := Hgk.out
         refine ⟨j + 1, by omega, by go_num, by omega, Hbo, kH ?_⟩
         have h5 : es.take (j + 2) = es.take (j + 1) ++ [b] := by rw [List.take_add_one, Hb.out]; rfl
         show compE (es.take (j + 2)) = es.take (j + 2)
         rw [compE_snoc Ha.out Hb.out, if_neg Hab.out, He.out, ← h5]
    · obtain rfl : n = j + 1 := by omega
      have e : compE es = es := by
       have h := He.out
       rw [List.take_of_length_le (by rw [Hn.out]; exact Nat.le_refl _)] at h
       exact h
      have Hee := kH e
      clear e
      go_wp2
      go_ret
      rw [Hee.out]
      refine ⟨c, ?_, ?_, ?_⟩
      · rw [Hn.out]; rfl
      · rw [Hn.out]; exact Ho.out.below Hbw.out (fun x hx => by simp [Value.ownBlock] at hx; subst hx; exact Hgl.out)
      · exact ⟨Hbw.out.os, Hbw.out.tape, Hbw.out.output, Hbw.out.size, fun k hk _ => Hbw.out.block k hk⟩
end KT
end
section
namespace V
open T
theorem rep2 {t u : List Nd} {la : List Int} {f : F} (r : Rep t la f) : ∀ {lb : List Int}, Rep u lb f → la.length = lb.length ∧ ∀ i, i < la.length → (t.getD (la.getD i 0).toNat default).w = (u.getD (lb.getD i 0).toNat default).w := by
 induction r with
 | nil =>
  intro lb s
  cases s
  exact ⟨rfl, fun i h => by simp at h⟩
 | @cons a la x kids rest h0 hx hk hr ih1 ih2 =>
  intro lb s
  generalize ho : x.op = o at s
  generalize hw : x.w = w at s
  generalize hf : x.fl = fl at s
  generalize hi : x.imm = im at s
  cases s with
  | @cons b lb y _ _ g0 hy hk' hr' =>
   obtain ⟨l1, l2⟩ := ih2 hr'
   refine ⟨by simp [l1], fun i hi => ?_⟩
   cases i with
   | zero =>
    simp only [List.getD_cons_zero]
    rw [List.getD_eq_getElem?_getD, List.getD_eq_getElem?_getD, hx, hy]
    exact hw
   | succ i =>
    simp only [List.getD_cons_succ]
    exact l2 i (by simpa using hi)
theorem node_match {t L : List Nd} (hc : Cov t L) (ho : Ord L) {j : Nat} {y : Nd} (hy : L[j]? = some y) : ∃ (k : Nat) (x : Nd), t[k]? = some x ∧ x.op = y.op ∧ x.w = y.w ∧ x.fl = y.fl ∧ x.imm = y.imm ∧ x.args.length = y.args.length ∧ ∀ i, i < y.args.length → wd t x i = wd L y i := by
 obtain ⟨g, hg⟩ := Rep.one ho (List.getElem?_eq_some_iff.1 hy).1
 obtain ⟨k, hk⟩ := hc _ g hg
 cases hg with
 | @cons _ _ y' kids _ g0 hy' hky hr =>
  rw [Int.toNat_natCast, hy] at hy'
  cases hy'
  generalize ho : y.op = o at hk
  generalize hw : y.w = w at hk
  generalize hf : y.fl = fl at hk
  generalize hi : y.imm = im at hk
  cases hk with
  | @cons _ _ x _ _ k0 hx hkx _ =>
   obtain ⟨r1, r2⟩ := rep2 hkx hky
   exact ⟨_, x, hx, ho.symm ▸ rfl, hw.symm ▸ rfl, hf.symm ▸ rfl, hi.symm ▸ rfl, r1, fun i h => r2 i (by omega)⟩
end V
end
section
namespace KT
open R
structure Sides (r : Rl) (L Q : List T.Nd) : Prop where
 left : ∃ f, T.Rep r.left [((r.left.length : Int) - 1)] f ∧ L = T.canon f
 right : ∃ f, T.Rep r.right [((r.right.length : Int) - 1)] f ∧ Q = T.canon f
theorem rep_root {t : List T.Nd} (ho : T.Ord t) (hp : 1 ≤ t.length) : ∃ f, T.Rep t [((t.length : Int) - 1)] f := by
 obtain ⟨f, hf⟩ := T.Rep.one ho (k := t.length - 1) (by omega)
 rw [show ((t.length - 1 : Nat) : Int) = (t.length : Int) - 1 by omega] at hf
 exact ⟨f, hf⟩
theorem Sides.ex {r : Rl} (h : ROk r) : ∃ L Q, Sides r L Q := by
 obtain ⟨f, hf⟩ := rep_root (pnode_ord h.lp) h.lpos
 obtain ⟨g, hg⟩ := rep_root (pnode_ord h.rp) h.rpos
 exact ⟨_, _, ⟨f, hf, rfl⟩, ⟨g, hg, rfl⟩⟩
theorem Sides.det {r : Rl} {L Q L' Q' : List T.Nd} (h : Sides r L Q) (h' : Sides r L' Q') : L = L' ∧ Q = Q' := by
 obtain ⟨⟨f, hf, rfl⟩, ⟨g, hg, rfl⟩⟩ := h
 obtain ⟨⟨f', hf', rfl⟩, ⟨g', hg', rfl⟩⟩ := h'
 rw [T.Rep.det hf hf', T.Rep.det hg hg']
 exact ⟨rfl, rfl⟩
theorem rep_canon_ne {t : List T.Nd} {a : Int} {f : T.F} (h : T.Rep t [a] f) : T.canon f ≠ [] := by
 cases h with
 | cons h0 hx hk hr =>
  cases hr
  rename_i x kids
  have := (T.cnn_last x.op x.w x.fl x.imm kids).2
  intro e
  unfold T.canon at e
  rw [e] at this
  simp at this
theorem Sides.ne {r : Rl} {L Q : List T.Nd} (h : Sides r L Q) : L ≠ [] ∧ Q ≠ [] := by
 obtain ⟨⟨f, hf, rfl⟩, ⟨g, hg, rfl⟩⟩ := h
 exact ⟨rep_canon_ne hf, rep_canon_ne hg⟩
theorem Sides.occ {r : Rl} (hr : ROk r) {L Q : List T.Nd} (h : Sides r L Q) (o i : Int) : R.occ r.left o i = true → i ∈ seen o [] L := by
 obtain ⟨⟨f, hf, rfl⟩, _⟩ := h
 intro ho
 rw [R.occ_canon (pnode_ord hr.lp) hr.lpos hf, List.any_eq_true] at ho
 obtain ⟨x, hx, e⟩ := ho
 rw [Bool.and_eq_true, decide_eq_true_iff, decide_eq_true_iff] at e
 rw [seen_mem]
 exact .inr ⟨x, hx, e.1, e.2⟩
theorem Sides.right_in {r : Rl} (hr : ROk r) {L Q : List T.Nd} (h : Sides r L Q) {o : Int} (ho : o = 33 ∨ o = 34) : ∀ x ∈ Q, x.op = o → x.imm ∈ seen o [] L := by
 intro x hx e
 refine h.occ hr o x.imm ?_
 obtain ⟨_, ⟨g, hg, rfl⟩⟩ := h
 have h1 : R.occF g x.op x.imm := by
  have := (R.cnn_labels g [] x.op x.imm).1 ⟨x, hx, rfl, rfl⟩
  rcases this with ⟨y, hy, _⟩ | h
  · cases hy
  · exact h
 obtain ⟨k, y, _, hk, e1, e2⟩ := (R.occF_from hg).1 h1
 have := hr.occ y (List.mem_of_getElem? hk) (by rw [e1, e]; exact ho)
 rw [e1, e2, e] at this
 exact this
theorem Sides.pre_in {r : Rl} (hr : ROk r) {L Q : List T.Nd} (h : Sides r L Q) : ∀ c ∈ r.pre, c.hole ∈ seen 34 [] L := fun c hc => h.occ hr 34 c.hole (hr.cocc c hc)
noncomputable def formR (r : Rl) : Form := open Classical in if h : ∃ L Q, Sides r L Q then form h.choose h.choose_spec.choose r.pre else ⟨[], [], []⟩
theorem formR_eq {r : Rl} {L Q : List T.Nd} (h : Sides r L Q) : formR r = form L Q r.pre := by
 have hex : ∃ L Q, Sides r L Q := ⟨L, Q, h⟩
 unfold formR
 rw [dif_pos hex]
 have key : ∀ L' Q', Sides r L' Q' → form L' Q' r.pre = form L Q r.pre := fun L' Q' h' => by
  obtain ⟨e1, e2⟩ := Sides.det h' h
  rw [e1, e2]
 exact key _ _ hex.choose_spec.choose_spec
noncomputable def sm (r q : Rl) : Bool := open Classical in decide ((formR r).same (formR q))
theorem sm_iff (r q : Rl) : sm r q = true ↔ (formR r).same (formR q) := by
 unfold sm
 exact @decide_eq_true_iff _ (Classical.propDecidable _)
theorem sm_refl (r : Rl) : sm r r = true := by
 rw [sm_iff]
 exact ⟨rfl, rfl, fun _ h => h, fun _ h => h⟩
def IsKey (r : Rl) (k : List UInt8) : Prop := KeyOf (formR r) k
theorem formR_ne {r : Rl} (h : ROk r) : (formR r).left ≠ [] ∧ (formR r).right ≠ [] ∧ ∀ p ∈ (formR r).pre, p ≠ [] := by
 obtain ⟨L, Q, hs⟩ := Sides.ex h
 rw [formR_eq hs]
 refine ⟨by simp [form, hs.ne.1], by simp [form, hs.ne.2], fun p hp => ?_⟩
 simp only [form] at hp
 obtain ⟨c, _, rfl⟩ := List.mem_map.1 hp
 simp
theorem IsKey.iff {r q : Rl} (hr : ROk r) (hq : ROk q) {k j : List UInt8} (h : IsKey r k) (h' : IsKey q j) : k = j ↔ sm r q = true := by
 obtain ⟨a1, a2, a3⟩ := formR_ne hr
 obtain ⟨b1, b2, b3⟩ := formR_ne hq
 rw [KeyOf.iff h h' a1 a2 b1 b2 a3 b3, sm_iff]
theorem IsKey.mk' {r : Rl} (hr : ROk r) {L Q : List T.Nd} (h : Sides r L Q) {qs : List (List Int)} (hq : qs.Pairwise fun a b => ¬ ltL b a)
 (hm : ∀ p, p ∈ qs ↔ ∃ c ∈ r.pre, p = [c.kind, (((seen 34 [] L).idxOf c.hole : Nat) : Int), c.imm]) :
 IsKey r (keyT (renL [] [] L) (renL (seen 33 [] L) (seen 34 [] L) Q) (compT qs)) := by
 unfold IsKey
 rw [formR_eq h]
 refine KeyOf.mk' L Q r.pre qs (h.right_in hr (.inl rfl)) (h.right_in hr (.inr rfl)) hq fun p => (hm p).trans ?_
 simp only [form, List.mem_map]
 exact ⟨fun ⟨c, hc, e⟩ => ⟨c, hc, e.symm⟩, fun ⟨c, hc, e⟩ => ⟨c, hc, e.symm⟩⟩
end KT
end
section
open Go.RowKit Go.Maps
namespace KT
theorem pnode_twf {p : List T.Nd} {right : Bool} (hp : ∀ k x, p[k]? = some x → R.pnode p right k x = true) : TWf p := by
 refine ⟨R.pnode_ord hp, fun x hx => ?_, fun x hx => ?_⟩
 · obtain ⟨k, hk⟩ := List.mem_iff_getElem?.1 hx
   have h := hp k x hk
   have h2 := R.par_bd (R.pnode_len h).2
   have h3 := R.pnode_w h
   have h4 := R.flOk_bd (R.pnode_flags h)
   exact ⟨⟨by omega, by omega⟩, ⟨by omega, by omega⟩, ⟨by omega, by omega⟩⟩
 · obtain ⟨k, hk⟩ := List.mem_iff_getElem?.1 hx
   exact R.pnode_small (hp k x hk)
theorem canon_ndI {p : List T.Nd} {right : Bool} (hp : ∀ k x, p[k]? = some x → R.pnode p right k x = true) (hi : ∀ x ∈ p, 0 ≤ x.imm ∧ x.imm < 4294967296) (hl : p.length ≤ 12) {la : List Int} {f : T.F} (hf : T.Rep p la f) : (∀ x ∈ T.canon f, NdI x) ∧ (T.canon f).length ≤ 12 := by
 have hc : T.Cov p (T.canon f) := T.cnn_cov hf List.nodup_nil T.ord_nil (T.cov_nil p)
 have told := T.cnn_told f List.nodup_nil T.ord_nil
 have ho : T.Ord (T.canon f) := told.ord
 have hlen : (T.canon f).length ≤ 12 := Nat.le_trans (T.cov_len told.nd ho hc) hl
 refine ⟨fun y hy => ?_, hlen⟩
 obtain ⟨j, hj⟩ := List.getElem?_of_mem hy
 obtain ⟨k, x, hx, e1, e2, e3, e4, e5, e6⟩ := V.node_match hc ho hj
 have hm := List.mem_of_getElem? hx
 obtain ⟨o1, o2, o3⟩ := (pnode_twf hp).op x hm
 have hlj := (List.getElem?_eq_some_iff.1 hj).1
 refine ⟨e1 ▸ o1, e2 ▸ o2, e3 ▸ o3, by rw [← e5]; exact (pnode_twf hp).len x hm, fun a ha => ?_, e4 ▸ hi x hm⟩
 have := ho j y hj a ha
 exact ⟨by omega, by omega⟩
theorem nd_rng {W : World} {At : Option Addr} {n : Nat} {t : List T.Nd} (h : StAt 5 NdR W At n t) : ∀ x ∈ t, 0 ≤ x.imm ∧ x.imm < 4294967296 := fun x hx => by
 obtain ⟨k, hk⟩ := List.getElem?_of_mem hx
 have hlt := (List.getElem?_eq_some_iff.1 hk).1
 rw [h.len] at hlt
 obtain ⟨y, b, off, A, c, hy, _, _, _, _, _, _, _, _, i0, i1⟩ := nd_cells h hlt
 rw [hk] at hy
 cases hy
 exact ⟨i0, i1⟩
theorem kof_in (b : Nat) (s : List Int) (n : Int) (W : World) (h : NumAt W b s) (hn : 0 ≤ n ∧ n < 4294967296) (hm : n ∈ s) :
 Calls Tryz.prog 60 #[.map (some b), .int .u32 n] W fun e w' => e = .returned (.int .i64 ((s.idxOf n : Nat) : Int)) ∧ W = w' := by
 have hz : ∀ w, (zeroValue 3).run Tryz.prog w = .ok (.int .i64 0) w := fun w => by go_simp
 obtain ⟨u, _, hlook, hlv⟩ := h.2.lookup (k := n) u32Keyed ekU_inj Tryz.underlying82 (hz W) (keyOf_u32 hn)
 rw [ents2_get h.1] at hlook hlv
 unfold ekU at hlook
 rw [if_pos hm] at hlook hlv
 rcases hlv with ⟨hc, _⟩ | ⟨a, hc, hu⟩
 · cases hc
 · cases hc
   have hu : u = .int .i64 ((s.idxOf n : Nat) : Int) := hu
   subst hu
   go_enter Tryz.func60, Tryz.ntmps60
   go_wp2
   go_ret
   exact ⟨rfl, rfl⟩
def cdL (H : List Int) (c : R.Cd) : List Int := [c.kind, ((H.idxOf c.hole : Nat) : Int), c.imm]
def RowX (w : World) (v : Value) (B : Nat) (e : Value × List Int) : Prop :=
 ∃ b, e.1 = .slice (some ⟨b, 0, none⟩) 3 3 ∧ B ≤ b ∧ v.ownBlock ≠ some b ∧ e.2.length = 3 ∧ w.heap[b]? = some (.cells (e.2.map (Value.int .i64)).toArray 3 (0, 0))
theorem RowX.keep {w w' : World} {v v' : Value} {B : Nat} {e : Value × List Int} (h : RowX w v B e) (hk : ∀ b, B ≤ b → b < w.heap.size → v.ownBlock ≠ some b → w'.heap[b]? = w.heap[b]? ∧ v'.ownBlock ≠ some b) : RowX w' v' B e := by
 obtain ⟨b, h1, h2, h3, h4, h5⟩ := h
 obtain ⟨k1, k2⟩ := hk b h2 (gA h5).1 h3
 exact ⟨b, h1, h2, k2, h4, k1.trans h5⟩
theorem RowX.at_ {w : World} {v : Value} {B g : Nat} {e : Value × List Int} (h : RowX w v B e) (hg : v.ownBlock = some g) : RowAt w g e := by
 obtain ⟨b, h1, h2, h3, h4, h5⟩ := h
 refine ⟨some ⟨b, 0, none⟩, 3, 3, h1, by omega, ?_, fun b' o e => ?_⟩
 · refine ⟨h4, by omega, fun k x hx => ⟨b, 0, .int .i64 x, rfl, (gA h5).1, ?_, rfl⟩⟩
   rw [cell_of_row _ _ _ _ _ (0, 0) h5]
   simp [hx]
 · cases e
   exact fun e => h3 (by rw [hg, e])
end KT
end
end Go.Proofs.YtbiopedpceddeaaGreatDoor
