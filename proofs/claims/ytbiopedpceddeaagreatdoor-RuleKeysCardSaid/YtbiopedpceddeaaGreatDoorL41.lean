/- Keys (the program): slices.CompactFunc at lists of ints. -/
import Derived.Test.YtbiopedpceddeaaGreatDoorL40
import Derived.Test.YtbiopedpceddeaaGreatDoorL07
import Derived.Test.YtbiopedpceddeaaGreatDoorL19
set_option linter.unusedVariables false
set_option linter.unusedSimpArgs false
namespace Go.Proofs.YtbiopedpceddeaaGreatDoor
open Go.RowKit Go.Maps
set_option linter.unusedVariables false
set_option linter.unusedSimpArgs false
namespace KT
theorem RowAt.below {W W' : World} {g : Nat} {e : Value × List Int} (h : RowAt W g e) (hb : Below W.heap.size W W') : RowAt W' g e := by
  obtain ⟨A, n, c, h1, h2, h3, h4⟩ := h
  exact ⟨A, n, c, h1, h2, h3.below (monoInt _) hb, h4⟩
theorem RowAt.eq {W : World} {g : Nat} {a b : Value × List Int} (h : RowAt W g a) (k : RowAt W g b) : Calls Tryz.prog 64 #[a.1, b.1] W fun e w' => e = .returned (.bool (decide (a.2 = b.2))) ∧ Below W.heap.size W w' := by
  obtain ⟨A, n, c, h1, _, h3, _⟩ := h
  obtain ⟨A2, n2, c2, k1, _, k3, _⟩ := k
  rw [h1, k1]
  exact (kEqual_any h3 k3).mono fun e w' hh => ⟨hh.1, by obtain ⟨q, rfl⟩ := hh.2; exact (Below.refl _ _).dr ⟨q, rfl⟩⟩

theorem RowAt.grown {W w' : World} {g : Nat} {e : Value × List Int} (h : RowAt W g e) (hg : W.grownBy w' (some g)) : RowAt w' g e := by
  obtain ⟨A, n, c, h1, h2, h3, h4⟩ := h
  exact ⟨A, n, c, h1, h2, h3.kpm (Kpm.grown (M := fun i => i = g) hg (fun x e => by cases e; rfl)) (fun _ b o e => h4 b o e), h4⟩
theorem setCells_row {b : Nat} {T : TypeId} : ∀ (vs : List Value) (o : Nat) (w : World) (cur : Array Value), w.heap[b]? = some (.cells cur T (0, 0)) →
    ∃ cur', (w.setCells b o vs).heap[b]? = some (.cells cur' T (0, 0)) ∧ cur'.size = cur.size ∧ (∀ q, q < o → cur'[q]? = cur[q]?) ∧ w.grownBy (w.setCells b o vs) (some b) := by
  intro vs
  induction vs with
  | nil => intro o w cur h; exact ⟨cur, h, rfl, fun _ _ => rfl, ⟨rfl, rfl, rfl, Nat.le_refl _, fun _ _ _ => rfl⟩⟩
  | cons v vs ih =>
    intro o w cur h
    obtain ⟨cur', h1, h2, h3, h4⟩ := ih (o + 1) (w.setCell ⟨b, o, none⟩ v) (cur.setIfInBounds o v) (heap_setCell_same w b _ _ _ v h)
    refine ⟨cur', h1, by simpa using h2, fun q hq => ?_, ?_⟩
    · rw [h3 q (by omega), Array.getElem?_setIfInBounds, if_neg (by omega)]
    · refine ⟨h4.os, h4.tape, h4.output, by simp, fun k hk hne => ?_⟩
      rw [show w.setCells b o (v :: vs) = (w.setCell ⟨b, o, none⟩ v).setCells b (o + 1) vs from rfl, h4.block k (by simpa using hk) hne]
      exact heap_setCell_other _ _ _ _ (fun e => hne (by rw [e]))

/-- while later ones are moved ahead: m elements are seen -/
structure CmpI (es : List (Value × List Int)) (W : World) (g off c : Nat) (wr : World) (m : Nat) : Prop where
  row : ∃ cur, wr.heap[g]? = some (.cells cur 60 (0, 0)) ∧ off + c ≤ cur.size ∧ (∀ (q : Nat) e, (compE (es.take m))[q]? = some e → cur[off + q]? = some e.1) ∧ ∀ (q : Nat) e, m ≤ q + 1 → es[q]? = some e → cur[off + q]? = some e.1
  gr : W.grownBy wr (some g)
theorem CmpI.cell {es : List (Value × List Int)} {W : World} {g off c : Nat} {wr : World} {m : Nat} (h : CmpI es W g off c wr m) {q : Nat} {e : Value × List Int} (hq : m ≤ q + 1) (he : es[q]? = some e) : wr.cell? ⟨g, off + q, none⟩ = some e.1 := by
  obtain ⟨cur, h1, _, _, h4⟩ := h.row
  unfold World.cell?
  rw [h1]
  simpa using h4 q e hq he
theorem CmpI.below {es : List (Value × List Int)} {W : World} {g off c : Nat} {wr wr' : World} {m : Nat} (h : CmpI es W g off c wr m) (hg : g < wr.heap.size) (hb : Below wr.heap.size wr wr') : CmpI es W g off c wr' m := by
  obtain ⟨cur, h1, h2, h3, h4⟩ := h.row
  exact ⟨⟨cur, (hb.block g hg).trans h1, h2, h3, h4⟩, ⟨hb.os.trans h.gr.os, hb.tape.trans h.gr.tape, hb.output.trans h.gr.output, Nat.le_trans h.gr.size hb.size, fun k hk hne => (hb.block k (Nat.lt_of_lt_of_le hk h.gr.size)).trans (h.gr.block k hk hne)⟩⟩
/-- one element more, equal to the last -/
theorem CmpI.skip {es : List (Value × List Int)} {W : World} {g off c : Nat} {wr : World} {m : Nat} (h : CmpI es W g off c wr (m + 1)) {a e : Value × List Int} (ha : es[m]? = some a) (he : es[m + 1]? = some e) (hq : e.2 = a.2) : CmpI es W g off c wr (m + 2) := by
  obtain ⟨cur, h1, h2, h3, h4⟩ := h.row
  refine ⟨⟨cur, h1, h2, fun q x hx => ?_, fun q x hq2 hx => h4 q x (by omega) hx⟩, h.gr⟩
  rw [compE_snoc ha he, if_pos hq, List.append_nil] at hx
  exact h3 q x hx
/-- one element more, another one: it is moved -/
theorem CmpI.move {es : List (Value × List Int)} {W : World} {g off c : Nat} {wr : World} {m : Nat} (h : CmpI es W g off c wr (m + 1)) {a e : Value × List Int} (ha : es[m]? = some a) (he : es[m + 1]? = some e) (hq : e.2 ≠ a.2) (hn : es.length ≤ c) : CmpI es W g off c (wr.setCell ⟨g, off + (compE (es.take (m + 1))).length, none⟩ e.1) (m + 2) := by
  obtain ⟨cur, h1, h2, h3, h4⟩ := h.row
  have hl : (compE (es.take (m + 1))).length ≤ m + 1 := Nat.le_trans (compE_le _) (by rw [List.length_take]; omega)
  have hlen := (List.getElem?_eq_some_iff.1 he).1
  refine ⟨⟨_, heap_setCell_same wr g _ _ _ e.1 h1, by simpa using h2, fun q x hx => ?_, fun q x hq2 hx => ?_⟩, ⟨h.gr.os, h.gr.tape, h.gr.output, by simpa using h.gr.size, fun k hk hne => ?_⟩⟩
  · rw [compE_snoc ha he, if_neg hq] at hx
    by_cases hlt : q < (compE (es.take (m + 1))).length
    · rw [List.getElem?_append_left hlt] at hx
      rw [Array.getElem?_setIfInBounds, if_neg (by omega)]
      exact h3 q x hx
    · rw [List.getElem?_append_right (by omega)] at hx
      have hq0 : q - (compE (es.take (m + 1))).length = 0 := by
        rcases Nat.eq_zero_or_pos (q - (compE (es.take (m + 1))).length) with h | h
        · exact h
        · rw [List.getElem?_eq_none (by simp; omega)] at hx; cases hx
      have hqe : q = (compE (es.take (m + 1))).length := by omega
      have hin : off + q < cur.size := by omega
      rw [hq0] at hx
      simp at hx
      subst hx
      rw [Array.getElem?_setIfInBounds, if_pos (by rw [hqe]), if_pos (by rw [← hqe]; exact hin)]
  · by_cases hql : q = (compE (es.take (m + 1))).length
    · have hqm : q = m + 1 := by omega
      have hin : off + q < cur.size := by omega
      have hxe : x = e := by rw [hqm, he] at hx; cases hx; rfl
      rw [Array.getElem?_setIfInBounds, if_pos (by rw [← hql]), if_pos (by rw [← hql]; exact hin), hxe]
    · rw [Array.getElem?_setIfInBounds, if_neg (by omega)]
      exact h4 q x (by omega) hx
  · rw [heap_setCell_other _ _ _ _ (fun e => hne (by rw [e]))]
    exact h.gr.block k hk hne

set_option maxRecDepth 100000 in
set_option maxHeartbeats 1000000 in
theorem kCompact_any {es : List (Value × List Int)} {g off c n : Nat} {W : World} (hn : es.length = n) (hn1 : n ≤ 1000000) (ho : OwnAt W 60 1 (.slice (some ⟨g, off, none⟩) n c) n (es.map Prod.fst)) (hr : ∀ e ∈ es, RowAt W g e) :
    Calls Tryz.prog 63 #[.slice (some ⟨g, off, none⟩) n c, .func (.func 64) #[] #[]] W fun e w' =>
      ∃ c', e = .returned (.slice (some ⟨g, off, none⟩) (compE es).length c') ∧ OwnAt w' 60 1 (.slice (some ⟨g, off, none⟩) (compE es).length c') (compE es).length ((compE es).map Prod.fst) ∧ W.grownBy w' (some g) := by
  rcases ho.2 with ⟨e, h0⟩ | ⟨g', off', cap, cur, e, hc, h1, h2, h3, h4⟩
  · cases e
  injection e with e1 e2 e3
  injection e1 with e1
  injection e1 with e1 e4
  subst e1 e4 e3
  have hgl : g < W.heap.size := (Array.getElem?_eq_some_iff.1 hc).1
  have hcell : ∀ j e, es[j]? = some e → W.cell? ⟨g, off + j, none⟩ = some e.1 := fun j e hj => by
    have := h4 j e.1 (by rw [List.getElem?_map, hj]; rfl)
    unfold World.cell?
    rw [hc]
    simpa using this
  have HC0 := Lib.hid (show ∃ cur, W.heap[g]? = some (.cells cur 60 (0, 0)) ∧ off + c ≤ cur.size ∧ ∀ (q : Nat) e, es[q]? = some e → cur[off + q]? = some e.1 from ⟨cur, hc, by omega, fun q e hq => h4 q e.1 (by rw [List.getElem?_map, hq]; rfl)⟩)
  have Ho := Lib.hid ho
  have Hr := Lib.hid hr
  have Hcell := Lib.hid hcell
  have Hn := Lib.hid hn
  have Hgl := Lib.hid hgl
  have h3' := Lib.hid h2
  clear h2 h3 h4 hc ho hr hcell hn
  by_cases h2 : n < 2
  · have e : compE es = es := by
      have hn := Hn.out
      match es, hn with
      | [], _ => rfl
      | [a], _ => rfl
      | a :: b :: l, hn => simp at hn; omega
    rw [e]
    go_enter Tryz.func63, Tryz.ntmps63
    go_wp2
    go_ret
    refine ⟨c, ?_, ?_, ⟨rfl, rfl, rfl, Nat.le_refl _, fun _ _ _ => rfl⟩⟩
    · rw [Hn.out]; rfl
    · rw [Hn.out]; exact Ho.out
  · go_enter Tryz.func63, Tryz.ntmps63
    go_wp2
    go_loopg [5] n (fun gg s5 wr => ∃ (j : Nat), j + 1 ≤ n ∧ s5 = .int .i64 ((j : Int) + 1) ∧ gg + j = n ∧ Hid (Below W.heap.size W wr) ∧ Hid (compE (es.take (j + 1)) = es.take (j + 1)))
    case atStart =>
      refine ⟨0, by omega, by go_num, by omega, Lib.hid (Below.refl _ _), Lib.hid ?_⟩
      have hn := Hn.out
      cases es with
      | nil => rfl
      | cons a l => rfl
    case round =>
      obtain ⟨j, hj, rfl, hgk, Hbw, He⟩ := hrel
      have Hgk := Lib.hid hgk
      clear hgk
      by_cases hjn : j + 1 < n
      · have hlen := Hn.out
        obtain ⟨a, ha⟩ : ∃ a, es[j]? = some a := ⟨es[j], List.getElem?_eq_getElem (by omega)⟩
        obtain ⟨b, hb⟩ : ∃ b, es[j + 1]? = some b := ⟨es[j + 1], List.getElem?_eq_getElem (by omega)⟩
        have k0 := (Hbw.out.cell (p := ⟨g, off + j, none⟩) Hgl.out).trans (Hcell.out j a ha)
        have k1 := (Hbw.out.cell (p := ⟨g, off + (j + 1), none⟩) Hgl.out).trans (Hcell.out (j + 1) b hb)
        have Hra := Lib.hid ((Hr.out a (List.mem_of_getElem? ha)).below Hbw.out)
        have Hrb := Lib.hid ((Hr.out b (List.mem_of_getElem? hb)).below Hbw.out)
        have Ha := Lib.hid ha
        have Hb := Lib.hid hb
        clear ha hb hlen
        by_cases hab : b.2 = a.2
        · have hq : decide (b.2 = a.2) = true := by simpa using hab
          have Hq := Lib.hid hq
          have Hab := Lib.hid hab
          clear hq hab
          go_wp2
          obtain ⟨ov⟩ := ov_ex wr
          have o0 := ov.cell k0
          have o1 := ov.cell k1
          have HE := Lib.hid (fun u => calls_over (ov := ov) (by have h := RowAt.eq (Hrb.out.below (ov.below u)) (Hra.out.below (ov.below u)); rw [Hq.out] at h; exact h))
          refine wp_region_ovq ov (by kernel_rfl) (by kernel_rfl) ?_
          repeat (go_big_quiet_step ((go_at_call 64; with_reducible exact HE.out _)))
          refine wpQuiet_nil ?_
          rintro _ ⟨u, rfl⟩
          have Hbo := Lib.hid (Hbw.out.trans ((ov.below u).mono Hbw.out.size))
          clear o0 o1 k0 k1
          generalize ov.f u = w2 at *
          have Hstart := Lib.hid (show CmpI es W g off c w2 (j + 2) from by
            obtain ⟨cur, c1, c2, c3⟩ := HC0.out
            refine ⟨⟨cur, (Hbo.out.block g Hgl.out).trans c1, c2, fun q e hq => c3 q e ?_, fun q e _ he => c3 q e he⟩, ⟨Hbo.out.os, Hbo.out.tape, Hbo.out.output, Hbo.out.size, fun k hk _ => Hbo.out.block k hk⟩⟩
            rw [compE_snoc Ha.out Hb.out, if_pos Hab.out, List.append_nil, He.out, List.getElem?_take] at hq
            split at hq
            · exact hq
            · cases hq)
          have Hlen0 := Lib.hid (show (compE (es.take (j + 2))).length = j + 1 from by
            rw [compE_snoc Ha.out Hb.out, if_pos Hab.out, List.append_nil, He.out, List.length_take, Hn.out]
            omega)
          go_wp2
          go_loopg [5, 7] n (fun gg s5 s7 wr => ∃ (i : Nat), 1 ≤ i ∧ j + 1 + i ≤ n ∧ s5 = .int .i64 ((compE (es.take (j + 1 + i))).length : Int) ∧ s7 = .int .i64 (i : Int) ∧ gg + i = n + 1 ∧ Hid (CmpI es W g off c wr (j + 1 + i)) ∧ Hid ((compE (es.take (j + 1 + i))).length ≤ j + i))
          case atStart => exact ⟨1, by omega, by omega, by rw [Hlen0.out]; go_num, by go_num, by omega, Hstart, Lib.hid (by rw [Hlen0.out]; exact Nat.le_refl _)⟩
          case round =>
            obtain ⟨i, hi1, hi, rfl, rfl, hgk2, HI, HK⟩ := hrel
            have Hgk2 := Lib.hid hgk2
            clear hgk2
            obtain ⟨K, hKe⟩ : ∃ K, (compE (es.take (j + 1 + i))).length = K := ⟨_, rfl⟩
            rw [hKe] at HK ⊢
            have HKe := Lib.hid hKe
            clear hKe
            by_cases hin : j + 1 + i < n
            · have hlen := Hn.out
              obtain ⟨a2, ha2⟩ : ∃ a, es[j + i]? = some a := ⟨es[j + i], List.getElem?_eq_getElem (by omega)⟩
              obtain ⟨b2, hb2⟩ : ∃ b, es[j + i + 1]? = some b := ⟨es[j + i + 1], List.getElem?_eq_getElem (by omega)⟩
              have HI1 := Lib.hid (show CmpI es W g off c wr (j + i + 1) from by have h := HI.out; rwa [show j + 1 + i = j + i + 1 by omega] at h)
              have k1 : wr.cell? ⟨g, off + (j + 1) + i, none⟩ = some b2.1 := by
                rw [show off + (j + 1) + i = off + (j + i + 1) by omega]
                exact HI1.out.cell (by omega) hb2
              have k0 : wr.cell? ⟨g, off + (j + 1) + (i - 1), none⟩ = some a2.1 := by
                rw [show off + (j + 1) + (i - 1) = off + (j + i) by omega]
                exact HI1.out.cell (by omega) ha2
              have hgw : g < wr.heap.size := Nat.lt_of_lt_of_le Hgl.out HI.out.gr.size
              have Hgw := Lib.hid hgw
              have Hra2 := Lib.hid ((Hr.out a2 (List.mem_of_getElem? ha2)).grown HI.out.gr)
              have Hrb2 := Lib.hid ((Hr.out b2 (List.mem_of_getElem? hb2)).grown HI.out.gr)
              have Ha2 := Lib.hid ha2
              have Hb2 := Lib.hid hb2
              clear ha2 hb2 hgw
              obtain ⟨i', rfl⟩ : ∃ i', i = i' + 1 := ⟨i - 1, by omega⟩
              rw [show i' + 1 - 1 = i' by omega] at k0
              by_cases hab2 : b2.2 = a2.2
              · have hq2 : decide (b2.2 = a2.2) = true := by simpa using hab2
                have Hq2 := Lib.hid hq2
                have Hab2 := Lib.hid hab2
                clear hq2 hab2
                go_wp2
                obtain ⟨ov⟩ := ov_ex wr
                have o0 := ov.cell k0
                have o1 := ov.cell k1
                have HE := Lib.hid (fun u => calls_over (ov := ov) (by have h := RowAt.eq (Hrb2.out.below (ov.below u)) (Hra2.out.below (ov.below u)); rw [Hq2.out] at h; exact h))
                refine wp_region_ovq ov (by kernel_rfl) (by kernel_rfl) ?_
                repeat (go_big_quiet_step ((go_at_call 64; with_reducible exact HE.out _)))
                refine wpQuiet_nil ?_
                rintro _ ⟨u, rfl⟩
                have HI5 := Lib.hid (HI1.out.below Hgw.out (ov.below u))
                clear o0 o1 k0 k1
                generalize ov.f u = w5 at *
                go_wp2
                go_roundg (gk - 1)
                case measure => have := Hgk2.out; omega
                case rel =>
                  have := Hgk2.out
                  have e5 : (compE (es.take (j + 1 + (i' + 1 + 1)))).length = K := by
                    rw [show j + 1 + (i' + 1 + 1) = j + (i' + 1) + 2 by omega, compE_snoc Ha2.out Hb2.out, if_pos Hab2.out, List.append_nil, show j + (i' + 1) + 1 = j + 1 + (i' + 1) by omega]
                    exact HKe.out
                  refine ⟨i' + 1 + 1, by omega, by omega, by rw [e5], by go_num, by omega, Lib.hid ?_, Lib.hid (by rw [e5]; have := HK.out; omega)⟩
                  rw [show j + 1 + (i' + 1 + 1) = j + (i' + 1) + 2 by omega]
                  exact HI5.out.skip Ha2.out Hb2.out Hab2.out
              · have hq2 : decide (b2.2 = a2.2) = false := by simpa using hab2
                have Hq2 := Lib.hid hq2
                have Hab2 := Lib.hid hab2
                clear hq2 hab2
                go_wp2
                obtain ⟨ov⟩ := ov_ex wr
                have o0 := ov.cell k0
                have o1 := ov.cell k1
                have HE := Lib.hid (fun u => calls_over (ov := ov) (by have h := RowAt.eq (Hrb2.out.below (ov.below u)) (Hra2.out.below (ov.below u)); rw [Hq2.out] at h; exact h))
                refine wp_region_ovq ov (by kernel_rfl) (by kernel_rfl) ?_
                repeat (go_big_quiet_step ((go_at_call 64; with_reducible exact HE.out _)))
                refine wpQuiet_nil ?_
                rintro _ ⟨u, rfl⟩
                have HI5 := Lib.hid (HI1.out.below Hgw.out (ov.below u))
                have ho1 := o1 u
                obtain ⟨Ab, nb, cb, hbe, _⟩ := Hrb2.out
                rw [hbe] at ho1
                have Hbe := Lib.hid hbe
                clear hbe
                clear o0 o1 k0 k1
                generalize ov.f u = w5 at *
                obtain ⟨cur5, hr5, hs5, _⟩ := HI5.out.row
                have hKn := HK.out
                have hfz : w5.frozen? ⟨g, off + K, none⟩ = false := frozen_row hr5 _
                obtain ⟨u5, hu5⟩ : ∃ u, cur5[off + K]? = some u := ⟨cur5[off + K], Array.getElem?_eq_getElem (by omega)⟩
                have hc5 : w5.cell? ⟨g, off + K, none⟩ = some u5 := by
                  rw [cell_of_row _ _ _ _ _ (0, 0) hr5]
                  exact hu5
                clear hu5 hs5 hr5
                go_wp2
                go_roundg (gk - 1)
                case measure => have := Hgk2.out; omega
                case rel =>
                  have := Hgk2.out
                  have e5 : (compE (es.take (j + 1 + (i' + 1 + 1)))).length = K + 1 := by
                    rw [show j + 1 + (i' + 1 + 1) = j + (i' + 1) + 2 by omega, compE_snoc Ha2.out Hb2.out, if_neg Hab2.out, show j + (i' + 1) + 1 = j + 1 + (i' + 1) by omega, List.length_append, HKe.out]
                    rfl
                  refine ⟨i' + 1 + 1, by omega, by omega, by rw [e5]; go_num, by go_num, by omega, Lib.hid ?_, Lib.hid (by rw [e5]; have := HK.out; omega)⟩
                  have h := HI5.out.move Ha2.out Hb2.out Hab2.out (by have := Hn.out; omega)
                  rw [Hbe.out] at h
                  rw [show j + (i' + 1) + 1 = j + 1 + (i' + 1) by omega, HKe.out] at h
                  rw [show j + 1 + (i' + 1 + 1) = j + (i' + 1) + 2 by omega]
                  exact h
            · have hni : j + 1 + i = n := by omega
              have Hes := Lib.hid (show es.take (j + 1 + i) = es from List.take_of_length_le (by rw [Hn.out]; omega))
              have hKl : (compE es).length = K := by have h := HKe.out; rwa [Hes.out] at h
              have HKl := Lib.hid hKl
              obtain ⟨cur, r1, r2, r3, r4⟩ := HI.out.row
              have hKn := HK.out
              have hcl : ∀ ty, (Builtin.clear_ #[86] ty #[.slice (some ⟨g, off + K, none⟩) (n - K) (c - K)]).run Tryz.prog wr = .ok (.tuple #[]) (wr.setCells g (off + K) (List.replicate (n - K) (.slice none 0 0))) := fun ty =>
                Lib.run_clear_slice wr _ _ ty (.slice none 0 0) Tryz.underlying86 (fun w => by go_simp) rfl rfl g (off + K) _ _ (by omega) (fun q hq => by
                  rw [cell_of_row _ _ _ _ _ (0, 0) r1]
                  simp [Array.getElem?_eq_getElem (show off + K + q < cur.size by omega)]) (fun q hq => frozen_row r1 _)
              obtain ⟨cur', s1, s2, s3, s4⟩ := setCells_row (List.replicate (n - K) (.slice none 0 0)) (off + K) wr cur r1
              have Hown := Lib.hid (show OwnAt (wr.setCells g (off + K) (List.replicate (n - K) (.slice none 0 0))) 60 1 (.slice (some ⟨g, off, none⟩) K c) K ((compE es).map Prod.fst) from by
                refine ⟨by simp [HKl.out], .inr ⟨g, off, c, cur', rfl, s1, by omega, by have := h3'.out; omega, by omega, fun q u hq => ?_⟩⟩
                rw [List.getElem?_map] at hq
                cases he : (compE es)[q]? with
                | none => rw [he] at hq; cases hq
                | some e =>
                  rw [he] at hq
                  have hql := (List.getElem?_eq_some_iff.1 he).1
                  rw [s3 _ (by omega), r3 q e (by rw [Hes.out]; exact he)]
                  exact hq)
              have Hgr := Lib.hid (show W.grownBy (wr.setCells g (off + K) (List.replicate (n - K) (.slice none 0 0))) (some g) from
                ⟨s4.os.trans HI.out.gr.os, s4.tape.trans HI.out.gr.tape, s4.output.trans HI.out.gr.output, Nat.le_trans HI.out.gr.size s4.size, fun q hq hne => (s4.block q (Nat.lt_of_lt_of_le hq HI.out.gr.size) hne).trans (HI.out.gr.block q hq hne)⟩)
              clear r1 r2 r3 r4 s1 s2 s3 s4 hKl
              go_wp2
              go_ret
              exact ⟨c, by rw [HKl.out]; rfl, by rw [HKl.out]; exact Hown.out, Hgr.out⟩
        · have hq : decide (b.2 = a.2) = false := by simpa using hab
          have Hq := Lib.hid hq
          have Hab := Lib.hid hab
          clear hq hab
          go_wp2
          obtain ⟨ov⟩ := ov_ex wr
          have o0 := ov.cell k0
          have o1 := ov.cell k1
          have HE := Lib.hid (fun u => calls_over (ov := ov) (by have h := RowAt.eq (Hrb.out.below (ov.below u)) (Hra.out.below (ov.below u)); rw [Hq.out] at h; exact h))
          refine wp_region_ovq ov (by kernel_rfl) (by kernel_rfl) ?_
          repeat (go_big_quiet_step ((go_at_call 64; with_reducible exact HE.out _)))
          refine wpQuiet_nil ?_
          rintro _ ⟨u, rfl⟩
          have Hbo := Lib.hid (Hbw.out.trans ((ov.below u).mono Hbw.out.size))
          clear o0 o1 k0 k1
          generalize ov.f u = w2 at *
          go_wp2
          go_roundg (gk - 1)
          case measure => have := Hgk.out; omega
          case rel =>
            have := Hgk.out
            refine ⟨j + 1, by omega, by go_num, by omega, Hbo, Lib.hid ?_⟩
            have h5 : es.take (j + 2) = es.take (j + 1) ++ [b] := by rw [List.take_add_one, Hb.out]; rfl
            show compE (es.take (j + 2)) = es.take (j + 2)
            rw [compE_snoc Ha.out Hb.out, if_neg Hab.out, He.out, ← h5]
      · obtain rfl : n = j + 1 := by omega
        have e : compE es = es := by
          have h := He.out
          rw [List.take_of_length_le (by rw [Hn.out]; exact Nat.le_refl _)] at h
          exact h
        have Hee := Lib.hid e
        clear e
        go_wp2
        go_ret
        rw [Hee.out]
        refine ⟨c, ?_, ?_, ?_⟩
        · rw [Hn.out]; rfl
        · rw [Hn.out]; exact Ho.out.below Hbw.out (fun x hx => by simp [Value.ownBlock] at hx; subst hx; exact Hgl.out)
        · exact ⟨Hbw.out.os, Hbw.out.tape, Hbw.out.output, Hbw.out.size, fun k hk _ => Hbw.out.block k hk⟩
end KT
end Go.Proofs.YtbiopedpceddeaaGreatDoor
