/- Part. -/
import Derived.Test.YtbiopedpceddeaaGreatDoorQz25
set_option linter.unusedVariables false
set_option linter.unusedSimpArgs false
set_option maxRecDepth 100000
set_option maxHeartbeats 16000000
namespace Go.Proofs.YtbiopedpceddeaaGreatDoor
section
open Go.RowKit Go.Maps Go.Lib
namespace KT
def ReadR (W : World) (rs : List R.Rl) (z : List UInt8) (e : Ending) (w' : World) : Prop :=
 ∃ (A : Option Addr) (c : Nat), e = .returned (.tuple #[.slice A rs.length c, .string ⟨z.toArray⟩]) ∧ OwnL (fun i => i < W.heap.size) w' (.slice A rs.length c) rs ∧ (∀ b, (Value.slice A rs.length c).ownBlock = some b → W.heap.size ≤ b) ∧ Below W.heap.size W w'
theorem no_snoc {s : List UInt8} {f e : Nat} {B c : UInt8} (hf : f ≤ e) (hB : s[e]? = some B) (hne : B ≠ c) (h : c ∉ (s.drop f).take (e - f)) : c ∉ (s.drop f).take (e + 1 - f) := by
 rw [take_snoc hf hB, List.mem_append]
 rintro (h' | h')
 · exact h h'
 · exact hne (List.mem_singleton.1 h').symm
theorem rRead_any {s : List UInt8} {rs : List R.Rl} {z : List UInt8} (hs : s.length ≤ 700000) (hr : Reads sm 0 [] s rs z) {W : World} (hT : Tens W) :
 Calls Tryz.prog 34 #[.string ⟨s.toArray⟩] W (ReadR W rs z) := by
 have HT := kH (fun X (h : Below W.heap.size W X) => hT.below h)
 have Hr := kH hr
 clear hT hr
 go_enter Tryz.func34, Tryz.ntmps34
 go_wp2_with fail
 go_loopg [4, 5, 6] 41 (fun gg s4 s5 s6 wr => ∃ (f : Nat) (m : Int) (l : List R.Rl) (A : Option Addr) (c : Nat), s4 = .slice A l.length c ∧ s5 = .int .i64 m ∧ s6 = .int .i64 (f : Int) ∧ gg + l.length = 41 ∧ f ≤ s.length ∧ 0 ≤ m ∧ m < 1000003 ∧ Hid (∀ m' z', Reads sm m l (s.drop f) m' z' → Reads sm 0 [] s m' z') ∧ Hid (OwnL (fun i => i < W.heap.size) wr (.slice A l.length c) l) ∧ Hid (∀ r ∈ l, R.rvalid r = 0) ∧ Hid (∀ b, (Value.slice A l.length c).ownBlock = some b → W.heap.size ≤ b) ∧ Hid (Below W.heap.size W wr))
 case atStart => exact ⟨0, 0, [], none, 0, rfl, rfl, rfl, rfl, Nat.zero_le _, by omega, by omega, kH (fun _ _ h => by simpa using h), kH (OwnL.nil_ _ _), kH (fun r h => by cases h), kH (fun b e => by simp [Value.ownBlock] at e), kH (Below.refl _ _)⟩
 case round =>
  obtain ⟨gO, rfl⟩ : ∃ g, g = gk := ⟨_, rfl⟩
  obtain ⟨f, m, l, A, c, rfl, rfl, rfl, hgk, hf, hm0, hm1, Hrd, Hown, Hval, Hvo, Hb⟩ := hrel
  obtain ⟨n, hn⟩ : ∃ n, n = l.length := ⟨_, rfl⟩
  have Hn := kH hn
  rw [← hn] at hgk Hown Hvo ⊢
  have Hgk := kH hgk
  have hn41 : n ≤ 41 := by omega
  clear hgk hn
  obtain ⟨w0, rfl⟩ : ∃ w, w = wr := ⟨_, rfl⟩
  have HEnd := kH (show ∀ wz, Below w0.heap.size w0 wz → Reads sm m l (s.drop f) l (s.drop f) → ReadR W rs z (.returned (.tuple #[.slice A n c, .string ⟨(s.drop f).toArray⟩])) wz from fun wz h2 h3 => by
   obtain ⟨e1, e2⟩ := (Hrd.out l _ h3).det Hr.out
   subst e1 e2
   have ho := Hown.out.below h2
   have hv := Hvo.out
   rw [Hn.out] at ho hv ⊢
   exact ⟨A, c, rfl, ho, hv, Hb.out.trans (h2.mono Hb.out.size)⟩)
  have hsz : s.toArray.size = s.length := by simp
  have he2 : (⟨s.toArray⟩ : ByteArray).extract f s.length = ⟨(s.drop f).toArray⟩ := by rw [Lib.extract_eq, List.take_of_length_le (by rw [List.length_drop]; exact Nat.le_refl _)]
  have He2 := kH he2
  by_cases hn40 : n < 40
  rotate_left
  · go_upto_region 19 with (fail)
    obtain ⟨ov⟩ := ov_ex w0
    refine wp_region_ovq ov (by kernel_rfl) (by kernel_rfl) ?_
    repeat (go_big_quiet_step (fail))
    refine wpQuiet_nil ?_
    rintro _ ⟨u, rfl⟩
    have Hst := kH (HEnd.out (ov.f u) (ov.below u) (.stop fun _ _ _ _ _ h => by have := h.2.2.2.1; rw [← Hn.out] at this; exact hn40 this))
    go_wp2_with fail
    go_ret2
    exact Hst.out
  clear he2
  go_wp2_with fail
  go_loopg [7] (s.length + 1) (fun gg s7 wr => ∃ e : Nat, f ≤ e ∧ e ≤ s.length ∧ s7 = .int .i64 (e : Int) ∧ gg + e = s.length + 1 + f ∧ Hid ((10 : UInt8) ∉ (s.drop f).take (e - f)) ∧ w0 = wr)
  case atStart => exact ⟨f, Nat.le_refl _, hf, rfl, by omega, kH (by simp), rfl⟩
  case round =>
   obtain ⟨e, hfe, hes, rfl, hgk, Hno, rfl⟩ := hrel
   have Hgk2 := kH hgk
   clear hgk
   by_cases hel : e < s.length
   · obtain ⟨B, hB⟩ : ∃ B, B = s[e] := ⟨_, rfl⟩
     have hBe : s[e]? = some B := by rw [hB]; exact List.getElem?_eq_getElem hel
     have hB2 : (⟨s.toArray⟩ : ByteArray)[e]'(show e < s.toArray.size from by simpa using hel) = B := by rw [hB]; rfl
     have hBn : B.toNat < 256 := B.toNat_lt
     have HBe := kH hBe
     clear hB hBe
     by_cases hb10 : B = 10
     · subst hb10
       have q : (((10 : UInt8).toNat : Int) != 10) = false := by decide
       obtain ⟨p, hp⟩ : ∃ p, p = (s.drop f).take (e - f) := ⟨_, rfl⟩
       have Hp := kH hp
       have hpl : p.length ≤ s.length := by rw [hp, List.length_take, List.length_drop]; omega
       have he1 : (⟨s.toArray⟩ : ByteArray).extract f e = ⟨p.toArray⟩ := by rw [Lib.extract_eq, hp]
       have q7 : ((e : Int) == (s.length : Int)) = false := by simp; omega
       have hpz : p.toArray.size = p.length := by simp
       clear hp
       go_wp2_with fail
       clear he1
       go_loopg [9] (p.length + 1) (fun gg s9 wr => ∃ g : Nat, g ≤ p.length ∧ s9 = .int .i64 (g : Int) ∧ gg + g = p.length + 1 ∧ Hid ((32 : UInt8) ∉ p.take g) ∧ w0 = wr)
       case atStart => exact ⟨0, Nat.zero_le _, rfl, rfl, kH (by simp), rfl⟩
       case round =>
        obtain ⟨g, hg, rfl, hgk, Hng, rfl⟩ := hrel
        have Hgk3 := kH hgk
        clear hgk
        by_cases hgl : g < p.length
        rotate_left
        · obtain rfl : g = p.length := by omega
          have q8 : ((p.length : Int) == (p.length : Int)) = true := by simp
          have Hnl := kH (show lineOf (s.drop f) = none from lineOf_no32 hfe HBe.out (by rw [← Hp.out]; rw [← Hp.out] at Hno; exact Hno.out) (by
           have h := Hng.out
           rw [List.take_length] at h
           rw [← Hp.out]
           exact h))
          go_upto_region 19 with (fail)
          obtain ⟨ov⟩ := ov_ex (w0)
          have he2 := He2.out
          refine wp_region_ovq ov (by kernel_rfl) (by kernel_rfl) ?_
          repeat (go_big_quiet_step (fail))
          refine wpQuiet_nil ?_
          rintro _ ⟨u, rfl⟩
          have Hst := kH (HEnd.out (ov.f u) (ov.below u) (stop_line Hnl.out))
          go_wp2_with fail
          go_ret2
          exact Hst.out
        · obtain ⟨C, hC⟩ : ∃ C, C = p[g] := ⟨_, rfl⟩
          have hCe : p[g]? = some C := by rw [hC]; exact List.getElem?_eq_getElem hgl
          have hC2 : (⟨p.toArray⟩ : ByteArray)[g]'(show g < p.toArray.size from by simpa using hgl) = C := by rw [hC]; rfl
          have hCn : C.toNat < 256 := C.toNat_lt
          have HCe := kH hCe
          clear hC hCe
          by_cases hc32 : C = 32
          rotate_left
          · have hcn : ¬ C.toNat = 32 := fun h => hc32 (UInt8.toNat_inj.1 (by rw [h]; rfl))
            have q9 : ((C.toNat : Int) != 32) = true := by simp; omega
            have Hc32 := kH hc32
            clear hc32
            go_wp2
            go_roundg (gk - 1)
            case measure => have := Hgk3.out; omega
            case rel =>
             have := Hgk3.out
             have h2 := no_snoc (s := p) (f := 0) (e := g) (Nat.zero_le _) HCe.out Hc32.out (by simpa using Hng.out)
             exact ⟨g + 1, by omega, by go_num, by omega, kH (by simpa using h2), rfl⟩
          · subst hc32
            have q9 : (((32 : UInt8).toNat : Int) != 32) = false := by decide
            have q10 : ((g : Int) == (p.length : Int)) = false := by simp; omega
            have Hline := kH (show lineOf (s.drop f) = some (p.take g, p.drop (g + 1), s.drop (e + 1)) from scan_line hfe HBe.out (by rw [← Hp.out]; rw [← Hp.out] at Hno; exact Hno.out) Hp.out HCe.out Hng.out)
            obtain ⟨t, ht⟩ : ∃ t, t = p.drop (g + 1) := ⟨_, rfl⟩
            obtain ⟨told, htold⟩ : ∃ t, t = p.take g := ⟨_, rfl⟩
            have he3 : (⟨p.toArray⟩ : ByteArray).extract (g + 1) p.length = ⟨t.toArray⟩ := by rw [Lib.extract_eq, ht, List.take_of_length_le (by rw [List.length_drop]; exact Nat.le_refl _)]
            have he4 : (⟨p.toArray⟩ : ByteArray).extract 0 g = ⟨told.toArray⟩ := by rw [Lib.extract_eq, htold]; simp
            have He4 := kH he4
            have htl : t.length ≤ 700000 := by rw [ht, List.length_drop]; omega
            rw [← ht, ← htold] at Hline
            have HP := kH (rParse_any (t := t) (by omega) (HT.out _ Hb.out))
            clear ht htold he4
            go_wp2_with fail
            (refine HP.out.mono ?_)
            rintro e w7 ⟨v1, v2, v3, r, code, rfl, hown, fl, fr, hb7, hcase⟩
            obtain ⟨A1, k1, e1⟩ := hown.ol.form
            obtain ⟨A2, k2, e2⟩ := hown.or_.form
            obtain ⟨A3, k3, e3⟩ := hown.op.form
            obtain ⟨n1, hn1⟩ : ∃ n, n = r.left.length := ⟨_, rfl⟩
            obtain ⟨n2, hn2⟩ : ∃ n, n = r.right.length := ⟨_, rfl⟩
            obtain ⟨n3, hn3⟩ : ∃ n, n = r.pre.length := ⟨_, rfl⟩
            rw [← hn1] at e1
            rw [← hn2] at e2
            rw [← hn3] at e3
            subst e1 e2 e3
            obtain ⟨w8, hw8⟩ : ∃ w8, w8 = w7.alloc (.cells #[.slice A1 n1 k1, .slice A2 n2 k2, .slice A3 n3 k3] 33) := ⟨_, rfl⟩
            have hb8 : Below w7.heap.size w7 w8 := by rw [hw8]; exact al0
            have hrow : w8.heap[w7.heap.size]? = some (.cells #[.slice A1 n1 k1, .slice A2 n2 k2, .slice A3 n3 k3] 33 (0, 0)) := by rw [hw8]; exact heap_alloc_new w7 _
            have Hb8 := kH (show Below w0.heap.size w0 w8 from hb7.trans (hb8.mono hb7.size))
            have HW8 := kH (Hb.out.trans (Hb8.out.mono Hb.out.size))
            have Ho8 := kH (hown.below hb8)
            have Hfl := kH (And.intro fl fr)
            have HR8 := kH (show RlAt w8 r n1 n2 n3 A1 A2 A3 from ⟨Ho8.out.ol.stAt (ndF_rel _) hn1.symm, Ho8.out.or_.stAt (ndF_rel _) hn2.symm, Ho8.out.op.stAt hn3.symm, fl, fr⟩)
            have HL8 := kH (Hown.out.below Hb8.out)
            obtain ⟨r0, r1, r2, _⟩ := rl_cells hrow
            have Hw8 := kH hw8
            clear hb8 hown hb7 hn1 hn2 hn3 fl fr HP hw8 hrow
            go_upto_region 15 with (fail)
            rw [← Hw8.out]
            obtain ⟨ov⟩ := ov_ex w8
            have o0 := ov.cell r0
            have o1 := ov.cell r1
            have o2 := ov.cell r2
            clear r0 r1 r2
            rcases hcase with ⟨hps, rfl⟩ | ⟨hps, rfl, rfl⟩
            rotate_left
            · have Hrd2 := kH (show Reads sm m l (s.drop f) l (s.drop f) from stop_ok Hline.out (fun r h => by have := h.1; rw [hps] at this; cases this))
              clear hps
              refine wp_region_ovq ov (by kernel_rfl) (by kernel_rfl) ?_
              repeat (go_big_quiet_step (fail))
              refine wpQuiet_nil ?_
              rintro _ ⟨u, rfl⟩
              have Hb9 := kH (Hb8.out.trans ((ov.below u).mono Hb8.out.size))
              clear o0 o1 o2
              generalize ov.f u = w9 at *
              clear ov
              go_upto_region 19 with (fail)
              obtain ⟨ov⟩ := ov_ex (w9)
              have he2 := He2.out
              refine wp_region_ovq ov (by kernel_rfl) (by kernel_rfl) ?_
              repeat (go_big_quiet_step (fail))
              refine wpQuiet_nil ?_
              rintro _ ⟨u, rfl⟩
              have Hst := kH (HEnd.out (ov.f u) (Hb9.out.trans ((ov.below u).mono Hb9.out.size)) (Hrd2.out))
              go_wp2_with fail
              go_ret2
              exact Hst.out
            have Hps := kH hps
            have Hpp := kH (parse_some.1 hps)
            clear hps
            by_cases h200 : 200 < t.length
            · have Hrd2 := kH (show Reads sm m l (s.drop f) l (s.drop f) from stop_ok Hline.out (fun r h => by have := h.2.2.2.2; omega))
              have q200 : decide ((200 : Int) < (t.length : Int)) = true := decide_eq_true (by omega)
              refine wp_region_ovq ov (by kernel_rfl) (by kernel_rfl) ?_
              repeat (go_big_quiet_step (fail))
              refine wpQuiet_nil ?_
              rintro _ ⟨u, rfl⟩
              have Hb9 := kH (Hb8.out.trans ((ov.below u).mono Hb8.out.size))
              clear o0 o1 o2
              generalize ov.f u = w9 at *
              clear ov
              go_upto_region 19 with (fail)
              obtain ⟨ov⟩ := ov_ex (w9)
              have he2 := He2.out
              refine wp_region_ovq ov (by kernel_rfl) (by kernel_rfl) ?_
              repeat (go_big_quiet_step (fail))
              refine wpQuiet_nil ?_
              rintro _ ⟨u, rfl⟩
              have Hst := kH (HEnd.out (ov.f u) (Hb9.out.trans ((ov.below u).mono Hb9.out.size)) (Hrd2.out))
              go_wp2_with fail
              go_ret2
              exact Hst.out
            have q200 : decide ((200 : Int) < (t.length : Int)) = false := decide_eq_false (by omega)
            have H200 := kH h200
            obtain ⟨m', hm'⟩ : ∃ m', m' = sumT m t := ⟨_, rfl⟩
            have Hm' := kH hm'
            have Hmr' := kH (show 0 ≤ m' ∧ m' < 1000003 from by rw [hm']; exact sumT_range _ _)
            have HSm0 := kH (fun X => rSum_any (n := m) ⟨by omega, by omega⟩ (t := t) (by omega) (W := X))
            rw [← hm'] at HSm0
            have HSm := kH (fun u => calls_over_same (ov := ov) (u := u) (HSm0.out (ov.f u)))
            obtain ⟨i, hi⟩ : ∃ i, i = itoa m' := ⟨_, rfl⟩
            have HI := kH (fun u => calls_over (ov := ov) (u := u) (kItoa_any (n := m') ⟨by have := Hmr'.out; omega, by have := Hmr'.out; omega⟩ (HT.out _ (HW8.out.trans ((ov.below u).mono HW8.out.size)))))
            rw [← hi] at HI
            have Hi := kH hi
            have he4 := He4.out
            have h0g : (0 : Int) ≤ (g : Int) := by omega
            clear hm' hi h200
            by_cases hti : told = i
            rotate_left
            · have q : (told == i) = false := by simpa using hti
              have Hrd2 := kH (show Reads sm m l (s.drop f) l (s.drop f) from stop_ok Hline.out (fun r h => hti (by rw [h.2.1, Hi.out, Hm'.out])))
              clear hti
              refine wp_region_ovq ov (by kernel_rfl) (by kernel_rfl) ?_
              repeat (go_big_quiet_step ((first | (go_at_call 30; with_reducible exact HSm.out _) | (go_at_call 86; with_reducible exact HI.out _))))
              refine wpQuiet_nil ?_
              rintro _ ⟨u, rfl⟩
              have Hb9 := kH (Hb8.out.trans ((ov.below u).mono Hb8.out.size))
              clear o0 o1 o2 HSm HI
              generalize ov.f u = w9 at *
              clear ov he4
              go_upto_region 19 with (fail)
              obtain ⟨ov⟩ := ov_ex (w9)
              have he2 := He2.out
              refine wp_region_ovq ov (by kernel_rfl) (by kernel_rfl) ?_
              repeat (go_big_quiet_step (fail))
              refine wpQuiet_nil ?_
              rintro _ ⟨u, rfl⟩
              have Hst := kH (HEnd.out (ov.f u) (Hb9.out.trans ((ov.below u).mono Hb9.out.size)) (Hrd2.out))
              go_wp2_with fail
              go_ret2
              exact Hst.out
            subst hti
            have q : (told == told) = true := by simp
            have HC := kH (fun u => calls_over (ov := ov) (u := u) (rthere_any (c := c) (dl := k1) (dr := k2) (dp := k3) (((HL8.out.below (ov.below u)).stAt Hn.out.symm)) Hval.out (HR8.out.below (ov.below u)) Hpp.out.1))
            obtain ⟨y, hy⟩ : ∃ y, y = hasT l r := ⟨_, rfl⟩
            have Hy := kH hy
            rw [← hy] at HC
            clear hy
            refine wp_region_ovq ov (by kernel_rfl) (by kernel_rfl) ?_
            repeat (go_big_quiet_step ((first | (go_at_call 30; with_reducible exact HSm.out _) | (go_at_call 86; with_reducible exact HI.out _) | (go_at_call 83; with_reducible exact HC.out _))))
            refine wpQuiet_nil ?_
            rintro _ ⟨u, rfl⟩
            have hb89 := ov.below u
            have Hb9 := kH (Hb8.out.trans (hb89.mono Hb8.out.size))
            have Ho9 := kH (Ho8.out.below hb89)
            have HL9 := kH (HL8.out.below hb89)
            have e0 := o0 u
            have e1 := o1 u
            have e2 := o2 u
            clear o0 o1 o2 HSm HI HC hb89
            generalize ov.f u = w9 at *
            clear ov he4
            cases y with
            | true =>
             have Hrd2 := kH (show Reads sm m l (s.drop f) l (s.drop f) from stop_ok Hline.out (fun r' h => by
              have e1 := h.1
              rw [Hps.out] at e1
              injection e1 with e1
              subst e1
              have h3 : hasT l r = false := h.2.2.1
              rw [← Hy.out] at h3
              cases h3))
             go_upto_region 19 with (fail)
             obtain ⟨ov⟩ := ov_ex (w9)
             have he2 := He2.out
             refine wp_region_ovq ov (by kernel_rfl) (by kernel_rfl) ?_
             repeat (go_big_quiet_step (fail))
             refine wpQuiet_nil ?_
             rintro _ ⟨u, rfl⟩
             have Hst := kH (HEnd.out (ov.f u) (Hb9.out.trans ((ov.below u).mono Hb9.out.size)) (Hrd2.out))
             go_wp2_with fail
             go_ret2
             exact Hst.out
            | false =>
             have Hlk := kH (show lineOk sm m l told t r from ⟨Hps.out, by rw [Hi.out, Hm'.out], Hy.out.symm, by rw [← Hn.out]; exact hn40, by have := H200.out; omega⟩)
             have Hrx := kH (show RlX (fun i => i < W.heap.size ∨ (Value.slice A n c).ownBlock = some i) w9 [.slice A1 n1 k1, .slice A2 n2 k2, .slice A3 n3 k3] r from RlX.own Ho9.out Hfl.out.1 Hfl.out.2 (fun i _ h => by
              rcases h with h | h
              · exact Nat.lt_of_lt_of_le h Hb.out.size
              · exact Hown.out.lt i h))
             have hll : l.length ≤ 900000 := by rw [← Hn.out]; omega
             go_wp2_with (at_builtin; go_loud (refine wpList_append_rule rfl (.tmp 84) (.tmp 86) rfl (.slice A n c) l rfl HL9.out [.slice A1 n1 k1, .slice A2 n2 k2, .slice A3 n3 k3] r Hrx.out w9.heap.size rfl rfl hll ?_); intro v' w10 hown hgr hat; obtain ⟨A10, c10, e10⟩ := hown.form; have Hown' := kH hown; have Hgr := kH hgr; have Hat := kH hat; clear hown hgr hat)
             rw [List.length_append, List.length_singleton, ← Hn.out] at e10
             subst e10
             clear hll e0 e1 e2
             go_wp2_with fail
             (with_reducible refine (HSm0.out _).mono ?_)
             rintro e' w11 ⟨rfl, rfl⟩
             go_wp2_with fail
             go_roundg (gO - 1)
             case measure => have := Hgk.out; omega
             case rel =>
              have hg1 := Hgk.out
              have hm2 := Hmr'.out
              have hsz9 := Hb9.out.size
              have hszb := Hb.out.size
              have e11 : (l ++ [r]).length = n + 1 := by rw [List.length_append, List.length_singleton, ← Hn.out]
              refine ⟨e + 1, m', l ++ [r], A10, c10, by rw [e11, Hn.out], rfl, by go_num, by rw [e11]; omega, by omega, hm2.1, hm2.2, kH (fun m3 z3 h => Hrd.out m3 z3 (.go Hline.out Hlk.out (by rw [← Hm'.out]; exact h))), by rw [e11]; exact Hown', kH (fun q hq => ?_), kH (fun b hb => ?_), kH (Hb.out.trans ?_)⟩
              · rcases List.mem_append.1 hq with hq | hq
                · exact Hval.out q hq
                · rw [List.mem_singleton] at hq; subst hq; exact Hpp.out.1
              · rw [e11] at hb
                rcases Hat.out with h | h
                · rw [h] at hb; exact Hvo.out b hb
                · rw [h] at hb; injection hb with hb; omega
              · have h9 : Below W.heap.size w9 (w9.alloc (.cells [.slice A1 n1 k1, .slice A2 n2 k2, .slice A3 n3 k3].toArray 33)) := (Below.refl _ _).alloc (by omega) _
                exact (((Hb9.out.mono hszb).trans h9).grown Hgr.out (by simp; omega) (fun g hg => Hvo.out g hg))
     · have hbn : ¬ B.toNat = 10 := fun h => hb10 (UInt8.toNat_inj.1 (by rw [h]; rfl))
       have q : ((B.toNat : Int) != 10) = true := by simp; omega
       have Hb10 := kH hb10
       clear hb10
       go_wp2
       go_roundg (gk - 1)
       case measure => have := Hgk2.out; omega
       case rel =>
        have := Hgk2.out
        exact ⟨e + 1, by omega, by omega, by go_num, by omega, kH (no_snoc hfe HBe.out Hb10.out Hno.out), rfl⟩
   · obtain rfl : e = s.length := by omega
     have q7 : ((s.length : Int) == (s.length : Int)) = true := by simp
     have Hnl := kH (show lineOf (s.drop f) = none from lineOf_no10 (by
      have h := Hno.out
      rw [List.take_of_length_le (by rw [List.length_drop]; exact Nat.le_refl _)] at h
      exact h))
     go_upto_region 19 with (fail)
     obtain ⟨ov⟩ := ov_ex (w0)
     have he2 := He2.out
     refine wp_region_ovq ov (by kernel_rfl) (by kernel_rfl) ?_
     repeat (go_big_quiet_step (fail))
     refine wpQuiet_nil ?_
     rintro _ ⟨u, rfl⟩
     have Hst := kH (HEnd.out (ov.f u) (ov.below u) (stop_line Hnl.out))
     go_wp2_with fail
     go_ret2
     exact Hst.out
end KT
end
section
open Go.RowKit Go.Maps Go.Lib
namespace KT
def ReadQ (W : World) (rs : List R.Rl) (z : List UInt8) (e : Ending) (w' : World) : Prop :=
 ∃ (A : Option Addr) (n c : Nat), e = .returned (.tuple #[.slice A n c, .string ⟨z.toArray⟩]) ∧ StAt 3 RlR w' A n rs ∧ Below W.heap.size W w'
theorem Read_any {s : List UInt8} {rs : List R.Rl} {z : List UInt8} (hs : s.length ≤ 700000) (hr : Reads sm 0 [] s rs z) {W : World} (hL : Lb W) :
 Calls Tryz.prog 33 #[.string ⟨s.toArray⟩] W (ReadQ W rs z) := by
 have HC := kH (read_any hs hr hL)
 clear hL hr
 go_enter Tryz.func33, Tryz.ntmps33
 go_wp2_with fail
 (refine HC.out.mono ?_)
 rintro e w2 ⟨g, mb, v, ks, rfl, hst, hb, hN⟩
 obtain ⟨A, c, hv⟩ := hst.own.form
 subst hv
 have hg0 : w2.cell? ⟨g, 0, none⟩ = some (.slice A rs.length c) := by rw [cell_of_row _ _ _ _ _ (0, 0) hst.row]; rfl
 have Hst := kH hst
 have Hb := kH hb
 clear hst hb hN HC
 go_wp2_with fail
 go_ret2
 exact ⟨A, _, c, rfl, Hst.out.own.stAt rfl, Hb.out⟩
def OpenedP (W : World) (rs : List R.Rl) (z : List UInt8) (e : Ending) (w' : World) : Prop :=
 Below W.heap.size W w' ∧ ((z = [] ∧ ∃ (g mb : Nat) (v : Value) (ks : List (List UInt8)), e = .returned (.tuple #[.pointer (some ⟨g, 0, none⟩), .int .i64 0]) ∧ StoreAt W.heap.size w' g v mb rs ks ∧ ∀ i, Nst g mb v i → W.heap.size ≤ i) ∨
  (z ≠ [] ∧ e = .returned (.tuple #[.pointer none, .int .i64 10])))
theorem opened_any {s : List UInt8} {rs : List R.Rl} {z : List UInt8} (hs : s.length ≤ 700000) (hr : Reads sm 0 [] s rs z) {W : World} (hL : Lb W) :
 Calls Tryz.prog 87 #[.string ⟨s.toArray⟩] W (OpenedP W rs z) := by
 have HC := kH (read_any hs hr hL)
 clear hL hr
 go_enter Tryz.func87, Tryz.ntmps87
 go_wp2_with fail
 (refine HC.out.mono ?_)
 rintro e w2 ⟨g, mb, v, ks, rfl, hst, hb, hN⟩
 have Hst := kH hst
 have Hb := kH hb
 have HN := kH hN
 clear hst hb hN HC
 cases z with
 | nil =>
  go_wp2_with fail
  go_ret2
  exact ⟨Hb.out, .inl ⟨rfl, g, mb, v, ks, rfl, Hst.out, HN.out⟩⟩
 | cons y z =>
  have q : ((y :: z) == []) = false := by simp
  go_wp2_with fail
  go_ret2
  exact ⟨Hb.out, .inr ⟨by simp, rfl⟩⟩
def HasP (W : World) (rs : List R.Rl) (z : List UInt8) (r : R.Rl) (e : Ending) (w' : World) : Prop :=
 e = .returned (.tuple #[.bool (hasA rs z r).1, .int .i64 (hasA rs z r).2]) ∧ Below W.heap.size W w'
theorem hasP_of {W w' : World} {rs : List R.Rl} {z : List UInt8} {r : R.Rl} {b : Bool} {c : Int} (h : hasA rs z r = (b, c)) (hb : Below W.heap.size W w') : HasP W rs z r (.returned (.tuple #[.bool b, .int .i64 c])) w' := ⟨by rw [h], hb⟩
theorem Has_any {s : List UInt8} {rs : List R.Rl} {z : List UInt8} (hs : s.length ≤ 700000) (hr : Reads sm 0 [] s rs z) {r : R.Rl} {nl cl nr cr np cp : Nat} {AL AR AP : Option Addr} {W : World} (hR : RlAt W r nl nr np AL AR AP) (hL : Lb W) :
 Calls Tryz.prog 37 #[.string ⟨s.toArray⟩, .agg #[.slice AL nl cl, .slice AR nr cr, .slice AP np cp]] W (HasP W rs z r) := by
 obtain ⟨W1, hW1⟩ : ∃ W1, W1 = W.alloc (.cells #[.slice AL nl cl, .slice AR nr cr, .slice AP np cp] 33) := ⟨_, rfl⟩
 have hb1 : Below W.heap.size W W1 := by rw [hW1]; exact al0
 have hrow : W1.heap[W.heap.size]? = some (.cells #[.slice AL nl cl, .slice AR nr cr, .slice AP np cp] 33 (0, 0)) := by rw [hW1]; exact heap_alloc_new W _
 have HK := kH (kKey_any (cl := cl) (cr := cr) (cp := cp) (hR.below hb1) (hL.below hb1).tens)
 unfold KeyPost at HK
 have HO := kH (fun X (h : Below W.heap.size W X) => opened_any hs hr (hL.below h))
 have HB1 := kH hb1
 have HW1 := kH hW1
 obtain ⟨c0, c1, c2, _⟩ := rl_cells hrow
 clear hR hL hb1 hrow hW1 hr
 obtain ⟨y, hy⟩ : ∃ y, R.rvalid r = y := ⟨_, rfl⟩
 have Hy := kH hy
 rw [hy] at HK
 clear hy
 go_enter Tryz.func37, Tryz.ntmps37
 go_upto_region 1 with (fail)
 rw [← HW1.out]
 go_wp2_with fail
 (refine HK.out.mono ?_)
 rintro e w2 ⟨k, rfl, hk1, _, hb2, hkl⟩
 have Hk1 := kH hk1
 have Hkl := kH hkl
 have Hb2 := kH (HB1.out.trans (hb2.mono HB1.out.size))
 clear hk1 hb2 hkl c0 c1 c2 HK
 by_cases hy0 : y = 0
 rotate_left
 · have q : (y != 0) = true := by simpa using hy0
   have Hh := kH (show hasA rs z r = (false, y) from by unfold hasA; rw [Hy.out, if_pos hy0])
   clear hy0
   go_wp2_with fail
   go_ret2
   exact hasP_of Hh.out Hb2.out
 subst hy0
 have HKey := kH (show IsKey r k from by first | exact Hk1.out trivial | exact Hk1.out rfl)
 go_wp2_with fail
 (refine (HO.out _ Hb2.out).mono ?_)
 rintro e w3 ⟨hb3, h3⟩
 have Hb3 := kH (Hb2.out.trans (hb3.mono Hb2.out.size))
 clear hb3
 rcases h3 with ⟨rfl, g, mb, v, ks, rfl, hst, _⟩ | ⟨hz, rfl⟩
 · have Hst := kH hst
   have hg1 : w3.cell? ⟨g, 1, none⟩ = some (.map (some mb)) := by rw [cell_of_row _ _ _ _ _ (0, 0) hst.row]; rfl
   have hz : ∀ w, (zeroValue 3).run Tryz.prog w = .ok (.int .i64 0) w := fun w => by go_simp
   obtain ⟨u, _, hlook, _⟩ := hst.map_.lookup (k := k) strKeyed ekS_inj Tryz.underlying126 (hz w3) (keyOf_str (by have := Hkl.out; omega))
   rw [entS_get hst.nd] at hlook
   have hhas := hst.has Hy.out HKey.out
   unfold ekS at hlook
   clear hst hz
   by_cases hm : k ∈ ks
   · rw [if_pos hm] at hlook
     simp only [Option.isSome_some] at hlook
     have Hh := kH (show hasA rs [] r = (true, 0) from by
      rw [decide_eq_true hm] at hhas
      unfold hasA
      rw [Hy.out, if_neg (by decide), if_neg (by simp), ← hhas])
     clear hm hhas
     go_wp2_with fail
     go_ret2
     exact hasP_of Hh.out Hb3.out
   · rw [if_neg hm] at hlook
     simp only [Option.isSome_none] at hlook
     have Hh := kH (show hasA rs [] r = (false, 0) from by
      rw [decide_eq_false hm] at hhas
      unfold hasA
      rw [Hy.out, if_neg (by decide), if_neg (by simp), ← hhas])
     clear hm hhas
     go_wp2_with fail
     go_ret2
     exact hasP_of Hh.out Hb3.out
 · have Hh := kH (show hasA rs z r = (false, 10) from by
    unfold hasA
    rw [Hy.out, if_neg (by decide), if_pos hz])
   clear hz
   go_wp2_with fail
   go_ret2
   exact hasP_of Hh.out Hb3.out
def AddP (W : World) (s : List UInt8) (rs : List R.Rl) (z : List UInt8) (r : R.Rl) (e : Ending) (w' : World) : Prop :=
 e = .returned (.tuple #[.string ⟨(addA s rs z r).1.toArray⟩, .bool (addA s rs z r).2.1, .int .i64 (addA s rs z r).2.2]) ∧ Below W.heap.size W w'
theorem addP_of {W w' : World} {s t : List UInt8} {rs : List R.Rl} {z : List UInt8} {r : R.Rl} {b : Bool} {c : Int} (h : addA s rs z r = (t, b, c)) (hb : Below W.heap.size W w') : AddP W s rs z r (.returned (.tuple #[.string ⟨t.toArray⟩, .bool b, .int .i64 c])) w' := ⟨by rw [h], hb⟩
theorem Add_any {s : List UInt8} {rs : List R.Rl} {z : List UInt8} (hs : s.length ≤ 700000) (hr : Reads sm 0 [] s rs z) {r : R.Rl} {nl cl nr cr np cp : Nat} {AL AR AP : Option Addr} {W : World} (hR : RlAt W r nl nr np AL AR AP) (hL : Lb W) :
 Calls Tryz.prog 35 #[.string ⟨s.toArray⟩, .agg #[.slice AL nl cl, .slice AR nr cr, .slice AP np cp]] W (AddP W s rs z r) := by
 obtain ⟨W1, hW1⟩ : ∃ W1, W1 = W.alloc (.cells #[.slice AL nl cl, .slice AR nr cr, .slice AP np cp] 33) := ⟨_, rfl⟩
 have hb1 : Below W.heap.size W W1 := by rw [hW1]; exact al0
 have hrow : W1.heap[W.heap.size]? = some (.cells #[.slice AL nl cl, .slice AR nr cr, .slice AP np cp] 33 (0, 0)) := by rw [hW1]; exact heap_alloc_new W _
 have HH := kH (Has_any (cl := cl) (cr := cr) (cp := cp) hs hr (hR.below hb1) (hL.below hb1))
 have HO := kH (fun X (h : Below W.heap.size W X) => opened_any hs hr (hL.below h))
 have HL := kH (fun X (h : Below W.heap.size W X) => hL.below h)
 have HR := kH hR
 have HGood := kH hr.is_store.1
 have HB1 := kH hb1
 have HW1 := kH hW1
 have Hrow := kH (fun (X : World) (h : Below W1.heap.size W1 X) => (h.block _ (gA hrow).1).trans hrow)
 obtain ⟨c0, c1, c2, _⟩ := rl_cells hrow
 obtain ⟨b, c, hbc⟩ : ∃ b c, hasA rs z r = (b, c) := ⟨_, _, rfl⟩
 have Hbc := kH hbc
 unfold HasP at HH
 rw [hbc] at HH
 have Haa := kH (show (c ≠ 0 → addA s rs z r = ([], false, c)) ∧ (c = 0 → R.rvalid r = 0 ∧ z = [] ∧ hasT rs r = b) from by
  unfold hasA at hbc
  unfold addA
  split at hbc
  · rename_i h
    injection hbc with e1 e2
    subst e1 e2
    exact ⟨fun _ => by rw [if_pos h], fun e => absurd e h⟩
  · rename_i h
    split at hbc
    · rename_i h2
      injection hbc with e1 e2
      subst e1 e2
      exact ⟨fun _ => by rw [if_neg h, if_pos h2], fun e => by cases e⟩
    · rename_i h2
      injection hbc with e1 e2
      subst e1 e2
      exact ⟨fun e => absurd rfl e, fun _ => ⟨by omega, by simpa using h2, rfl⟩⟩)
 clear hR hL hb1 hrow hW1 hbc hr
 go_enter Tryz.func35, Tryz.ntmps35
 go_upto_region 1 with (fail)
 rw [← HW1.out]
 go_wp2_with fail
 (refine HH.out.mono ?_)
 rintro e w2 ⟨rfl, hb2⟩
 have Hb12 := kH hb2
 have Hb2 := kH (HB1.out.trans (hb2.mono HB1.out.size))
 clear hb2 c0 c1 c2 HH
 by_cases hc0 : c = 0
 rotate_left
 · have q : (c != 0) = true := by simpa using hc0
   have Hh := kH (Haa.out.1 hc0)
   clear hc0
   go_wp2_with fail
   go_ret3
   exact addP_of Hh.out Hb2.out
 subst hc0
 obtain ⟨hv, rfl, hht⟩ := Haa.out.2 rfl
 have Hv := kH hv
 have Hht := kH hht
 clear hv hht
 cases b with
 | true =>
  have Hh := kH (show addA s rs [] r = (s, false, 0) from by
   unfold addA
   rw [Hv.out, if_neg (by decide), if_neg (by simp), if_pos Hht.out])
  go_wp2_with fail
  go_ret3
  exact addP_of Hh.out Hb2.out
 | false =>
  go_wp2_with fail
  (refine (HO.out _ Hb2.out).mono ?_)
  rintro e w3 ⟨hb3, h3⟩
  have Hb13 := kH (Hb12.out.trans (hb3.mono Hb12.out.size))
  have Hb3 := kH (Hb2.out.trans (hb3.mono Hb2.out.size))
  clear hb3
  rcases h3 with ⟨_, g, mb, v, ks, rfl, hst, hN⟩ | ⟨hz, rfl⟩
  rotate_left
  · exact absurd rfl hz
  have hNw : ∀ i, (i < w2.heap.size ∨ Nst g mb v i) → True := fun _ _ => trivial
  have HA := kH (add_any (B := 0) (cl := cl) (cr := cr) (cp := cp) (h := ⟨hst.row, hst.own.step (N := fun _ => False) (Kpm.refl _ _) (fun _ _ h => h.elim) (fun _ _ h => h) (fun i _ h => by rcases h with h | h; exact absurd h (Nat.not_lt_zero _); exact .inr h), hst.map_, hst.nd, hst.len, hst.key, hst.val⟩) (fun w' hk => HR.out.below (Hb3.out.trans (hk.below Hb3.out.size (fun i h => by
   rcases h with h | h
   · exact absurd h (Nat.not_lt_zero _)
   · exact Nat.le_trans Hb2.out.size (hN i h))))) Hv.out (fun w' hk => (HL.out w' (Hb3.out.trans (hk.below Hb3.out.size (fun i h => Nat.le_trans Hb2.out.size (hN i h))))).tens) (by have := HGood.out.len; omega))
  have HN := kH hN
  obtain ⟨y, hy⟩ : ∃ y, addC rs r = y := ⟨_, rfl⟩
  have Hy := kH hy
  unfold AddPost at HA
  rw [hy] at HA
  have hgood := HGood.out
  have Hyc := kH (show (y = 0 ∧ smallT (rs ++ [r]) = true) ∨ (y = 3 ∧ smallT (rs ++ [r]) = false) from by
   have h := hy
   unfold addC at h
   rw [Hht.out, if_neg (by decide)] at h
   split at h
   · rename_i hh
     refine .inr ⟨h.symm, ?_⟩
     cases e : smallT (rs ++ [r]) with
     | false => rfl
     | true =>
      obtain ⟨s1, s2⟩ := (smallT_iff _).1 e
      have s3 := s2 r (by simp)
      rw [List.length_append, List.length_singleton] at s1
      omega
   · rename_i hh
     refine .inl ⟨h.symm, (smallT_iff _).2 ⟨?_, fun q hq => ?_⟩⟩
     · rw [List.length_append, List.length_singleton]; omega
     · rcases List.mem_append.1 hq with hq | hq
       · exact hgood.short q hq
       · rw [List.mem_singleton] at hq; subst hq; omega)
  obtain ⟨d0, d1, d2, _⟩ := rl_cells (Hrow.out _ Hb13.out)
  clear hst hN hNw hy hgood
  go_wp2_with fail
  (refine HA.out.mono ?_)
  rintro e w4 ⟨v', ks', rfl, hst4, hk4, hv4⟩
  have Hb4 := kH (Hb3.out.trans (hk4.below Hb3.out.size (fun i h => Nat.le_trans Hb2.out.size (HN.out i h))))
  have Hst4 := kH hst4
  clear hst4 hk4 hv4 HA d0 d1 d2
  rcases Hyc.out with ⟨rfl, hsm⟩ | ⟨rfl, hsm⟩
  · have hst := Hst4.out
    unfold addR at hst
    rw [Hy.out, if_pos rfl] at hst
    have Hh := kH (show addA s rs [] r = (storeT (rs ++ [r]), true, 0) from by
     unfold addA
     rw [Hv.out, if_neg (by decide), if_neg (by simp), Hht.out, if_neg (by decide), hsm, if_neg (by decide)])
    obtain ⟨Av, cv, hv⟩ := hst.own.form
    subst hv
    have HX := kH (text_any hst.row (hst.own.stAt rfl) hst.wrt ((smallT_iff _).1 hsm).2 (by have := ((smallT_iff _).1 hsm).1; omega) (HL.out _ Hb4.out).tens)
    clear hst hsm Hst4
    go_wp2_with fail
    (with_reducible refine HX.out.mono ?_)
    rintro e w5 ⟨rfl, hb5⟩
    have Hb5 := kH (Hb4.out.trans (hb5.mono Hb4.out.size))
    clear hb5 HX
    go_wp2_with fail
    go_ret3
    exact addP_of Hh.out Hb5.out
  · have Hh := kH (show addA s rs [] r = ([], false, 3) from by
     unfold addA
     rw [Hv.out, if_neg (by decide), if_neg (by simp), Hht.out, if_neg (by decide), hsm, if_pos rfl])
    clear hsm
    go_wp2_with fail
    go_ret3
    exact addP_of Hh.out Hb4.out
end KT
end
section
open Go.RowKit Go.Maps Go.Lib
namespace KT
def WholeP (W : World) (rs : List R.Rl) (z : List UInt8) (e : Ending) (w' : World) : Prop :=
 Below W.heap.size W w' ∧ ((z = [] ∧ ∃ (A : Option Addr) (c : Nat), e = .returned (.tuple #[.slice A rs.length c, .int .i64 0]) ∧ OwnL (fun i => i < W.heap.size) w' (.slice A rs.length c) rs ∧ ∀ b, (Value.slice A rs.length c).ownBlock = some b → W.heap.size ≤ b) ∨
  (z ≠ [] ∧ e = .returned (.tuple #[.slice none 0 0, .int .i64 10])))
theorem rwhole_any {s : List UInt8} {rs : List R.Rl} {z : List UInt8} (hs : s.length ≤ 700000) (hr : Reads sm 0 [] s rs z) {W : World} (hT : Tens W) :
 Calls Tryz.prog 88 #[.string ⟨s.toArray⟩] W (WholeP W rs z) := by
 have HC := kH (rRead_any hs hr hT)
 clear hT hr
 go_enter Tryz.func88, Tryz.ntmps88
 go_wp2_with fail
 (refine HC.out.mono ?_)
 rintro e w2 ⟨A, c, rfl, ho, hv, hb⟩
 have Ho := kH ho
 have Hv := kH hv
 have Hb := kH hb
 clear ho hv hb HC
 cases z with
 | nil =>
  go_wp2_with fail
  go_ret2
  exact ⟨Hb.out, .inl ⟨rfl, A, c, rfl, Ho.out, Hv.out⟩⟩
 | cons y z =>
  have q : ((y :: z) == []) = false := by simp
  go_wp2_with fail
  go_ret2
  exact ⟨Hb.out, .inr ⟨by simp, rfl⟩⟩
theorem rHas_any {s : List UInt8} {rs : List R.Rl} {z : List UInt8} (hs : s.length ≤ 700000) (hr : Reads sm 0 [] s rs z) {r : R.Rl} {nl cl nr cr np cp : Nat} {AL AR AP : Option Addr} {W : World} (hR : RlAt W r nl nr np AL AR AP) (hT : Tens W) :
 Calls Tryz.prog 38 #[.string ⟨s.toArray⟩, .agg #[.slice AL nl cl, .slice AR nr cr, .slice AP np cp]] W (HasP W rs z r) := by
 obtain ⟨W1, hW1⟩ : ∃ W1, W1 = W.alloc (.cells #[.slice AL nl cl, .slice AR nr cr, .slice AP np cp] 33) := ⟨_, rfl⟩
 have hb1 : Below W.heap.size W W1 := by rw [hW1]; exact al0
 have hrow : W1.heap[W.heap.size]? = some (.cells #[.slice AL nl cl, .slice AR nr cr, .slice AP np cp] 33 (0, 0)) := by rw [hW1]; exact heap_alloc_new W _
 have HK := kH (rValidate_rule (cl := cl) (cr := cr) (cp := cp) (hR.below hb1))
 have HO := kH (fun X (h : Below W.heap.size W X) => rwhole_any hs hr (hT.below h))
 have HB1 := kH hb1
 have HW1 := kH hW1
 have HR := kH hR
 have HGood := kH hr.is_store.1
 have Hrow := kH (fun (X : World) (h : Below W1.heap.size W1 X) => (h.block _ (gA hrow).1).trans hrow)
 obtain ⟨c0, c1, c2, _⟩ := rl_cells hrow
 clear hR hT hb1 hrow hW1 hr
 obtain ⟨y, hy⟩ : ∃ y, R.rvalid r = y := ⟨_, rfl⟩
 have Hy := kH hy
 rw [hy] at HK
 clear hy
 go_enter Tryz.func38, Tryz.ntmps38
 go_upto_region 1 with (fail)
 rw [← HW1.out]
 go_wp2_with fail
 (with_reducible refine HK.out.mono ?_)
 rintro e w2 ⟨rfl, hb2⟩
 have Hb12 := kH hb2
 have Hb2 := kH (HB1.out.trans (hb2.mono HB1.out.size))
 clear hb2 c0 c1 c2 HK
 by_cases hy0 : y = 0
 rotate_left
 · have q : (y != 0) = true := by simpa using hy0
   have Hh := kH (show hasA rs z r = (false, y) from by unfold hasA; rw [Hy.out, if_pos hy0])
   clear hy0
   go_wp2_with fail
   go_ret2
   exact hasP_of Hh.out Hb2.out
 subst hy0
 go_wp2_with fail
 (refine (HO.out _ Hb2.out).mono ?_)
 rintro e w3 ⟨hb3, h3⟩
 have Hb13 := kH (Hb12.out.trans (hb3.mono Hb12.out.size))
 have Hb3 := kH (Hb2.out.trans (hb3.mono Hb2.out.size))
 clear hb3
 rcases h3 with ⟨rfl, A, c, rfl, ho, _⟩ | ⟨hz, rfl⟩
 · have HT2 := kH (rthere_any (c := c) (dl := cl) (dr := cr) (dp := cp) (ho.stAt rfl) HGood.out.valid (HR.out.below Hb3.out) Hy.out)
   obtain ⟨b, hb⟩ : ∃ b, b = hasT rs r := ⟨_, rfl⟩
   have Hh := kH (show hasA rs [] r = (b, 0) from by
    unfold hasA
    rw [Hy.out, if_neg (by decide), if_neg (by simp), hb])
   rw [← hb] at HT2
   obtain ⟨d0, d1, d2, _⟩ := rl_cells (Hrow.out _ Hb13.out)
   clear ho hb
   go_wp2_with fail
   (with_reducible refine HT2.out.mono ?_)
   rintro e w4 ⟨rfl, hb4⟩
   have Hb4 := kH (Hb3.out.trans (hb4.mono Hb3.out.size))
   clear hb4 HT2 d0 d1 d2
   go_wp2_with fail
   go_ret2
   exact hasP_of Hh.out Hb4.out
 · have Hh := kH (show hasA rs z r = (false, 10) from by
    unfold hasA
    rw [Hy.out, if_neg (by decide), if_pos hz])
   clear hz
   go_wp2_with fail
   go_ret2
   exact hasP_of Hh.out Hb3.out
theorem rAdd_any {s : List UInt8} {rs : List R.Rl} {z : List UInt8} (hs : s.length ≤ 700000) (hr : Reads sm 0 [] s rs z) {r : R.Rl} {nl cl nr cr np cp : Nat} {AL AR AP : Option Addr} {W : World} (hR : RlAt W r nl nr np AL AR AP) (hT : Tens W) :
 Calls Tryz.prog 36 #[.string ⟨s.toArray⟩, .agg #[.slice AL nl cl, .slice AR nr cr, .slice AP np cp]] W (AddP W s rs z r) := by
 obtain ⟨W1, hW1⟩ : ∃ W1, W1 = W.alloc (.cells #[.slice AL nl cl, .slice AR nr cr, .slice AP np cp] 33) := ⟨_, rfl⟩
 have hb1 : Below W.heap.size W W1 := by rw [hW1]; exact al0
 have hrow : W1.heap[W.heap.size]? = some (.cells #[.slice AL nl cl, .slice AR nr cr, .slice AP np cp] 33 (0, 0)) := by rw [hW1]; exact heap_alloc_new W _
 have HK := kH (rValidate_rule (cl := cl) (cr := cr) (cp := cp) (hR.below hb1))
 have HO := kH (fun X (h : Below W.heap.size W X) => rwhole_any hs hr (hT.below h))
 have HT := kH (fun X (h : Below W.heap.size W X) => hT.below h)
 have HB1 := kH hb1
 have HW1 := kH hW1
 have HR := kH hR
 have HGood := kH hr.is_store.1
 have Hrow := kH (fun (X : World) (h : Below W1.heap.size W1 X) => (h.block _ (gA hrow).1).trans hrow)
 obtain ⟨c0, c1, c2, _⟩ := rl_cells hrow
 clear hR hT hb1 hrow hW1 hr
 obtain ⟨y, hy⟩ : ∃ y, R.rvalid r = y := ⟨_, rfl⟩
 have Hy := kH hy
 rw [hy] at HK
 clear hy
 go_enter Tryz.func36, Tryz.ntmps36
 go_upto_region 1 with (fail)
 rw [← HW1.out]
 go_wp2_with fail
 (with_reducible refine HK.out.mono ?_)
 rintro e w2 ⟨rfl, hb2⟩
 have Hb12 := kH hb2
 have Hb2 := kH (HB1.out.trans (hb2.mono HB1.out.size))
 clear hb2 c0 c1 c2 HK
 by_cases hy0 : y = 0
 rotate_left
 · have q : (y != 0) = true := by simpa using hy0
   have Hh := kH (show addA s rs z r = ([], false, y) from by unfold addA; rw [Hy.out, if_pos hy0])
   clear hy0
   go_wp2_with fail
   go_ret3
   exact addP_of Hh.out Hb2.out
 subst hy0
 go_wp2_with fail
 (refine (HO.out _ Hb2.out).mono ?_)
 rintro e w3 ⟨hb3, h3⟩
 have Hb13 := kH (Hb12.out.trans (hb3.mono Hb12.out.size))
 have Hb3 := kH (Hb2.out.trans (hb3.mono Hb2.out.size))
 clear hb3
 rcases h3 with ⟨rfl, A, c, rfl, ho, hov⟩ | ⟨hz, rfl⟩
 rotate_left
 · have Hh := kH (show addA s rs z r = ([], false, 10) from by
    unfold addA
    rw [Hy.out, if_neg (by decide), if_pos hz])
   clear hz
   go_wp2_with fail
   go_ret3
   exact addP_of Hh.out Hb3.out
 have HT2 := kH (rthere_any (c := c) (dl := cl) (dr := cr) (dp := cp) (ho.stAt rfl) HGood.out.valid (HR.out.below Hb3.out) Hy.out)
 have Ho := kH ho
 have Hov := kH hov
 obtain ⟨n, hn⟩ : ∃ n, n = rs.length := ⟨_, rfl⟩
 have Hn := kH hn
 rw [← hn] at HT2 Ho Hov ⊢
 obtain ⟨b, hb⟩ : ∃ b, b = hasT rs r := ⟨_, rfl⟩
 have Hht := kH hb
 rw [← hb] at HT2
 obtain ⟨d0, d1, d2, _⟩ := rl_cells (Hrow.out _ Hb13.out)
 clear ho hb hov hn
 go_wp2_with fail
 (with_reducible refine HT2.out.mono ?_)
 rintro e w4 ⟨rfl, hb4⟩
 have Hb14 := kH (Hb13.out.trans (hb4.mono Hb13.out.size))
 have Hb4 := kH (Hb3.out.trans (hb4.mono Hb3.out.size))
 have Ho4 := kH (Ho.out.below hb4)
 clear hb4 HT2 d0 d1 d2
 cases b with
 | true =>
  have Hh := kH (show addA s rs [] r = (s, false, 0) from by
   unfold addA
   rw [Hy.out, if_neg (by decide), if_neg (by simp), if_pos Hht.out.symm])
  go_wp2_with fail
  go_ret3
  exact addP_of Hh.out Hb4.out
 | false =>
  have Hrx := kH (show RlX (fun i => i < 0 ∨ (Value.slice A n c).ownBlock = some i) w4 [.slice AL nl cl, .slice AR nr cr, .slice AP np cp] r from ⟨nl, cl, nr, cr, np, cp, AL, AR, AP, rfl, fun w' hk => HR.out.below (Hb4.out.trans (hk.below Hb4.out.size (fun i h => by
   rcases h with h | h
   · exact absurd h (Nat.not_lt_zero _)
   · exact Nat.le_trans Hb2.out.size (Hov.out i h))))⟩)
  have Ho5 := kH (show OwnL (fun i => i < 0) w4 (.slice A n c) rs from Ho4.out.step (N := fun _ => False) (Kpm.refl _ _) (fun _ _ h => h.elim) (fun _ _ h => h) (fun i _ h => absurd h (Nat.not_lt_zero _)))
  have hll : rs.length ≤ 900000 := by have := HGood.out.len; omega
  obtain ⟨d0, d1, d2, _⟩ := rl_cells (Hrow.out _ Hb14.out)
  go_wp2_with (at_builtin; go_loud (refine wpList_append_rule rfl (.tmp 26) (.tmp 28) rfl (.slice A n c) rs rfl Ho5.out [.slice AL nl cl, .slice AR nr cr, .slice AP np cp] r Hrx.out w4.heap.size rfl rfl hll ?_); intro v' w5 hown hgr hat; obtain ⟨A5, c5, e5⟩ := hown.form; have Hown' := kH hown; have Hgr := kH hgr; clear hown hgr hat)
  rw [List.length_append, List.length_singleton] at e5
  subst e5
  have hb5 : Below W.heap.size w4 w5 := (((Below.refl W.heap.size w4).alloc Hb4.out.size _).grown Hgr.out (by simp; exact Nat.le_succ_of_le Hb4.out.size) (fun g hg => Nat.le_trans Hb2.out.size (Hov.out g hg)))
  have Hb5 := kH (Hb4.out.trans hb5)
  have Hrr := kH (show RlR w5 [.slice AL nl cl, .slice AR nr cr, .slice AP np cp] r from ⟨nl, cl, nr, cr, np, cp, AL, AR, AP, rfl, HR.out.below Hb5.out⟩)
  have Hs5 := kH (Hown'.out.stAt (show (rs ++ [r]).length = rs.length + 1 from by rw [List.length_append, List.length_singleton]))
  have Hwr := kH (show ∀ q ∈ rs ++ [r], Wrt q from fun q hq => by
   rcases List.mem_append.1 hq with hq | hq
   · obtain ⟨k, hk⟩ := List.mem_iff_getElem?.1 hq
     obtain ⟨cells, _, h2⟩ := Ho5.out
     exact wrt_of_valid (h2 k q hk).now (HGood.out.valid q hq)
   · rw [List.mem_singleton] at hq
     subst hq
     exact wrt_of_valid Hrr.out Hy.out)
  have HF := kH (rfits_any (c := c5) Hs5.out Hwr.out (HT.out _ Hb5.out))
  obtain ⟨x, hx⟩ : ∃ x, fitsC (rs ++ [r]) = x := ⟨_, rfl⟩
  have Hx := kH hx
  rw [hx] at HF
  clear hll hb5 hx d0 d1 d2
  go_wp2_with fail
  (with_reducible refine HF.out.mono ?_)
  rintro e w6 ⟨rfl, hb6⟩
  have Hb6 := kH (Hb5.out.trans (hb6.mono Hb5.out.size))
  have Hs6 := kH (Hs5.out.below monoRl hb6)
  clear hb6 HF
  by_cases hsm : smallT (rs ++ [r]) = true
  · obtain rfl : 0 = x := by rw [← Hx.out]; unfold fitsC; rw [if_pos hsm]
    have Hh := kH (show addA s rs [] r = (storeT (rs ++ [r]), true, 0) from by
     unfold addA
     rw [Hy.out, if_neg (by decide), if_neg (by simp), ← Hht.out, if_neg (by decide), hsm, if_neg (by decide)])
    have HX := kH (rstore_any (c := c5) Hs6.out Hwr.out ((smallT_iff _).1 hsm).2 (by have := HGood.out.len; have := Hn.out; omega) (HT.out _ Hb6.out))
    clear hsm
    go_wp2_with fail
    (with_reducible refine HX.out.mono ?_)
    rintro e w7 ⟨rfl, hb7⟩
    have Hb7 := kH (Hb6.out.trans (hb7.mono Hb6.out.size))
    clear hb7 HX
    go_wp2_with fail
    go_ret3
    exact addP_of Hh.out Hb7.out
  · have hsf : smallT (rs ++ [r]) = false := by simpa using hsm
    obtain rfl : 3 = x := by rw [← Hx.out]; unfold fitsC; rw [if_neg hsm]
    have Hh := kH (show addA s rs [] r = ([], false, 3) from by
     unfold addA
     rw [Hy.out, if_neg (by decide), if_neg (by simp), ← Hht.out, if_neg (by decide), hsf, if_pos rfl])
    clear hsm hsf
    go_wp2_with fail
    go_ret3
    exact addP_of Hh.out Hb6.out
end KT
end
section
open Go.RowKit Go.Maps Go.Lib
namespace KT
theorem StoreAt.base {B B' : Nat} {w : World} {g mb : Nat} {v : Value} {rs : List R.Rl} {ks : List (List UInt8)} (h : StoreAt B w g v mb rs ks) (hB : B' ≤ B) : StoreAt B' w g v mb rs ks :=
 ⟨h.row, h.own.step (N := fun _ => False) (Kpm.refl _ _) (fun _ _ h => h.elim) (fun _ _ h => h) (fun i _ h => h.imp (fun h => by omega) id), h.map_, h.nd, h.len, h.key, h.val⟩
theorem mergeT_next {l k : List R.Rl} {j : Nat} {r : R.Rl} (hr : k[j]? = some r) : mergeT sm l (k.take (j + 1)) = addT sm (mergeT sm l (k.take j)) r := by
 unfold mergeT
 rw [List.take_add_one, hr, List.foldl_append]
 rfl
theorem mergeT_over {l k : List R.Rl} {j : Nat} {r : R.Rl} (hr : k[j]? = some r) (hn : hasT (mergeT sm l (k.take j)) r = false) (hl : 40 ≤ (mergeT sm l (k.take j)).length) : 40 < (mergeT sm l k).length := by
 have hj := (List.getElem?_eq_some_iff.1 hr).1
 have e : mergeT sm l k = mergeT sm (mergeT sm l (k.take (j + 1))) (k.drop (j + 1)) := by
  unfold mergeT
  rw [← List.foldl_append, List.take_append_drop]
 have h1 := mergeT_len (sm := sm) (k.drop (j + 1)) (mergeT sm l (k.take (j + 1)))
 rw [← e, mergeT_next hr] at h1
 unfold addT at h1
 have h2 : ((mergeT sm l (k.take j)).any fun q => sm q r) = false := hn
 rw [h2, if_neg (by decide), List.length_append, List.length_singleton] at h1
 omega
def MergeP (W : World) (rs : List R.Rl) (z : List UInt8) (rs' : List R.Rl) (z' : List UInt8) (e : Ending) (w' : World) : Prop :=
 e = .returned (.tuple #[.string ⟨(mergeA rs z rs' z').1.toArray⟩, .int .i64 (mergeA rs z rs' z').2]) ∧ Below W.heap.size W w'
theorem mergeP_of {W w' : World} {t : List UInt8} {rs rs' : List R.Rl} {z z' : List UInt8} {c : Int} (h : mergeA rs z rs' z' = (t, c)) (hb : Below W.heap.size W w') : MergeP W rs z rs' z' (.returned (.tuple #[.string ⟨t.toArray⟩, .int .i64 c])) w' := ⟨by rw [h], hb⟩
theorem Merge_any {a b : List UInt8} {rs rs' : List R.Rl} {z z' : List UInt8} (ha : a.length ≤ 700000) (hb : b.length ≤ 700000) (hra : Reads sm 0 [] a rs z) (hrb : Reads sm 0 [] b rs' z') {W : World} (hL : Lb W) :
 Calls Tryz.prog 39 #[.string ⟨a.toArray⟩, .string ⟨b.toArray⟩] W (MergeP W rs z rs' z') := by
 have HA := kH (opened_any ha hra hL)
 have HO := kH (fun X (h : Below W.heap.size W X) => opened_any hb hrb (hL.below h))
 have HL := kH (fun X (h : Below W.heap.size W X) => hL.below h)
 have HG1 := kH hra.is_store.1
 have HG2 := kH hrb.is_store.1
 clear hL hra hrb
 go_enter Tryz.func39, Tryz.ntmps39
 go_wp2_with fail
 (refine HA.out.mono ?_)
 rintro e w2 ⟨hb2, h2⟩
 have Hb2 := kH hb2
 clear hb2 HA
 rcases h2 with ⟨rfl, g, mb, v, ks, rfl, hst, hN⟩ | ⟨hz, rfl⟩
 rotate_left
 · have Hh := kH (show mergeA rs z rs' z' = ([], 10) from by unfold mergeA; rw [if_pos hz])
   clear hz
   go_wp2_with fail
   go_ret2
   exact mergeP_of Hh.out Hb2.out
 have Hst2 := kH hst
 have HN := kH hN
 clear hst hN
 go_wp2_with fail
 (refine (HO.out _ Hb2.out).mono ?_)
 rintro e w3 ⟨hb3, h3⟩
 have Hb23 := kH hb3
 have Hb3 := kH (Hb2.out.trans (hb3.mono Hb2.out.size))
 clear hb3
 rcases h3 with ⟨rfl, g2, mb2, v2, ks2, rfl, hst, hN2⟩ | ⟨hz, rfl⟩
 rotate_left
 · have Hh := kH (show mergeA rs [] rs' z' = ([], 10) from by unfold mergeA; rw [if_neg (by simp), if_pos hz])
   clear hz
   go_wp2_with fail
   go_ret2
   exact mergeP_of Hh.out Hb3.out
 obtain ⟨A2, c2, hv2⟩ := hst.own.form
 obtain ⟨n, hn⟩ : ∃ n, n = rs'.length := ⟨_, rfl⟩
 rw [← hn] at hv2
 subst hv2
 have Hn := kH hn
 have hn40 : n ≤ 40 := by have := HG2.out.len; omega
 have Hst3 := kH hst
 have Hv2 := kH (show ∀ b, (Value.slice A2 n c2).ownBlock = some b → w2.heap.size ≤ b from fun b e => hN2 b (.inr (.inr e)))
 have hg0 : w3.cell? ⟨g2, 0, none⟩ = some (.slice A2 n c2) := by rw [cell_of_row _ _ _ _ _ (0, 0) hst.row]; rfl
 have Hst1 := kH ((Hst2.out.below Hb23.out).base (Nat.zero_le _))
 have Hvo := kH (show ∀ b, v.ownBlock = some b → W.heap.size ≤ b ∧ (b < w2.heap.size ∨ w3.heap.size ≤ b) from fun b e => ⟨HN.out b (.inr (.inr e)), .inl (Hst2.out.own.lt b e)⟩)
 have Hgm := kH (show (W.heap.size ≤ g ∧ g < w2.heap.size) ∧ W.heap.size ≤ mb ∧ mb < w2.heap.size from ⟨⟨HN.out g (.inl rfl), Hst2.out.lt⟩, HN.out mb (.inr (.inl rfl)), Hst2.out.map_.lt⟩)
 clear hst hN2 hn
 go_wp2_with fail
 clear hg0
 go_loopg [32] (n + 1) (fun gg s32 wr => ∃ (j : Nat) (v : Value) (ks : List (List UInt8)), j ≤ n ∧ s32 = .int .i64 (j : Int) ∧ gg + j = n + 1 ∧ Hid (StoreAt 0 wr g v mb (mergeT sm rs (rs'.take j)) ks) ∧ Hid (∀ b, v.ownBlock = some b → W.heap.size ≤ b ∧ (b < w2.heap.size ∨ w3.heap.size ≤ b)) ∧ Hid ((mergeT sm rs (rs'.take j)).length ≤ 40) ∧ Hid (Kpm (fun i => i < w2.heap.size) w3 wr) ∧ Hid (Below W.heap.size W wr))
 case atStart => exact ⟨0, v, ks, Nat.zero_le _, rfl, rfl, Hst1, Hvo, kH HG1.out.len, kH (Kpm.refl _ _), Hb3⟩
 case round =>
  clear Hst1 Hvo Hst2 HN
  obtain ⟨j, v, ks, hj, rfl, hgk, Hst, Hvo, Hlen, Hk, Hb⟩ := hrel
  have Hgk := kH hgk
  clear hgk
  by_cases hjn : j < n
  · have HOw := kH (show OwnL (fun i => i < w2.heap.size ∨ i = g2 ∨ i = mb2) wr (.slice A2 n c2) rs' from Hst3.out.own.step Hk.out (fun i _ h => .inl h) (fun b e1 e2 => by have := Hv2.out b e1; omega) (fun _ _ h => h))
    obtain ⟨r, b, off, nl, cl, nr, cr, np, cp, AL, AR, AP, hx, hA, hb, c0, c1, c2', hR⟩ := rl_at (HOw.out.stAt Hn.out.symm) hjn
    subst hA
    have Hx := kH hx
    have hmem := List.mem_of_getElem? hx
    obtain ⟨wa, hwa⟩ : ∃ wa, wa = wr.alloc (.cells #[.slice AL nl cl, .slice AR nr cr, .slice AP np cp] 33) := ⟨_, rfl⟩
    have hba : Below wr.heap.size wr wa := by rw [hwa]; exact al0
    have hrow : wa.heap[wr.heap.size]? = some (.cells #[.slice AL nl cl, .slice AR nr cr, .slice AP np cp] 33 (0, 0)) := by rw [hwa]; exact heap_alloc_new wr _
    have Hba := kH (Hb.out.trans (hba.mono Hb.out.size))
    have Hka := kH (show Kpm (fun i => i < w2.heap.size) w3 wa from Hk.out.trans (Kpm.of_below hba (fun _ => False)) (fun _ _ h => h.elim))
    have Hsta := kH (Hst.out.below hba)
    have hNB : ∀ i, Nst g mb v i → W.heap.size ≤ i := fun i h => by
     rcases h with e | e | e
     · rw [e]; exact Hgm.out.1.1
     · rw [e]; exact Hgm.out.2.1
     · exact (Hvo.out i e).1
    have hNC : ∀ i, i < w3.heap.size → Nst g mb v i → i < w2.heap.size := fun i hi h => by
     rcases h with e | e | e
     · rw [e]; exact Hgm.out.1.2
     · rw [e]; exact Hgm.out.2.2
     · rcases (Hvo.out i e).2 with h | h
       · exact h
       · omega
    have HNB := kH hNB
    have HNC := kH hNC
    have hrx : ∀ w', Kpm (fun i => i < 0 ∨ Nst g mb v i) wa w' → RlAt w' r nl nr np AL AR AP := fun w' hk => by
     have hk3 : Kpm (fun i => i < w2.heap.size) w3 w' := Hka.out.trans hk (fun i hi h => by
      rcases h with h | h
      · exact absurd h (Nat.not_lt_zero _)
      · exact hNC i hi h)
     have ho := Hst3.out.own.step hk3 (fun i _ h => .inl h) (fun b e1 e2 => by have := Hv2.out b e1; omega) (F' := fun i => i < w2.heap.size ∨ i = g2 ∨ i = mb2) (fun _ _ h => h)
     obtain ⟨cells, h1, h2⟩ := HOw.out
     obtain ⟨cells3, h13, h23⟩ := Hst3.out.own
     obtain ⟨nl', cl', nr', cr', np', cp', AL', AR', AP', e, hall⟩ := h23 j r hx
     obtain ⟨nl2, cl2, nr2, cr2, np2, cp2, AL2, AR2, AP2, e2, _⟩ := h2 j r hx
     have hcell : ∀ (q : Nat) u, ((cells3.drop (j * 3)).take 3)[q]? = some u → wr.cell? ⟨b, off + j * 3 + q, none⟩ = some u := fun q u hu => by
      rcases h13.2 with ⟨e, _⟩ | ⟨gg, oo, cap, cur, e, hg, q1, q2, q3, q4⟩
      · cases e
      · cases e
        have hr3 := (Hk.out.block _ (gA hg).1 (fun h => by have h9 : w2.heap.size ≤ b := Hv2.out _ rfl; omega)).trans hg
        rw [cell_of_row _ _ _ _ _ (0, 0) hr3]
        rw [List.getElem?_take] at hu
        split at hu
        · rw [List.getElem?_drop] at hu
          have := q4 _ u hu
          rwa [← Nat.add_assoc] at this
        · cases hu
     rw [e] at hcell
     have d0 := hcell 0 _ rfl
     have d1 := hcell 1 _ rfl
     have d2 := hcell 2 _ rfl
     rw [Nat.add_zero, c0] at d0
     rw [c1] at d1
     rw [c2'] at d2
     cases d0
     cases d1
     cases d2
     exact hall w' (hk3.weak (fun i _ h => .inl (.inl h)))
    have HAd := kH (add_any (cl := cl) (cr := cr) (cp := cp) Hsta.out hrx (Hst3.out.val r hmem) (fun w' hk => (HL.out w' (Hba.out.trans (hk.below Hba.out.size hNB))).tens) (by have := Hlen.out; omega))
    obtain ⟨l, hl⟩ : ∃ l, l = mergeT sm rs (rs'.take j) := ⟨_, rfl⟩
    have Hl := kH hl
    obtain ⟨y, hy⟩ : ∃ y, addC (mergeT sm rs (rs'.take j)) r = y := ⟨_, rfl⟩
    have Hy := kH hy
    have Hyc := kH (show (y = 3 ∧ mergeA rs [] rs' [] = ([], 3)) ∨ (y ≠ 3 ∧ addR (mergeT sm rs (rs'.take j)) r = mergeT sm rs (rs'.take (j + 1)) ∧ (mergeT sm rs (rs'.take (j + 1))).length ≤ 40) from by
     have h := hy
     have h5 := HG2.out.short r hmem
     have h6 := Hlen.out
     unfold addC at h
     rw [mergeT_next hx]
     split at h
     · rename_i hh
       subst h
       refine .inr ⟨by decide, ?_⟩
       have h7 : ((mergeT sm rs (rs'.take j)).any fun q => sm q r) = true := hh
       unfold addR addT
       rw [hy, if_neg (by decide), h7, if_pos rfl]
       exact ⟨rfl, h6⟩
     · rename_i hh
       split at h
       · rename_i hf
         subst h
         refine .inl ⟨rfl, ?_⟩
         unfold mergeA
         rw [if_neg (by simp), if_neg (by simp), if_pos (mergeT_over hx (by simpa using hh) (by omega))]
       · rename_i hf
         subst h
         refine .inr ⟨by decide, ?_⟩
         have h7 : ((mergeT sm rs (rs'.take j)).any fun q => sm q r) = false := by simpa [hasT] using hh
         unfold addR addT
         rw [hy, if_pos rfl, h7, if_neg (by decide)]
         exact ⟨rfl, by rw [List.length_append, List.length_singleton]; omega⟩)
    unfold AddPost at HAd
    rw [hy] at HAd
    obtain ⟨r0, r1, r2, _⟩ := rl_cells hrow
    clear hx hmem hb hR hba hrow hNB hNC hrx hl hy
    go_upto_region 10 with (fail)
    rw [← hwa]
    clear hwa c0 c1 c2'
    go_wp2_with fail
    (refine HAd.out.mono ?_)
    rintro e w4 ⟨v', ks', rfl, hst4, hk4, hv4⟩
    have Hb4 := kH (Hba.out.trans (hk4.below Hba.out.size HNB.out))
    have Hk4 := kH (show Kpm (fun i => i < w2.heap.size) w3 w4 from Hka.out.trans hk4 (fun i hi h => HNC.out i hi h))
    have Hvo4 := kH (show ∀ b, v'.ownBlock = some b → W.heap.size ≤ b ∧ (b < w2.heap.size ∨ w3.heap.size ≤ b) from fun b e => by
     rcases hv4 b e with h | h
     · exact Hvo.out b h
     · exact ⟨Nat.le_trans Hba.out.size h, .inr (Nat.le_trans Hka.out.size h)⟩)
    have Hst4 := kH hst4
    clear hst4 hk4 hv4 HAd r0 r1 r2
    rcases Hyc.out with ⟨rfl, hm⟩ | ⟨hy3, hm, hml⟩
    · have Hh := kH hm
      clear hm
      go_wp2_with fail
      go_ret2
      exact mergeP_of Hh.out Hb4.out
    · have q : (y == 3) = false := by simpa using hy3
      have Hst5 := kH (show StoreAt 0 w4 g v' mb (mergeT sm rs (rs'.take (j + 1))) ks' from by have h := Hst4.out; rw [hm] at h; exact h)
      have Hml := kH hml
      clear hm hml hy3
      go_wp2_with fail
      go_roundg (gk - 1)
      case measure => have := Hgk.out; omega
      case rel =>
       have := Hgk.out
       exact ⟨j + 1, v', ks', by omega, by go_num, by omega, Hst5, Hvo4, Hml, Hk4, Hb4⟩
  · obtain rfl : n = j := by omega
    have e : rs'.take n = rs' := List.take_of_length_le (by rw [← Hn.out]; exact Nat.le_refl _)
    have hst := Hst.out
    have hln := Hlen.out
    rw [e] at hst hln
    have hgood : Good sm (mergeT sm rs rs') := mergeT_good (l := rs) rs' rs HG1.out HG2.out.valid HG2.out.small HG2.out.short hln
    have Hh := kH (show mergeA rs [] rs' [] = (storeT (mergeT sm rs rs'), 0) from by
     unfold mergeA
     rw [if_neg (by simp), if_neg (by simp), if_neg (by omega)])
    obtain ⟨Av, cv, hv⟩ := hst.own.form
    subst hv
    have HX := kH (text_any hst.row (hst.own.stAt rfl) hst.wrt hgood.short (by omega) (HL.out _ Hb.out).tens)
    clear hst hln hgood e Hst Hlen
    go_wp2_with fail
    (with_reducible refine HX.out.mono ?_)
    rintro e w5 ⟨rfl, hb5⟩
    have Hb5 := kH (Hb.out.trans (hb5.mono Hb.out.size))
    clear hb5 HX
    go_wp2_with fail
    go_ret2
    exact mergeP_of Hh.out Hb5.out
end KT
end
end Go.Proofs.YtbiopedpceddeaaGreatDoor
