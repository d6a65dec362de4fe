/- Graphs (the reference): Agrees. -/
import Derived.Test.YtcmlmjbpdaecbaaGreatA46
set_option linter.unusedVariables false
set_option linter.unusedSimpArgs false
namespace Go.Proofs.YtcmlmjbpdaecbaaGreat
open Go.RowKit Go.MapKept Go.Maps Go.WideMaps
set_option linter.unusedVariables false
set_option linter.unusedSimpArgs false

set_option maxRecDepth 100000 in
set_option maxHeartbeats 16000000 in
theorem rAgrees_any {W : World} {b n ce : Nat} {Ae : Option Addr} {s : E.Gr} {env : List Int} {v1 v2 v4 : Value} {kb : Nat} (h : RGC W b s.p s.wd s.es s.nm s.vr v1 v2 v4 kb) (hpl : s.p.length ≤ 900000) (hvw : ∀ i, i < 4 → s.vr.get i = 0 ∨ (1 ≤ s.vr.get i ∧ s.vr.get i ≤ 32)) (hwp : s.wd.length = s.p.length) (hag : E.EnvG s.vr env → E.Ag s env) (howf : ∀ e ∈ s.es, OWf e.1) (hE : SlAt (IntR .u32) W Ae n env) (hew : ∀ x ∈ env, 0 ≤ x ∧ x < 4294967296) :
    Calls Tryz.prog 12 #[.pointer (some ⟨b, 0, none⟩), .slice Ae n ce] W (AgPost W s env) := by
  have hlen := hE.len
  have hle := hE.le
  by_cases hn : n = 4
  rotate_left
  · have q : ((n : Int) != 4) = true := by simp; omega
    have Hr := Lib.hid (show E.AgR s env false 1 from .len (by omega))
    clear h hag hE hew hvw howf
    go_enter Tryz.func12, Tryz.ntmps12
    go_wp2_with fail
    refine bodyPost_ret (results_tmp2 rfl _ _ _) rfl ?_
    exact ⟨Below.refl _ _, false, 1, rfl, Hr.out⟩
  subst hn
  have H := Lib.hid h
  have Hvw := Lib.hid hvw
  have Hwp := Lib.hid hwp
  have Hag := Lib.hid hag
  have HE := Lib.hid hE
  have Hew := Lib.hid hew
  have Hlen := Lib.hid hlen
  have Howf := Lib.hid howf
  clear h hvw hwp hag hE hew hlen howf
  go_enter Tryz.func12, Tryz.ntmps12
  go_wp2_with fail
  go_loopg [6] 5 (fun gg s6 wr => ∃ (j : Nat), j ≤ 4 ∧ s6 = .int .i64 (j : Int) ∧ gg + j = 5 ∧ Hid (Below W.heap.size W wr) ∧ Hid (∀ i, i < j → 0 < s.vr.get i → env.getD i 0 < B.pw (s.vr.get i)))
  case atStart => exact ⟨0, by omega, rfl, rfl, Lib.hid (Below.refl _ _), Lib.hid (fun i hi => absurd hi (Nat.not_lt_zero _))⟩
  case round =>
    obtain ⟨j, hj, rfl, hgk, Hb, Hfit⟩ := hrel
    have Hgk := Lib.hid hgk
    clear hgk
    by_cases h4 : j < 4
    · obtain ⟨z, hz⟩ : ∃ z, s.vr.get j = z := ⟨_, rfl⟩
      have hvc := (H.out.below Hb.out).vrCell h4
      rw [hz] at hvc
      obtain ⟨x, be, offe, ue, hx, rfl, hbe, hce, hue⟩ := (HE.out.below (monoInt _) Hb.out).at_ h4
      have hue' : ue = .int .u32 x := hue
      subst hue'
      have hxw : 0 ≤ x ∧ x < 4294967296 := Hew.out x (List.mem_of_getElem? hx)
      have Hz := Lib.hid hz
      have Hx := Lib.hid (show env.getD j 0 = x from getD_of hx)
      have Hxw := Lib.hid hxw
      have hzc : z = 0 ∨ (1 ≤ z ∧ z ≤ 31) ∨ z = 32 := by have := Hvw.out j h4; rw [hz] at this; omega
      clear hx hue hbe hz hxw
      obtain ⟨ov⟩ := ov_ex wr
      have g0 := ov.cell hvc
      have g1 := ov.cell hce
      have Hbv := Lib.hid (fun u => Hb.out.trans ((ov.below u).mono Hb.out.size))
      rcases hzc with rfl | hz1 | rfl
      · go_upto_region 6 with (fail)
        refine wp_region_ovq ov (by kernel_rfl) (by kernel_rfl) ?_
        repeat (go_big_quiet_step (fail))
        refine wpQuiet_nil ?_
        rintro _ ⟨u, rfl⟩
        have Hb3 := Lib.hid (Hbv.out u)
        generalize ov.f u = w3 at Hb3 ⊢
        clear g0 g1 Hbv hvc hce
        go_wp2_with fail
        go_roundg (gk - 1)
        case measure => have := Hgk.out; omega
        case rel =>
          have := Hgk.out
          refine ⟨j + 1, by omega, by go_num, by omega, Hb3, Lib.hid (fun i hi h0 => ?_)⟩
          rcases Nat.lt_or_ge i j with c | c
          · exact Hfit.out i c h0
          · obtain rfl : i = j := by omega
            rw [Hz.out] at h0
            exact absurd h0 (by decide)
      · have q0 : decide (z > 0) = true := by simp; omega
        have q1 : decide (z < 32) = true := by simp; omega
        have hpz : (2 : Int) ^ z.toNat % 4294967296 = B.pw z := by
          have h1 := B.pw_le31 hz1.2
          have h2 := B.pw_pos z
          show B.pw z % 4294967296 = B.pw z
          exact Int.emod_eq_of_lt (by omega) (by omega)
        have Hpz := Lib.hid hpz
        clear hpz
        by_cases hf : B.pw z ≤ x
        · have qf : decide ((2 : Int) ^ z.toNat % 4294967296 ≤ x) = true := by rw [Hpz.out]; exact decide_eq_true hf
          have Hr := Lib.hid (show E.AgR s env false 1 from .fit Hlen.out h4 (by rw [Hz.out]; omega) (by rw [Hz.out, Hx.out]; omega))
          clear hf
          go_upto_region 6 with (fail)
          refine wp_region_ovq ov (by kernel_rfl) (by kernel_rfl) ?_
          repeat (go_big_quiet_step (fail))
          refine wpQuiet_nil ?_
          rintro _ ⟨u, rfl⟩
          have Hb3 := Lib.hid (Hbv.out u)
          generalize ov.f u = w3 at Hb3 ⊢
          clear g0 g1 Hbv hvc hce
          go_wp2_with fail
          refine bodyPost_ret (results_tmp2 rfl _ _ _) rfl ?_
          exact ⟨Hb3.out, false, 1, rfl, Hr.out⟩
        · have qf : decide ((2 : Int) ^ z.toNat % 4294967296 ≤ x) = false := by rw [Hpz.out]; exact decide_eq_false hf
          have Hf := Lib.hid hf
          clear hf
          go_upto_region 6 with (fail)
          refine wp_region_ovq ov (by kernel_rfl) (by kernel_rfl) ?_
          repeat (go_big_quiet_step (fail))
          refine wpQuiet_nil ?_
          rintro _ ⟨u, rfl⟩
          have Hb3 := Lib.hid (Hbv.out u)
          generalize ov.f u = w3 at Hb3 ⊢
          clear g0 g1 Hbv hvc hce
          go_wp2_with fail
          go_roundg (gk - 1)
          case measure => have := Hgk.out; omega
          case rel =>
            have := Hgk.out
            refine ⟨j + 1, by omega, by go_num, by omega, Hb3, Lib.hid (fun i hi h0 => ?_)⟩
            rcases Nat.lt_or_ge i j with c | c
            · exact Hfit.out i c h0
            · obtain rfl : i = j := by omega
              rw [Hz.out, Hx.out]
              have := Hf.out
              omega
      · go_upto_region 6 with (fail)
        refine wp_region_ovq ov (by kernel_rfl) (by kernel_rfl) ?_
        repeat (go_big_quiet_step (fail))
        refine wpQuiet_nil ?_
        rintro _ ⟨u, rfl⟩
        have Hb3 := Lib.hid (Hbv.out u)
        generalize ov.f u = w3 at Hb3 ⊢
        clear g0 g1 Hbv hvc hce
        go_wp2_with fail
        go_roundg (gk - 1)
        case measure => have := Hgk.out; omega
        case rel =>
          have := Hgk.out
          refine ⟨j + 1, by omega, by go_num, by omega, Hb3, Lib.hid (fun i hi h0 => ?_)⟩
          rcases Nat.lt_or_ge i j with c | c
          · exact Hfit.out i c h0
          · obtain rfl : i = j := by omega
            rw [Hz.out, Hx.out, B.pw_32]
            exact Hxw.out.2
    · obtain rfl : j = 4 := by omega
      have Heg := Lib.hid (show E.EnvG s.vr env from ⟨Hlen.out, Hew.out, Hfit.out⟩)
      have Ha := Lib.hid (Hag.out Heg.out)
      obtain ⟨NP, hNP⟩ : ∃ NP, s.p.length = NP := ⟨_, rfl⟩
      have HNP := Lib.hid hNP
      rw [hNP] at hpl
      obtain ⟨A1, c1, e1⟩ := H.out.o1.form
      obtain ⟨k1, _, _, _⟩ := (H.out.below Hb.out).cells
      rw [e1, hNP] at k1
      have hln1 := H.out.o1.le
      rw [hNP] at hln1
      have hmk := fun (W' : World) => run_make_n (P := Tryz.prog) 23 61 (.int .u32 0) 4 Tryz.underlying23 infoU32 rfl .i64 .i64 NP (NP : Int) rfl (by omega) (by omega) W'
      have hmk2 := fun (W' : World) => run_make_n (P := Tryz.prog) 93 4 (.bool false) 1 Tryz.underlying93 infoBl rfl .i64 .i64 NP (NP : Int) rfl (by omega) (by omega) W'
      have k1' : (wr.alloc (.cells (Array.replicate NP (Value.int .u32 0)) 61)).cell? ⟨b, 0, none⟩ = some (.slice A1 NP c1) := by
        have hbl := ((H.out.below Hb.out).lt b (.inl rfl))
        rw [← k1]
        exact ((Below.refl wr.heap.size wr).alloc (Nat.le_refl _) _).cell (p := ⟨b, 0, none⟩) hbl
      clear hNP e1 Hag Hfit Hgk
      go_upto_region 10 with (fail)
      clear hmk hmk2 k1 k1'
      have hra : RA W NP wr.heap.size (wr.heap.size + 1) (List.replicate NP 0) (List.replicate NP false) ((wr.alloc (.cells (Array.replicate NP (Value.int .u32 0)) 61)).alloc (.cells (Array.replicate NP (Value.bool false)) 4)) := by
        have hs := Hb.out.size
        refine ⟨(Hb.out.alloc Hb.out.size _).alloc (by simp; omega) _, ?_, ?_, by simp, by simp, hs, by omega, by omega⟩
        · rw [row_alloc (heap_alloc_new wr _) _]; simp
        · rw [new_two wr _ _]; simp
      obtain ⟨gv, hgv⟩ : ∃ gv, wr.heap.size = gv := ⟨_, rfl⟩
      obtain ⟨gk2, hgk2⟩ : ∃ g, gv + 1 = g := ⟨_, rfl⟩
      obtain ⟨w0, hw0⟩ : ∃ w0, (wr.alloc (.cells (Array.replicate NP (Value.int .u32 0)) 61)).alloc (.cells (Array.replicate NP (Value.bool false)) 4) = w0 := ⟨_, rfl⟩
      rw [hw0] at hra ⊢
      rw [hgv, hgk2] at hra ⊢
      have HRA := Lib.hid hra
      clear hra hgv hgk2 hw0 Hb
      obtain ⟨es0, clock, hmp, hst, hlen, hent⟩ := id H.out.km
      have Hmp := Lib.hid (show ∀ X, Below W.heap.size W X → X.heap[kb]? = some (.map es0 clock) from fun X hX => (hX.block kb (Array.getElem?_eq_some_iff.1 hmp).1).trans hmp)
      have Hkbl := Lib.hid (show kb < W.heap.size from (Array.getElem?_eq_some_iff.1 hmp).1)
      have Hst := Lib.hid hst
      have Hlen0 := Lib.hid hlen
      have Hent := Lib.hid hent
      have hk2 := H.out.cells.2.2.1
      have Hk2 := Lib.hid (show ∀ X, Below W.heap.size W X → X.cell? ⟨b, 2, none⟩ = some (.map (some kb)) from fun X hX => (hX.cell (p := ⟨b, 2, none⟩) (H.out.lt b (.inl rfl))).trans hk2)
      clear hmp hst hlen hent hk2
      have Hv0 := Lib.hid (show E.Val s env (E.fk (List.replicate NP 0) (List.replicate NP false)) from by
        have : E.fk (List.replicate NP 0) (List.replicate NP false) = fun _ => none := by
          funext c
          unfold E.fk
          rw [if_neg]
          rw [List.getD_eq_getElem?_getD]
          cases hc : (List.replicate NP false)[c]? with
          | none => simp
          | some y => have := List.mem_replicate.1 (List.mem_of_getElem? hc); simp [this.2]
        rw [this]
        exact E.Val.start s env)
      go_loopg [9] (E.unk (List.replicate NP false) + 1) (fun gg s9 wx => ∃ (vals : List Int) (kno : List Bool), gg = E.unk kno + 1 ∧ Hid (RA W NP gv gk2 vals kno wx) ∧ Hid (E.Val s env (E.fk vals kno)))
      case atStart => exact ⟨_, _, rfl, HRA, Hv0⟩
      case round =>
        obtain ⟨vals, kno, hgk, Hra, Hval⟩ := hrel
        have Hgk := Lib.hid hgk
        clear hgk HRA Hv0
        have mp := Hmp.out _ Hra.out.bel
        have mk := Hk2.out _ Hra.out.bel
        obtain ⟨wz, rfl⟩ : ∃ w, w = wr := ⟨_, rfl⟩
        have hrg := run_range_map (P := Tryz.prog) wz 90 _ _ kb es0 clock Tryz.underlying90 mp
        go_upto_region 12 with (fail)
        clear hrg mp mk
        have hb3 : Below wz.heap.size wz (wz.alloc (.mapIter (some kb) clock #[] clock)) := (Below.refl _ _).alloc (Nat.le_refl _) _
        have hra3 := Hra.out.below hb3
        have hit3 := heap_alloc_new wz (.mapIter (some kb) clock #[] clock)
        have hrn : W.heap.size ≤ wz.heap.size ∧ wz.heap.size ≠ gv ∧ wz.heap.size ≠ gk2 := by
          have h1 := Hra.out.lt
          have h2 := Hra.out.bel.size
          omega
        obtain ⟨r, hr⟩ : ∃ r, wz.heap.size = r := ⟨_, rfl⟩
        obtain ⟨w3, hw3⟩ : ∃ w3, wz.alloc (.mapIter (some kb) clock #[] clock) = w3 := ⟨_, rfl⟩
        rw [hw3] at hra3 hit3 ⊢
        rw [hr] at hit3 hrn ⊢
        have Hra3 := Lib.hid hra3
        have Hit3 := Lib.hid hit3
        have Hrn := Lib.hid hrn
        clear hb3 hra3 hit3 hrn hr hw3 Hra
        obtain ⟨gO, rfl⟩ : ∃ g, g = gk := ⟨_, rfl⟩
        go_loopg [9] (es0.size + 1) (fun gg s9 wx => ∃ (fl : Bool) (vals1 : List Int) (kno1 : List Bool) (vs : List (E.Opn × Nat)) (seen : Array Nat), s9 = .bool fl ∧ (leftOf es0 seen).size + 1 ≤ gg ∧ Hid (RA W NP gv gk2 vals1 kno1 wx) ∧ Hid (wx.heap[r]? = some (.mapIter (some kb) clock seen clock)) ∧ Hid (Vis s.es es0 seen vs) ∧ Hid (E.Val s env (E.fk vals1 kno1)) ∧ Hid (fl = false → ∀ y ∈ vs, E.Known (E.fk vals1 kno1) y.1 → ∃ m, E.fk vals1 kno1 (E.root s.p y.2) = some m) ∧ Hid (E.unk kno1 + (if fl then 1 else 0) ≤ E.unk kno))
        case atStart =>
          refine ⟨false, vals, kno, [], #[], rfl, ?_, Hra3, Hit3, Lib.hid (Vis.start _ _), Hval, Lib.hid (fun _ y hy => by cases hy), Lib.hid (by simp)⟩
          have : (leftOf es0 #[]).size ≤ es0.size := by unfold leftOf; exact Array.size_filter_le
          omega
        case round =>
          obtain ⟨fl, vals1, kno1, vs, seen, rfl, hgk2, Hra4, Hit4, Hvis, Hval4, Hcl4, Hun4⟩ := hrel
          have Hgk2 := Lib.hid hgk2
          clear hgk2 Hra3 Hit3
          rcases run_next_at (P := Tryz.prog) wr 0 r kb clock clock seen es0 clock Hit4.out (Hmp.out _ Hra4.out.bel) (fun x hx => (Hst.out.1 x hx)) (Nat.le_refl _) with ⟨hz, hnx⟩ | ⟨e, he, w5, hw5, hnx⟩
          · have Hs := Lib.hid (Hvis.out.done Hlen0.out hz)
            clear hz
            cases fl with
            | true =>
              go_wp2_with fail
              go_roundg (E.unk kno1 + 1)
              case measure =>
                have h1 := Hgk.out
                have h2 := Hun4.out
                simp only [if_true] at h2
                omega
              case rel => exact ⟨vals1, kno1, rfl, Hra4, Hval4⟩
            | false =>
              have Hcl := Lib.hid (show ∀ e ∈ s.es, E.Known (E.fk vals1 kno1) e.1 → ∃ m, E.fk vals1 kno1 (E.root s.p e.2) = some m from fun e he => Hcl4.out rfl e ((Hs.out e).2 he))
              clear Hs Hcl4 Hun4
              have mp := Hmp.out _ Hra4.out.bel
              have mk := Hk2.out _ Hra4.out.bel
              obtain ⟨wy, rfl⟩ : ∃ w, w = wr := ⟨_, rfl⟩
              have hrg := run_range_map (P := Tryz.prog) wy 90 _ _ kb es0 clock Tryz.underlying90 mp
              go_upto_region 22 with (fail)
              clear hrg mp mk hnx
              have hb3 : Below wy.heap.size wy (wy.alloc (.mapIter (some kb) clock #[] clock)) := (Below.refl _ _).alloc (Nat.le_refl _) _
              have hra3 := Hra4.out.below hb3
              have hit3 := heap_alloc_new wy (.mapIter (some kb) clock #[] clock)
              have hrn : W.heap.size ≤ wy.heap.size ∧ wy.heap.size ≠ gv ∧ wy.heap.size ≠ gk2 := by
                have h1 := Hra4.out.lt
                have h2 := Hra4.out.bel.size
                omega
              obtain ⟨rr, hr⟩ : ∃ r, wy.heap.size = r := ⟨_, rfl⟩
              obtain ⟨w3, hw3⟩ : ∃ w3, wy.alloc (.mapIter (some kb) clock #[] clock) = w3 := ⟨_, rfl⟩
              rw [hw3] at hra3 hit3 ⊢
              rw [hr] at hit3 hrn ⊢
              have Hra3 := Lib.hid hra3
              have Hit3 := Lib.hid hit3
              clear Hrn
              have Hrn := Lib.hid hrn
              have Hall := Lib.hid (show ∀ e ∈ s.es, E.Known (E.fk vals1 kno1) e.1 from fun e he => Ha.out.known Hcl.out he)
              clear hb3 hra3 hit3 hrn hr hw3 Hra4 Hit4 Hvis
              obtain ⟨r, hrr⟩ : ∃ r, r = rr := ⟨_, rfl⟩
              rw [← hrr] at Hit3 Hrn ⊢
              clear hrr
              go_loopg [14] (es0.size + 1) (fun gg s14 wx => ∃ (vs : List (E.Opn × Nat)) (seen : Array Nat), (leftOf es0 seen).size + 1 ≤ gg ∧ Hid (RA W NP gv gk2 vals1 kno1 wx) ∧ Hid (wx.heap[r]? = some (.mapIter (some kb) clock seen clock)) ∧ Hid (Vis s.es es0 seen vs) ∧ Hid (∀ y ∈ vs, E.fk vals1 kno1 (E.root s.p y.2) = some (E.opv s.wd env y.1 (E.vsOf (E.fv (E.fk vals1 kno1)) y.1))))
              case atStart =>
                refine ⟨[], #[], ?_, Hra3, Hit3, Lib.hid (Vis.start _ _), Lib.hid (fun y hy => by cases hy)⟩
                have : (leftOf es0 #[]).size ≤ es0.size := by unfold leftOf; exact Array.size_filter_le
                omega
              case round =>
                obtain ⟨vs, seen, hgk3, Hra4, Hit4, Hvis, Hok⟩ := hrel
                have Hgk3 := Lib.hid hgk3
                clear hgk3 Hra3 Hit3
                rcases run_next_at (P := Tryz.prog) wr 0 r kb clock clock seen es0 clock Hit4.out (Hmp.out _ Hra4.out.bel) (fun x hx => (Hst.out.1 x hx)) (Nat.le_refl _) with ⟨hz, hnx⟩ | ⟨e, he, w5, hw5, hnx⟩
                · have Hr := Lib.hid (show E.AgR s env true 0 from .yes Heg.out (Ha.out.good fun e he _ => Hok.out e ((Hvis.out.done Hlen0.out hz e).2 he)))
                  clear hz
                  go_wp2_with fail
                  refine bodyPost_ret (results_tmp2 rfl _ _ _) rfl ?_
                  exact ⟨Hra4.out.bel, true, 0, rfl, Hr.out⟩
                · have hel : e ∈ es0.toList ∧ seen.contains e.born = false := by
                    have he2 := he
                    unfold leftOf at he2
                    simp only [Array.toList_filter, List.mem_filter] at he2
                    exact ⟨he2.1, by simpa using he2.2⟩
                  obtain ⟨i, hi⟩ := List.getElem?_of_mem hel.1
                  obtain ⟨q0, c, hlk⟩ := mapAt_entry Hlen0.out hi
                  obtain ⟨e', h1, h2, h3, _⟩ := Hent.out i q0 c hlk
                  rw [hi] at h1
                  cases h1
                  have h3' : e.val = .int .i64 (c : Int) := h3
                  have Hstep := Lib.hid (leftOf_step he)
                  have Hv3 := Lib.hid (Hvis.out.step Hst.out.2.1 hi hlk)
                  have hra5 : RA W NP gv gk2 vals1 kno1 w5 ∧ w5.heap.size = wr.heap.size := by
                    rcases hw5 with rfl | rfl
                    · exact ⟨Hra4.out, rfl⟩
                    · exact ⟨Hra4.out.below (Below.refl _ _).drew, rfl⟩
                  have hra6 := hra5.1.put Hrn.out.1 Hrn.out.2.1 Hrn.out.2.2 (.mapIter (some kb) clock (seen.push e.born) clock)
                  have hit6 : (putObj w5 r (.mapIter (some kb) clock (seen.push e.born) clock)).heap[r]? = some (.mapIter (some kb) clock (seen.push e.born) clock) := putObj_same _ (by rw [hra5.2]; exact (Array.getElem?_eq_some_iff.1 Hit4.out).1)
                  obtain ⟨w6, hw6⟩ : ∃ w6, w6 = putObj w5 r (.mapIter (some kb) clock (seen.push e.born) clock) := ⟨_, rfl⟩
                  rw [← hw6] at hnx hra6 hit6
                  rw [h2, h3'] at hnx
                  have hen := run_entry_at (P := Tryz.prog) w6 r kb clock seen es0 clock e hit6 (Hmp.out _ hra6.bel) hel.1 Hst.out.2.1
                  rw [h2, h3'] at hen
                  have Hmem := Lib.hid (List.mem_of_getElem? hlk)
                  have Hit6 := Lib.hid hit6
                  clear hit6
                  have Hra6 := Lib.hid hra6
                  clear hra5 hra6 hw5 hw6 h2 h3 h3' hi hlk he hel Hra4 Hit4
                  unfold opV at hnx hen
                  go_upto_region 24 with (fail)
                  clear hnx hen
                  obtain ⟨op, w, imm, a0, a1, a2⟩ := q0
                  dsimp only
                  have hb7 : Below w6.heap.size w6 (w6.alloc (.cells #[.int .i64 op, .int .i64 w, .int .u32 imm, .int .i64 a0, .int .i64 a1, .int .i64 a2] 95)) := (Below.refl _ _).alloc (Nat.le_refl _) _
                  have hr7 := heap_alloc_new w6 (.cells #[.int .i64 op, .int .i64 w, .int .u32 imm, .int .i64 a0, .int .i64 a1, .int .i64 a2] 95)
                  have hra7 := Hra6.out.below hb7
                  have hit7 := (hb7.block r (Array.getElem?_eq_some_iff.1 Hit6.out).1).trans Hit6.out
                  obtain ⟨g5, hg5⟩ : ∃ g5, w6.heap.size = g5 := ⟨_, rfl⟩
                  obtain ⟨w7, hw7⟩ : ∃ w7, w6.alloc (.cells #[.int .i64 op, .int .i64 w, .int .u32 imm, .int .i64 a0, .int .i64 a1, .int .i64 a2] 95) = w7 := ⟨_, rfl⟩
                  rw [hw7] at hr7 hra7 hit7 ⊢
                  rw [hg5] at hr7 ⊢
                  obtain ⟨y0, y1, y2, y3, y4, y5⟩ := op6_cells hr7
                  have Hr7 := Lib.hid hr7
                  have Hra7 := Lib.hid hra7
                  have Hit7 := Lib.hid hit7
                  clear hb7 hr7 hra7 hit7 hg5 hw7 Hra6 Hit6
                  obtain ⟨rc, hrc⟩ : ∃ rc, E.root s.p c = rc := ⟨_, rfl⟩
                  have Hrc := Lib.hid hrc
                  have hrcl : rc < NP := by rw [← hrc, ← HNP.out]; exact E.root_lt (Ha.out.inn (⟨op, w, imm, a0, a1, a2⟩, c) Hmem.out)
                  obtain ⟨ov⟩ := ov_ex w7
                  have hfi := fun u => calls_over_same (ov := ov) (((H.out.below (Hra7.out.bel.trans ((ov.below u).mono Hra7.out.bel.size))).find Ha.out.down c (Ha.out.inn (⟨op, w, imm, a0, a1, a2⟩, c) Hmem.out)).mono fun _ _ h => ⟨h.1, h.2.symm⟩)
                  rw [hrc] at hfi
                  have Hfi := Lib.hid hfi
                  have hk := Hall.out _ Hmem.out
                  have Hk := Lib.hid hk
                  have hwd := Hval4.out.words (e := (⟨op, w, imm, a0, a1, a2⟩, c)) hk
                  obtain ⟨nv, hnv⟩ : ∃ nv, E.opv s.wd env ⟨op, w, imm, a0, a1, a2⟩ (E.vsOf (fun c => vals1.getD c 0) ⟨op, w, imm, a0, a1, a2⟩) = nv := ⟨_, rfl⟩
                  have hvc := fun u => calls_over (ov := ov) (rvalue_any (x := ⟨op, w, imm, a0, a1, a2⟩) (ce := ce) (cv := NP) (H.out.below (Hra7.out.bel.trans ((ov.below u).mono Hra7.out.bel.size))) (by rw [Hwp.out, HNP.out]; exact hpl) (Ha.out.ty _ Hmem.out) (Ha.out.vr _ Hmem.out) (fun i hi => by have := (Ha.out.arg_root Hmem.out hi).2.2; rw [HNP.out] at this; exact this) (fun i hi => by rw [Hwp.out]; exact (Ha.out.arg_root Hmem.out hi).2.2) (HE.out.below (monoInt _) (Hra7.out.bel.trans ((ov.below u).mono Hra7.out.bel.size))) Heg.out ((Hra7.out.below (ov.below u)).sl hpl) (fun i hi => by rw [← E.fk_vs hk]; exact hwd i hi))
                  rw [hnv] at hvc
                  have Hnv := Lib.hid hnv
                  unfold opV at hvc
                  have Hvc := Lib.hid hvc
                  have z0 := ov.cell y0
                  have z1 := ov.cell y1
                  have z2 := ov.cell y2
                  have z3 := ov.cell y3
                  have z4 := ov.cell y4
                  have z5 := ov.cell y5
                  obtain ⟨mv, hmv⟩ : ∃ mv, vals1.getD rc 0 = mv := ⟨_, rfl⟩
                  have hvcl := Hra7.out.vcell hrcl
                  rw [hmv] at hvcl
                  have z6 := ov.cell hvcl
                  have Hmv := Lib.hid hmv
                  clear hmv hvcl
                  have Hbv := Lib.hid (fun u => ov.below u)
                  clear y0 y1 y2 y3 y4 y5 hfi hk hwd hnv hvc hrc
                  refine wp_region_ovq ov (by kernel_rfl) (by kernel_rfl) ?_
                  repeat (go_big_quiet_step ((first | (go_at_call 37; with_reducible exact Hfi.out _) | (go_at_call 38; with_reducible exact Hvc.out _) | fail)))
                  refine wpQuiet_nil ?_
                  rintro _ ⟨u, rfl⟩
                  have hbu := Hbv.out u
                  generalize ov.f u = w9 at hbu ⊢
                  have Hra9 := Lib.hid (Hra7.out.below hbu)
                  have Hit9 := Lib.hid ((hbu.block r (Array.getElem?_eq_some_iff.1 Hit7.out).1).trans Hit7.out)
                  clear z0 z1 z2 z3 z4 z5 z6 hbu Hbv Hfi Hvc
                  have Hfr := Lib.hid (show E.fk vals1 kno1 (E.root s.p c) = some mv from by
                    obtain ⟨m, hm⟩ := Hcl.out _ Hmem.out Hk.out
                    have hm' : E.fk vals1 kno1 (E.root s.p c) = some m := hm
                    rw [hm']
                    unfold E.fk at hm'
                    split at hm'
                    · rw [Hrc.out, Hmv.out] at hm'; exact hm'.symm ▸ rfl
                    · cases hm')
                  by_cases hmn : mv = nv
                  · subst hmn
                    go_wp2_with fail
                    go_roundg (gk - 1)
                    case measure => have := Hgk3.out; omega
                    case rel =>
                      have := Hgk3.out
                      have := Hstep.out
                      refine ⟨_, _, by omega, Hra9, Hit9, Hv3, Lib.hid (fun y hy => ?_)⟩
                      rcases List.mem_append.1 hy with hy | hy
                      · exact Hok.out y hy
                      · simp only [List.mem_singleton] at hy
                        subst hy
                        rw [E.fk_vs Hk.out, Hnv.out]
                        exact Hfr.out
                  · have q : (mv != nv) = true := by simpa using hmn
                    have Hr := Lib.hid (show E.AgR s env false 0 from .no Heg.out (Hval4.out.bad Hmem.out Hk.out Hfr.out (by rw [E.fk_vs Hk.out, Hnv.out]; exact hmn)))
                    go_wp2_with fail
                    refine bodyPost_ret (results_tmp2 rfl _ _ _) rfl ?_
                    exact ⟨Hra9.out.bel, false, 0, rfl, Hr.out⟩
          · have hel : e ∈ es0.toList ∧ seen.contains e.born = false := by
              have he2 := he
              unfold leftOf at he2
              simp only [Array.toList_filter, List.mem_filter] at he2
              exact ⟨he2.1, by simpa using he2.2⟩
            obtain ⟨i, hi⟩ := List.getElem?_of_mem hel.1
            obtain ⟨q0, c, hlk⟩ := mapAt_entry Hlen0.out hi
            obtain ⟨e', h1, h2, h3, _⟩ := Hent.out i q0 c hlk
            rw [hi] at h1
            cases h1
            have h3' : e.val = .int .i64 (c : Int) := h3
            have Hstep := Lib.hid (leftOf_step he)
            have Hv3 := Lib.hid (Hvis.out.step Hst.out.2.1 hi hlk)
            have hra5 : RA W NP gv gk2 vals1 kno1 w5 ∧ w5.heap.size = wr.heap.size := by
              rcases hw5 with rfl | rfl
              · exact ⟨Hra4.out, rfl⟩
              · exact ⟨Hra4.out.below (Below.refl _ _).drew, rfl⟩
            have hra6 := hra5.1.put Hrn.out.1 Hrn.out.2.1 Hrn.out.2.2 (.mapIter (some kb) clock (seen.push e.born) clock)
            have hit6 : (putObj w5 r (.mapIter (some kb) clock (seen.push e.born) clock)).heap[r]? = some (.mapIter (some kb) clock (seen.push e.born) clock) := putObj_same _ (by rw [hra5.2]; exact (Array.getElem?_eq_some_iff.1 Hit4.out).1)
            obtain ⟨w6, hw6⟩ : ∃ w6, w6 = putObj w5 r (.mapIter (some kb) clock (seen.push e.born) clock) := ⟨_, rfl⟩
            rw [← hw6] at hnx hra6 hit6
            rw [h2, h3'] at hnx
            have hen := run_entry_at (P := Tryz.prog) w6 r kb clock seen es0 clock e hit6 (Hmp.out _ hra6.bel) hel.1 Hst.out.2.1
            rw [h2, h3'] at hen
            have Hmem := Lib.hid (List.mem_of_getElem? hlk)
            have Hit6 := Lib.hid hit6
            clear hit6
            have Hra6 := Lib.hid hra6
            clear hra5 hra6 hw5 hw6 h2 h3 h3' hi hlk he hel Hra4 Hit4
            unfold opV at hnx hen
            go_upto_region 14 with (fail)
            clear hnx hen
            obtain ⟨op, w, imm, a0, a1, a2⟩ := q0
            dsimp only
            have hb7 : Below w6.heap.size w6 (w6.alloc (.cells #[.int .i64 op, .int .i64 w, .int .u32 imm, .int .i64 a0, .int .i64 a1, .int .i64 a2] 95)) := (Below.refl _ _).alloc (Nat.le_refl _) _
            have hr7 := heap_alloc_new w6 (.cells #[.int .i64 op, .int .i64 w, .int .u32 imm, .int .i64 a0, .int .i64 a1, .int .i64 a2] 95)
            have hra7 := Hra6.out.below hb7
            have hit7 := (hb7.block r (Array.getElem?_eq_some_iff.1 Hit6.out).1).trans Hit6.out
            obtain ⟨g5, hg5⟩ : ∃ g5, w6.heap.size = g5 := ⟨_, rfl⟩
            obtain ⟨w7, hw7⟩ : ∃ w7, w6.alloc (.cells #[.int .i64 op, .int .i64 w, .int .u32 imm, .int .i64 a0, .int .i64 a1, .int .i64 a2] 95) = w7 := ⟨_, rfl⟩
            rw [hw7] at hr7 hra7 hit7 ⊢
            rw [hg5] at hr7 ⊢
            obtain ⟨y0, y1, y2, y3, y4, y5⟩ := op6_cells hr7
            have Hr7 := Lib.hid hr7
            have Hra7 := Lib.hid hra7
            have Hit7 := Lib.hid hit7
            clear hb7 hr7 hra7 hit7 hg5 hw7 Hra6 Hit6
            have Hfi := Lib.hid ((H.out.below Hra7.out.bel).find Ha.out.down c (Ha.out.inn (⟨op, w, imm, a0, a1, a2⟩, c) Hmem.out))
            obtain ⟨rc, hrc⟩ : ∃ rc, E.root s.p c = rc := ⟨_, rfl⟩
            rw [hrc] at Hfi
            have Hrc := Lib.hid hrc
            have hrcl : rc < NP := by rw [← hrc, ← HNP.out]; exact E.root_lt (Ha.out.inn (⟨op, w, imm, a0, a1, a2⟩, c) Hmem.out)
            clear hrc
            go_wp2_with fail
            (with_reducible refine Hfi.out.mono ?_)
            rintro q w8 ⟨rfl, hw8⟩
            subst hw8
            clear Hfi
            go_upto_region 15 with (fail)
            have hkc := Hra7.out.kcell hrcl
            obtain ⟨bc, hbc⟩ : ∃ bc, kno1.getD rc false = bc := ⟨_, rfl⟩
            rw [hbc] at hkc
            have Hbc := Lib.hid hbc
            have hop := fun (i : Nat) (hi : i < 3) => show (E.arg ⟨op, w, imm, a0, a1, a2⟩ i < 0 ∧ E.oKn kno1 (E.arg ⟨op, w, imm, a0, a1, a2⟩ i) = true) ∨ ∃ c' : Nat, E.arg ⟨op, w, imm, a0, a1, a2⟩ i = (c' : Int) ∧ c' < NP ∧ w8.cell? ⟨gk2, c', none⟩ = some (.bool (E.oKn kno1 (E.arg ⟨op, w, imm, a0, a1, a2⟩ i))) from by
              have hty := Ha.out.ty (⟨op, w, imm, a0, a1, a2⟩, c) Hmem.out
              obtain ⟨k1, k2⟩ := hty.kn_le
              rcases Nat.lt_or_ge i (E.kn ⟨op, w, imm, a0, a1, a2⟩) with hi' | hi'
              · obtain ⟨z0, _, z2⟩ := Ha.out.arg_root Hmem.out hi'
                rw [HNP.out] at z2
                refine .inr ⟨_, (Int.toNat_of_nonneg z0).symm, z2, ?_⟩
                have := Hra7.out.kcell z2
                rw [this]
                unfold E.oKn
                rw [decide_eq_false (by dsimp only at z0 ⊢; omega), Bool.false_or]
              · have := hty.no i hi (by dsimp only at k1 ⊢; omega)
                refine .inl ⟨by rw [this]; decide, by rw [this]; rfl⟩
            have hq0 := hop 0 (by decide)
            have hq1 := hop 1 (by decide)
            have hq2 := hop 2 (by decide)
            have Hkn := Lib.hid (E.oKn_all (Ha.out.ty (⟨op, w, imm, a0, a1, a2⟩, c) Hmem.out) vals1 kno1)
            clear hop
            change (a0 < 0 ∧ E.oKn kno1 a0 = true) ∨ ∃ c' : Nat, a0 = (c' : Int) ∧ c' < NP ∧ w8.cell? ⟨gk2, c', none⟩ = some (.bool (E.oKn kno1 a0)) at hq0
            change (a1 < 0 ∧ E.oKn kno1 a1 = true) ∨ ∃ c' : Nat, a1 = (c' : Int) ∧ c' < NP ∧ w8.cell? ⟨gk2, c', none⟩ = some (.bool (E.oKn kno1 a1)) at hq1
            change (a2 < 0 ∧ E.oKn kno1 a2 = true) ∨ ∃ c' : Nat, a2 = (c' : Int) ∧ c' < NP ∧ w8.cell? ⟨gk2, c', none⟩ = some (.bool (E.oKn kno1 a2)) at hq2
            dsimp only at Hkn
            obtain ⟨o0, ho0⟩ : ∃ o, E.oKn kno1 a0 = o := ⟨_, rfl⟩
            obtain ⟨o1, ho1⟩ : ∃ o, E.oKn kno1 a1 = o := ⟨_, rfl⟩
            obtain ⟨o2, ho2⟩ : ∃ o, E.oKn kno1 a2 = o := ⟨_, rfl⟩
            rw [ho0] at hq0 Hkn
            rw [ho1] at hq1 Hkn
            rw [ho2] at hq2 Hkn
            clear ho0 ho1 ho2 hbc
            obtain ⟨rd, hrd⟩ : ∃ rd, rd = (!bc && o0 && o1 && o2) := ⟨_, rfl⟩
            have Hrd := Lib.hid hrd
            clear hrd
            obtain ⟨wp, hwp⟩ : ∃ wp, wp = w8 := ⟨_, rfl⟩
            go_cut [12] (fun s12 wx => wx = wp ∧ s12 = .bool rd)
            case first =>
              cases bc with
              | true =>
                go_wp2_with fail
                go_meet
                exact ⟨hwp.symm, by rw [Hrd.out]; simp⟩
              | false =>
                rcases hq0 with ⟨n0, ho0⟩ | ⟨d0, hd0, l0, x0⟩
                · subst ho0
                  rcases hq1 with ⟨n1, ho1⟩ | ⟨d1, hd1, l1, x1⟩
                  · subst ho1
                    rcases hq2 with ⟨n2, ho2⟩ | ⟨d2, hd2, l2, x2⟩
                    · subst ho2
                      go_wp2_with fail
                      go_meet
                      exact ⟨hwp.symm, by rw [Hrd.out]; simp⟩
                    · subst hd2
                      have nq2 : decide ((d2 : Int) < 0) = false := by simp
                      cases o2 with
                      | false =>
                        go_wp2_with fail
                        go_meet
                        exact ⟨hwp.symm, by rw [Hrd.out]; simp⟩
                      | true =>
                        go_wp2_with fail
                        go_meet
                        exact ⟨hwp.symm, by rw [Hrd.out]; simp⟩
                  · subst hd1
                    have nq1 : decide ((d1 : Int) < 0) = false := by simp
                    cases o1 with
                    | false =>
                      go_wp2_with fail
                      go_meet
                      exact ⟨hwp.symm, by rw [Hrd.out]; simp⟩
                    | true =>
                      rcases hq2 with ⟨n2, ho2⟩ | ⟨d2, hd2, l2, x2⟩
                      · subst ho2
                        go_wp2_with fail
                        go_meet
                        exact ⟨hwp.symm, by rw [Hrd.out]; simp⟩
                      · subst hd2
                        have nq2 : decide ((d2 : Int) < 0) = false := by simp
                        cases o2 with
                        | false =>
                          go_wp2_with fail
                          go_meet
                          exact ⟨hwp.symm, by rw [Hrd.out]; simp⟩
                        | true =>
                          go_wp2_with fail
                          go_meet
                          exact ⟨hwp.symm, by rw [Hrd.out]; simp⟩
                · subst hd0
                  have nq0 : decide ((d0 : Int) < 0) = false := by simp
                  cases o0 with
                  | false =>
                    go_wp2_with fail
                    go_meet
                    exact ⟨hwp.symm, by rw [Hrd.out]; simp⟩
                  | true =>
                    rcases hq1 with ⟨n1, ho1⟩ | ⟨d1, hd1, l1, x1⟩
                    · subst ho1
                      rcases hq2 with ⟨n2, ho2⟩ | ⟨d2, hd2, l2, x2⟩
                      · subst ho2
                        go_wp2_with fail
                        go_meet
                        exact ⟨hwp.symm, by rw [Hrd.out]; simp⟩
                      · subst hd2
                        have nq2 : decide ((d2 : Int) < 0) = false := by simp
                        cases o2 with
                        | false =>
                          go_wp2_with fail
                          go_meet
                          exact ⟨hwp.symm, by rw [Hrd.out]; simp⟩
                        | true =>
                          go_wp2_with fail
                          go_meet
                          exact ⟨hwp.symm, by rw [Hrd.out]; simp⟩
                    · subst hd1
                      have nq1 : decide ((d1 : Int) < 0) = false := by simp
                      cases o1 with
                      | false =>
                        go_wp2_with fail
                        go_meet
                        exact ⟨hwp.symm, by rw [Hrd.out]; simp⟩
                      | true =>
                        rcases hq2 with ⟨n2, ho2⟩ | ⟨d2, hd2, l2, x2⟩
                        · subst ho2
                          go_wp2_with fail
                          go_meet
                          exact ⟨hwp.symm, by rw [Hrd.out]; simp⟩
                        · subst hd2
                          have nq2 : decide ((d2 : Int) < 0) = false := by simp
                          cases o2 with
                          | false =>
                            go_wp2_with fail
                            go_meet
                            exact ⟨hwp.symm, by rw [Hrd.out]; simp⟩
                          | true =>
                            go_wp2_with fail
                            go_meet
                            exact ⟨hwp.symm, by rw [Hrd.out]; simp⟩
            case rest =>
            obtain ⟨hwc, rfl⟩ := hcut
            rw [hwp] at hwc
            subst hwc
            clear hq0 hq1 hq2 hkc
            cases rd with
            | false =>
              clear y0 y1 y2 y3 y4 y5
              go_wp2_with fail
              go_roundg (gk - 1)
              case measure => have := Hgk2.out; omega
              case rel =>
                have := Hgk2.out
                have := Hstep.out
                refine ⟨fl, vals1, kno1, _, _, rfl, by omega, Hra7, Hit7, Hv3, Hval4, Lib.hid (fun hf y hy hk => ?_), Hun4⟩
                rcases List.mem_append.1 hy with hy | hy
                · exact Hcl4.out hf y hy hk
                · simp only [List.mem_singleton] at hy
                  subst hy
                  have h1 := Hkn.out.1 hk
                  have h2 := Hrd.out
                  cases bc with
                  | true => exact ⟨vals1.getD rc 0, by show E.fk vals1 kno1 (E.root s.p c) = _; unfold E.fk; rw [Hrc.out, if_pos Hbc.out]⟩
                  | false =>
                    exfalso
                    rw [Bool.and_eq_true, Bool.and_eq_true] at h1
                    obtain ⟨⟨h10, h11⟩, h12⟩ := h1
                    rw [h10, h11, h12] at h2
                    exact absurd h2 (by decide)
            | true =>
              have hrd : bc = false ∧ (o0 && o1 && o2) = true := by
                have := Hrd.out
                cases bc with
                | true => simp at this
                | false => exact ⟨rfl, by simpa using this.symm⟩
              have hk := Hkn.out.2 hrd.2
              have Hk := Lib.hid hk
              have Hbf := Lib.hid (show kno1.getD rc false = false from Hbc.out.trans hrd.1)
              have hwd := Hval4.out.words (e := (⟨op, w, imm, a0, a1, a2⟩, c)) hk
              have Hvc := Lib.hid (rvalue_any (x := ⟨op, w, imm, a0, a1, a2⟩) (ce := ce) (cv := NP) (H.out.below Hra7.out.bel) (by rw [Hwp.out, HNP.out]; exact hpl) (Ha.out.ty _ Hmem.out) (Ha.out.vr _ Hmem.out) (fun i hi => by have := (Ha.out.arg_root Hmem.out hi).2.2; rw [HNP.out] at this; exact this) (fun i hi => by rw [Hwp.out]; exact (Ha.out.arg_root Hmem.out hi).2.2) (HE.out.below (monoInt _) Hra7.out.bel) Heg.out (Hra7.out.sl hpl) (fun i hi => by rw [← E.fk_vs hk]; exact hwd i hi))
              obtain ⟨nv, hnv⟩ : ∃ nv, E.opv s.wd env ⟨op, w, imm, a0, a1, a2⟩ (E.vsOf (fun c => vals1.getD c 0) ⟨op, w, imm, a0, a1, a2⟩) = nv := ⟨_, rfl⟩
              rw [hnv] at Hvc
              have Hnv := Lib.hid hnv
              unfold opV at Hvc
              clear hrd hk hwd hnv Hkn Hrd Hbc
              go_wp2_with fail
              (with_reducible refine Hvc.out.mono ?_)
              rintro q w9 ⟨rfl, hb9⟩
              have Hra9 := Lib.hid (Hra7.out.below hb9)
              have Hit9 := Lib.hid ((hb9.block r (Array.getElem?_eq_some_iff.1 Hit7.out).1).trans Hit7.out)
              have f1 : w9.frozen? ⟨gv, rc, none⟩ = false := frozen_row Hra9.out.vr _
              have q1 := Hra9.out.vcell hrcl
              clear hb9 Hvc y0 y1 y2 y3 y4 y5 Hra7 Hit7 Hr7
              go_upto_region 18 with (fail)
              clear f1 q1
              have Hset := Lib.hid (Hra9.out.set rc nv)
              have Hits := Lib.hid (show ((w9.setCell ⟨gv, rc, none⟩ (.int .u32 nv)).setCell ⟨gk2, rc, none⟩ (.bool true)).heap[r]? = some (.mapIter (some kb) clock (seen.push e.born) clock) from by
                rw [Below.heap_setCell _ _ _ _ (by exact Hrn.out.2.2), Below.heap_setCell _ _ _ _ (by exact Hrn.out.2.1)]; exact Hit9.out)
              have hkr : (w9.setCell ⟨gv, rc, none⟩ (.int .u32 nv)).heap[gk2]? = some (.cells (kno1.map Value.bool).toArray 4 (0, 0)) := (Below.heap_setCell _ _ _ _ (by exact fun e => Hra9.out.ne e.symm)).trans Hra9.out.kr
              obtain ⟨wq, hwq⟩ : ∃ wq, w9.setCell ⟨gv, rc, none⟩ (.int .u32 nv) = wq := ⟨_, rfl⟩
              rw [hwq] at hkr Hset Hits ⊢
              have f2 : wq.frozen? ⟨gk2, rc, none⟩ = false := frozen_row hkr _
              have q2 : wq.cell? ⟨gk2, rc, none⟩ = some (.bool false) := by
                rw [cell_of_row _ _ _ _ _ (0, 0) hkr, List.getElem?_toArray, List.getElem?_map, List.getElem?_eq_getElem (by rw [Hra9.out.lk]; exact hrcl)]
                have := Hbf.out
                rw [List.getD_eq_getElem?_getD, List.getElem?_eq_getElem (by rw [Hra9.out.lk]; exact hrcl)] at this
                exact congrArg (fun b => some (Value.bool b)) this
              clear hkr hwq
              go_wp2_with fail
              go_roundg (gk - 1)
              case measure => have := Hgk2.out; omega
              case rel =>
                have := Hgk2.out
                have := Hstep.out
                refine ⟨true, vals1.set rc nv, kno1.set rc true, _, _, rfl, by omega, Hset, Hits, Hv3, Lib.hid ?_, Lib.hid (fun hf => by cases hf), Lib.hid ?_⟩
                · rw [E.fk_set (by rw [Hra9.out.lv]; exact hrcl) (by rw [Hra9.out.lk]; exact hrcl)]
                  have h1 := Hval4.out.set Ha.out (e := (⟨op, w, imm, a0, a1, a2⟩, c)) Hmem.out Hk.out
                  dsimp only at h1
                  rw [Hrc.out, E.fk_vs Hk.out] at h1
                  rw [← Hnv.out]
                  exact h1
                · have h1 := E.unk_set (kno := kno1) (d := rc) (by rw [Hra9.out.lk]; exact hrcl) Hbf.out
                  have h2 := Hun4.out
                  simp only [if_true]
                  cases fl <;> simp at h2 <;> omega
end Go.Proofs.YtcmlmjbpdaecbaaGreat
