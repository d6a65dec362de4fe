/- Graphs (the reference): Add. -/
import Derived.Test.YtcmlmjbpdaecbaaGreatA33
set_option linter.unusedVariables false
set_option linter.unusedSimpArgs false
namespace Go.Proofs.YtcmlmjbpdaecbaaGreat
open Go.RowKit Go.MapKept Go.Maps Go.WideMaps
set_option linter.unusedVariables false
set_option linter.unusedSimpArgs false

/-- behind Add -/
structure RAdd (W : World) (b : Nat) (s : E.Gr) (t : List T.Nd) (v1 v2 v4 : Value) (kb : Nat) (e : Ending) (W' : World) (s' : E.Gr) (no er : Int) (v1' v2' v4' : Value) (kb' : Nat) : Prop where
  ret : e = .returned (.tuple #[.int .i64 no, .int .i64 er])
  told : E.RAddR s t s' no er
  gr : RGC W' b s'.p s'.wd s'.es s'.nm s'.vr v1' v2' v4' kb'
  ok : s'.Ok
  owf : ∀ k ∈ s'.es, OWf k.1
  kp : Kpm (fun i => i = b) W W'
  new : ∀ i, MR b v1' v2' v4' kb' i → MR b v1 v2 v4 kb i ∨ W.heap.size ≤ i

theorem RGC.setV {w : World} {b : Nat} {p : List Nat} {wd : List Int} {kn : List (E.Opn × Nat)} {nm : List Nat} {vr : E.Vr} {v1 v2 v4 : Value} {kb : Nat} (h : RGC w b p wd kn nm vr v1 v2 v4 kb) {i : Nat} (hi : i < 4) (x : Int) : RGC (w.setCell ⟨b, 4 + i, none⟩ (.int .i64 x)) b p wd kn nm (vr.set i x) v1 v2 v4 kb := by
  have ho : ∀ j, j ≠ b → (w.setCell ⟨b, 4 + i, none⟩ (.int .i64 x)).heap[j]? = w.heap[j]? := fun j hj => Below.heap_setCell _ _ _ j hj
  refine ⟨?_, h.o1.same fun j hj => ho j (fun e => h.ne1 (e ▸ hj)), h.o2.same fun j hj => ho j (fun e => h.ne2 (e ▸ hj)), h.km.keep (ho kb h.kne) (fun _ _ _ h => h), h.o4.same fun j hj => ho j (fun e => h.ne4 (e ▸ hj)), h.d12, h.d14, h.d24⟩
  rcases (show i = 0 ∨ i = 1 ∨ i = 2 ∨ i = 3 by omega) with rfl | rfl | rfl | rfl
  all_goals
    rw [heap_setCell_same _ _ _ _ _ _ h.row]
    rfl
theorem NewRG.setV {W w : World} {gb : Nat} {p : List Nat} {wd : List Int} {kn : List (E.Opn × Nat)} {nm : List Nat} {vr : E.Vr} {v1 v2 v4 : Value} {kb : Nat} (h : NewRG W p wd kn nm vr w gb v1 v2 v4 kb) {i : Nat} (hi : i < 4) (x : Int) : NewRG W p wd kn nm (vr.set i x) (w.setCell ⟨gb, 4 + i, none⟩ (.int .i64 x)) gb v1 v2 v4 kb :=
  ⟨h.gr.setV hi x, h.bel.setCell (p := ⟨gb, 4 + i, none⟩) (h.new gb (.inl rfl)) _, h.new⟩
theorem NewRG.below {W w w' : World} {gb : Nat} {p : List Nat} {wd : List Int} {kn : List (E.Opn × Nat)} {nm : List Nat} {vr : E.Vr} {v1 v2 v4 : Value} {kb : Nat} (h : NewRG W p wd kn nm vr w gb v1 v2 v4 kb) (hb : Below w.heap.size w w') : NewRG W p wd kn nm vr w' gb v1 v2 v4 kb :=
  ⟨h.gr.below hb, h.bel.trans (hb.mono h.bel.size), h.new⟩
theorem RGC.vrCell {w : World} {b : Nat} {p : List Nat} {wd : List Int} {kn : List (E.Opn × Nat)} {nm : List Nat} {vr : E.Vr} {v1 v2 v4 : Value} {kb : Nat} (h : RGC w b p wd kn nm vr v1 v2 v4 kb) {i : Nat} (hi : i < 4) : w.cell? ⟨b, 4 + i, none⟩ = some (.int .i64 (vr.get i)) := by
  rcases (show i = 0 ∨ i = 1 ∨ i = 2 ∨ i = 3 by omega) with rfl | rfl | rfl | rfl
  all_goals rw [cell_of_row _ _ _ _ _ (0, 0) h.row]; rfl

set_option maxRecDepth 100000 in
set_option maxHeartbeats 8000000 in
theorem rAdd_any {W : World} {b : Nat} {s : E.Gr} {v1 v2 v4 : Value} {kb : Nat} (h : RGC W b s.p s.wd s.es s.nm s.vr v1 v2 v4 kb) (ok : s.Ok) (hw : ∀ e ∈ s.es, OWf e.1) (hn : s.p.length ≤ 800000) (he : s.es.length ≤ 800000) (hm : s.nm.length ≤ 800000) {t : List T.Nd} {n ct : Nat} {At : Option Addr} (hT : StAt 5 NdR W At n t) :
    Calls Tryz.prog 27 #[.pointer (some ⟨b, 0, none⟩), .slice At n ct] W fun e W' => ∃ s' no er v1' v2' v4' kb', RAdd W b s t v1 v2 v4 kb e W' s' no er v1' v2' v4' kb' := by
  have Hsh := Lib.hid (rShare_any t n ct At W hT)
  have H := Lib.hid h
  have Ok := Lib.hid ok
  have Hw := Lib.hid hw
  have HT := Lib.hid hT
  clear h ok hw hT
  go_enter Tryz.func27, Tryz.ntmps27
  go_wp2_with fail
  (with_reducible refine Hsh.out.mono ?_)
  rintro e w2 ⟨hb, ⟨hv, rfl⟩ | ⟨hv, fr, A', c', hfr, rfl, hst⟩⟩
  · obtain ⟨v, hvv⟩ : ∃ v, T.valid true t = v := ⟨_, rfl⟩
    rw [hvv] at hv ⊢
    have q : (v != 0) = true := by simpa using hv
    have Hv := Lib.hid hv
    have Hvv := Lib.hid hvv
    have Hb := Lib.hid hb
    clear hv hvv hb
    go_wp2
    refine bodyPost_ret (results_tmp2 rfl _ _ _) rfl ?_
    exact ⟨s, 0, v, v1, v2, v4, kb, rfl, by rw [← Hvv.out]; exact .bad (by rw [Hvv.out]; exact Hv.out), H.out.below Hb.out, Ok.out, Hw.out, Kpm.of_below Hb.out _, fun i hi => .inl hi⟩
  obtain ⟨l1, l2, l3, l4⟩ := E.valid_ok hv
  have HLv := Lib.hid (E.canon_valid hv hfr)
  obtain ⟨L, hL⟩ : ∃ L, T.canon fr = L := ⟨_, rfl⟩
  have HLo := Lib.hid (show T.Ord L from hL ▸ T.canon_ord fr)
  have HLk := Lib.hid (show ∀ x ∈ L, E.NdOk x ∧ 0 ≤ x.imm ∧ x.imm < 4294967296 from hL ▸ E.canon_ok l3 (nd_imm2 HT.out) hfr)
  have hLn : L.length ≤ 300 := by have := T.canon_len hfr; rw [hL] at this; omega
  have hL1 : 1 ≤ L.length := by have := (E.canon_root hfr).2; rw [hL] at this; exact this
  rw [hL] at hst HLv ⊢
  have HL := Lib.hid hL
  have Hv := Lib.hid hv
  have Hfr := Lib.hid hfr
  have Hst := Lib.hid hst
  have Hb := Lib.hid hb
  have Hwi := Lib.hid (rWidths_any L L.length c' A' w2 hst)
  clear hv hfr hst hb hL l1 l2 l3 l4 Hsh
  go_wp2_with fail
  (with_reducible refine Hwi.out.mono ?_)
  rintro e w3 ⟨hb3, ⟨hv3, _⟩ | ⟨_, gw, rfl, hgw, hrw⟩⟩
  · exact absurd HLv.out hv3
  have Hb3 := Lib.hid (Hb.out.trans (hb3.mono Hb.out.size))
  have Hst3 := Lib.hid (Hst.out.below monoNd hb3)
  have Hrw := Lib.hid hrw
  have Hgw := Lib.hid (Nat.le_trans Hb.out.size hgw)
  obtain ⟨ws, hws⟩ : ∃ ws, T.widths L = ws := ⟨_, rfl⟩
  have Hws4 := Lib.hid (show ws.length = 4 from by rw [← hws]; exact T.widths_len L)
  rw [hws] at Hrw
  have Hws := Lib.hid hws
  clear hb3 hrw hgw hws Hwi Hst Hb
  go_wp2
  go_loopg [9] 5 (fun gg s9 wr => ∃ (j : Nat), j ≤ 4 ∧ s9 = .int .i64 (j : Int) ∧ gg + j = 5 ∧ Hid (Below w3.heap.size w3 wr) ∧ Hid (∀ i, i < j → ¬ E.VBad s.vr ws i))
  case atStart => exact ⟨0, by omega, rfl, rfl, Lib.hid (Below.refl _ _), Lib.hid (fun i hi => by omega)⟩
  case round =>
    obtain ⟨j, hj, rfl, hgk, Hbr, Hok⟩ := hrel
    have Hgk := Lib.hid hgk
    clear hgk
    by_cases hjl : j < 4
    · have hjI : (j : Int) < 4 := by omega
      obtain ⟨z, hz⟩ : ∃ z, ws[j]? = some z := ⟨_, List.getElem?_eq_getElem (by rw [Hws4.out]; exact hjl)⟩
      have Hz := Lib.hid (show ws.getD j 0 = z from by rw [List.getD_eq_getElem?_getD, hz]; rfl)
      have hcz : wr.cell? ⟨gw, j, none⟩ = some (.int .i64 z) := by
        have hr := row_step Hbr Hrw.out
        rw [cell_of_row _ _ _ _ _ (0, 0) hr, List.getElem?_toArray, List.getElem?_map, hz]; rfl
      have Hgr := Lib.hid (H.out.below (Hb3.out.trans (Hbr.out.mono Hb3.out.size)))
      have hcv := Hgr.out.vrCell hjl
      obtain ⟨v, hv⟩ : ∃ v, s.vr.get j = v := ⟨_, rfl⟩
      rw [hv] at hcv
      have Hvj := Lib.hid hv
      clear hz hv
      by_cases hz0 : z > 0
      · by_cases hv0 : v > 0
        · by_cases hzv : z = v
          · have q : (z != v) = false := by simpa using hzv
            have Hnb := Lib.hid (show ¬ E.VBad s.vr ws j from fun ⟨h1, h2, h3⟩ => by rw [Hz.out] at h1 h3; rw [Hvj.out] at h2 h3; exact h3 hzv)
            clear hzv
            go_upto_region 8 with (fail)
            obtain ⟨ov⟩ := ov_ex wr
            have z1 := ov.cell hcz
            have z2 := ov.cell hcv
            clear hcz hcv
            refine wp_region_ovq ov (by kernel_rfl) (by kernel_rfl) ?_
            repeat (go_big_quiet_step (fail))
            refine wpQuiet_nil ?_
            rintro _ ⟨u, rfl⟩
            have Hbu := Lib.hid (Hbr.out.trans ((ov.below u).mono Hbr.out.size))
            have Hgu := Lib.hid (Hgr.out.below (ov.below u))
            clear z1 z2
            go_wp2
            go_roundg (gk - 1)
            case measure => have := Hgk.out; omega
            case rel =>
              have := Hgk.out
              exact ⟨j + 1, by omega, by go_num, by omega, Hbu, Lib.hid fun i hi => by
                rcases Nat.lt_or_ge i j with h | h
                · exact Hok.out i h
                · obtain rfl : i = j := by omega
                  exact Hnb.out⟩
          · have q : (z != v) = true := by simpa using hzv
            have Hbad := Lib.hid (show E.VBad s.vr ws j from ⟨by rw [Hz.out]; exact hz0, by rw [Hvj.out]; exact hv0, by rw [Hz.out, Hvj.out]; exact hzv⟩)
            clear hzv
            go_upto_region 8 with (fail)
            obtain ⟨ov⟩ := ov_ex wr
            have z1 := ov.cell hcz
            have z2 := ov.cell hcv
            clear hcz hcv
            refine wp_region_ovq ov (by kernel_rfl) (by kernel_rfl) ?_
            repeat (go_big_quiet_step (fail))
            refine wpQuiet_nil ?_
            rintro _ ⟨u, rfl⟩
            have Hbu := Lib.hid (Hbr.out.trans ((ov.below u).mono Hbr.out.size))
            have Hgu := Lib.hid (Hgr.out.below (ov.below u))
            clear z1 z2
            go_wp2
            refine bodyPost_ret (results_tmp2 rfl _ _ _) rfl ?_
            exact ⟨s, 0, 7, v1, v2, v4, kb, rfl, .rule Hv.out Hfr.out (i := j) hjl (by rw [HL.out, Hws.out]; exact Hbad.out), Hgu.out, Ok.out, Hw.out, Kpm.of_below (Hb3.out.trans (Hbu.out.mono Hb3.out.size)) _, fun i hi => .inl hi⟩
        · have Hnb := Lib.hid (show ¬ E.VBad s.vr ws j from fun ⟨h1, h2, h3⟩ => by rw [Hz.out] at h1 h3; rw [Hvj.out] at h2 h3; exact hv0 h2)
          go_upto_region 8 with (fail)
          obtain ⟨ov⟩ := ov_ex wr
          have z1 := ov.cell hcz
          have z2 := ov.cell hcv
          clear hcz hcv
          refine wp_region_ovq ov (by kernel_rfl) (by kernel_rfl) ?_
          repeat (go_big_quiet_step (fail))
          refine wpQuiet_nil ?_
          rintro _ ⟨u, rfl⟩
          have Hbu := Lib.hid (Hbr.out.trans ((ov.below u).mono Hbr.out.size))
          have Hgu := Lib.hid (Hgr.out.below (ov.below u))
          clear z1 z2
          go_wp2
          go_roundg (gk - 1)
          case measure => have := Hgk.out; omega
          case rel =>
            have := Hgk.out
            exact ⟨j + 1, by omega, by go_num, by omega, Hbu, Lib.hid fun i hi => by
              rcases Nat.lt_or_ge i j with h | h
              · exact Hok.out i h
              · obtain rfl : i = j := by omega
                exact Hnb.out⟩
      · have Hnb := Lib.hid (show ¬ E.VBad s.vr ws j from fun ⟨h1, h2, h3⟩ => by rw [Hz.out] at h1 h3; rw [Hvj.out] at h2 h3; exact hz0 h1)
        go_upto_region 8 with (fail)
        obtain ⟨ov⟩ := ov_ex wr
        have z1 := ov.cell hcz
        have z2 := ov.cell hcv
        clear hcz hcv
        refine wp_region_ovq ov (by kernel_rfl) (by kernel_rfl) ?_
        repeat (go_big_quiet_step (fail))
        refine wpQuiet_nil ?_
        rintro _ ⟨u, rfl⟩
        have Hbu := Lib.hid (Hbr.out.trans ((ov.below u).mono Hbr.out.size))
        have Hgu := Lib.hid (Hgr.out.below (ov.below u))
        clear z1 z2
        go_wp2
        go_roundg (gk - 1)
        case measure => have := Hgk.out; omega
        case rel =>
          have := Hgk.out
          exact ⟨j + 1, by omega, by go_num, by omega, Hbu, Lib.hid fun i hi => by
            rcases Nat.lt_or_ge i j with h | h
            · exact Hok.out i h
            · obtain rfl : i = j := by omega
              exact Hnb.out⟩
    · obtain rfl : j = 4 := by omega
      have Hbw := Lib.hid (Hb3.out.trans (Hbr.out.mono Hb3.out.size))
      have Hst4 := Lib.hid (Hst3.out.below monoNd Hbr.out)
      have Hrw4 := Lib.hid (row_step Hbr Hrw.out)
      have Hcp := Lib.hid (rCopy_any (H.out.below Hbw.out) Hw.out (by omega) (by have := Ok.out.wd; omega) (by omega))
      obtain ⟨Wc, hWc⟩ : ∃ Wc, Wc = wr := ⟨_, rfl⟩
      rw [← hWc] at Hbw Hst4 Hcp Hrw4 ⊢
      clear hWc Hbr Hst3 Hrw hjl
      go_wp2_with fail
      (with_reducible refine Hcp.out.mono ?_)
      rintro e w4 ⟨gb, t1, t2, t4, km, es0, rfl, hN, hnd, hmem⟩
      obtain ⟨s0, hs0⟩ : ∃ s0 : E.Gr, s0 = { s with es := es0 } := ⟨_, rfl⟩
      have hl0 : es0.length ≤ s.es.length := nodup_len_le (nodup_keys hnd) fun x hx => (hmem x).1 hx
      have Hs0 := Lib.hid hs0
      have Hb0 := Lib.hid (show s0.p.length ≤ 800000 ∧ s0.es.length ≤ 800000 from by rw [hs0]; exact ⟨hn, Nat.le_trans hl0 he⟩)
      have HI0 := Lib.hid (show PutI Wc s0 L gb 0 s0 [] t1 t2 t4 km (.slice none 0 0) w4 from by
        subst hs0
        exact ⟨hN, OwnAt.nil_ _ _ _, fun i e => by simp [Value.ownBlock] at e, fun i _ e => by simp [Value.ownBlock] at e, rfl, by simp, ⟨Ok.out.down, Ok.out.wd, fun e he => Ok.out.inn e ((hmem e).1 he), fun e he => Ok.out.ar e ((hmem e).1 he), Ok.out.nm⟩, fun e he => Hw.out e ((hmem e).1 he), Nat.le_refl _, Nat.le_refl _, rfl, rfl, fun c hc => by cases hc⟩)
      have Hnd := Lib.hid hnd
      have Hmem := Lib.hid hmem
      clear hN hnd hmem hl0 hs0 Hcp
      go_wp2
      go_loopg [11, 12] (L.length + 1) (fun gg s11 s12 wx => ∃ (k : Nat) (sk : E.Gr) (cl : List Nat) (t1 t2 vcl : Value), k ≤ L.length ∧ s11 = vcl ∧ s12 = .int .i64 (k : Int) ∧ gg + k = L.length + 1 ∧ Hid (PutI Wc s0 L gb k sk cl t1 t2 t4 km vcl wx))
      case atStart => exact ⟨0, s0, [], t1, t2, .slice none 0 0, Nat.zero_le _, rfl, rfl, rfl, HI0⟩
      case round =>
        obtain ⟨k, sk, cl, t1, t2, vcl, hk, rfl, rfl, hgk2, HI⟩ := hrel
        have Hgk2 := Lib.hid hgk2
        clear hgk2 HI0
        obtain ⟨Av, cv, hv⟩ := HI.out.own.form
        subst hv
        by_cases hkl : k < L.length
        · obtain ⟨x, b', off, A, c, hx, rfl, hb', h0, h1, h2, h3, h4, hs, i0, i1⟩ := nd_cells (Hst4.out.below monoNd HI.out.ng.bel) hkl
          have Hx := Lib.hid hx
          have hxk := HLk.out x (List.mem_of_getElem? hx)
          have hxa := HLo.out k x hx
          have hclk := HI.out.len
          have hpk := HI.out.lp
          have hek := HI.out.le
          have hb0 := Hb0.out
          have hpk9 : sk.p.length ≤ 900000 := by omega
          have hek9 : sk.es.length ≤ 900000 := by omega
          obtain ⟨har, hwf⟩ := HI.out.args hxk.1 hxk.2 hxa hpk9
          have hsl : SlAt (IntR .i64) wr Av cl.length (ini cl) := by
            have ho := HI.out.own
            rw [show ivs cl = (ini cl).map (Value.int .i64) by simp [ivs, ini]] at ho
            exact ho.slInts
          have hke := rkeyOf_any (cx := c) (c := cv) hxk.1.len hs hsl (fun a ha => by rw [hclk]; exact hxa a ha)
          rw [opL_cl x cl (fun a ha => by rw [hclk]; exact hxa a ha)] at hke
          unfold ndV at hke
          have Hke := Lib.hid hke
          have Har := Lib.hid har
          have Hwf := Lib.hid hwf
          have Hp9 := Lib.hid (And.intro hpk9 hek9)
          have hk64 := Hst4.out.le
          clear hx hxk hxa hclk hpk hek hb0 hpk9 hek9 har hwf hsl hke hs hb'
          go_wp2_with fail
          (with_reducible refine Hke.out.mono ?_)
          rintro e5 w5 ⟨rfl, hb5⟩
          have HI5 := Lib.hid (HI.out.below hb5)
          have Hpu := Lib.hid (rput_any HI5.out.ng.gr HI5.out.ok Har.out Hwf.out Hp9.out.1 Hp9.out.2)
          clear hb5 HI h0 h1 h2 h3 h4
          go_wp2_with fail
          (with_reducible refine Hpu.out.mono ?_)
          rintro e6 w6 ⟨t1', t2', hp6⟩
          have hret := hp6.ret
          have HM := Lib.hid (HI5.out.put Hx.out Har.out Hwf.out Hp9.out.1 hp6)
          obtain ⟨sp, hsp⟩ : ∃ sp, sk.put (E.opOf cl x) = sp := ⟨_, rfl⟩
          rw [hsp] at HM hret
          obtain ⟨sn, c0, fr0⟩ := sp
          dsimp only at HM hret
          subst hret
          have hcl9 : cl.length + 1 ≤ 1000000000 := by have := HM.out.len; omega
          have Ho6 := Lib.hid HM.out.own
          clear hp6 hsp Hpu HI5
          go_wp2_with (at_builtin; refine wpList_append_one' rfl (.tmp 85) (.tmp 87) 60 rfl 3 (.int .i64 0) 8 Tryz.underlying60 infoInt rfl _ cl.length _ rfl Ho6.out (.int .i64 (c0 : Int)) rfl 3 w6.heap.size rfl rfl (by omega) (by omega) ?_; intro v' w7 hown' hgr hat; have Hown' := Lib.hid hown'; have Hgr7 := Lib.hid hgr; have Hat := Lib.hid hat; clear hown' hgr hat)
          have HI7 := Lib.hid ((HM.out.below (w' := w6.alloc (.cells #[.int .i64 (c0 : Int)] 3)) ((Below.refl _ _).alloc (Nat.le_refl _) _)).note Hown'.out Hgr7.out (hat_ex (o := .cells #[.int .i64 (c0 : Int)] 3) Hat.out))
          clear HM Ho6 Hown' Hgr7 Hat
          go_roundg (gk - 1)
          case measure => have := Hgk2.out; omega
          case rel =>
            have := Hgk2.out
            exact ⟨k + 1, sn, cl ++ [c0], t1', t2', v', by omega, rfl, by go_num, by omega, HI7⟩
        · obtain rfl : k = L.length := by omega
          have Hpt := Lib.hid (show s0.puts [] L = (sk, cl) from by
            have h := HI.out.told
            rw [List.drop_of_length_le (Nat.le_refl _)] at h
            exact h)
          have hpl : sk.p.length ≤ 900000 := by have := HI.out.lp; have := Hb0.out; omega
          have Hpl := Lib.hid hpl
          have Hrb := Lib.hid (rrebuild_any HI.out.ng.gr HI.out.ok.down HI.out.ok.inn HI.out.ok.ar HI.out.owf (by omega))
          clear hpl
          go_wp2_with fail
          (with_reducible refine Hrb.out.mono ?_)
          rintro e w5 ⟨p1, es1, kc, hp⟩
          have hret := hp.ret
          subst hret
          have Hsh := Lib.hid hp.sh
          have Howf := Lib.hid hp.owf
          have HN5 := Lib.hid (show NewRG Wc p1 sk.wd es1 sk.nm sk.vr w5 gb t1 t2 t4 kc from ⟨hp.gr, HI.out.ng.bel.trans (hp.kp.below HI.out.ng.bel.size HI.out.ng.new), by
            rintro i (rfl | rfl | e | e | e)
            · exact HI.out.ng.new _ (.inl rfl)
            · rcases hp.nk with e | e
              · rw [e]; exact HI.out.ng.new _ (.inr (.inl rfl))
              · have := HI.out.ng.bel.size; omega
            · exact HI.out.ng.new _ (.inr (.inr (.inl e)))
            · exact HI.out.ng.new _ (.inr (.inr (.inr (.inl e))))
            · exact HI.out.ng.new _ (.inr (.inr (.inr (.inr e))))⟩)
          have Hown := Lib.hid (HI.out.own.same (w' := w5) fun i hi => hp.kp.block i (HI.out.own.lt i hi) (fun hm => HI.out.cap i hm hi))
          have Hp1 := Lib.hid (show p1.length = sk.p.length from hp.sh.mid.len)
          have Hcls := Lib.hid (rClasses_any HN5.out.gr Hsh.out.mid.down (by rw [Hp1.out]; exact Hpl.out))
          clear hp Hrb
          go_wp2_with fail
          (with_reducible refine Hcls.out.mono ?_)
          rintro e w6 ⟨rfl, hw6⟩
          rw [hw6]
          clear hw6 w6 Hcls
          have Hshut := Lib.hid (show E.RShut (E.Gr.puts { s with es := es0 } [] (T.canon fr)).1.p (E.Gr.puts { s with es := es0 } [] (T.canon fr)).1.es p1 es1 from by rw [HL.out, ← Hs0.out, Hpt.out]; exact Hsh.out)
          have Hvok := Lib.hid (show ∀ i, i < 4 → ¬ E.VBad s.vr (T.widths (T.canon fr)) i from by rw [HL.out, Hws.out]; exact Hok.out)
          by_cases hr : 60 < E.roots p1
          · have hrI : ((E.roots p1 : Nat) : Int) > 60 := by omega
            have Hr := Lib.hid hr
            clear hr
            go_wp2
            refine bodyPost_ret (results_tmp2 rfl _ _ _) rfl ?_
            have hb6 : Below W.heap.size W w5 := Hbw.out.trans (HN5.out.bel.mono Hbw.out.size)
            exact ⟨s, 0, 3, v1, v2, v4, kb, rfl, .large Hv.out Hfr.out Hvok.out Hnd.out Hmem.out Hshut.out Hr.out, H.out.below hb6, Ok.out, Hw.out, Kpm.of_below hb6 _, fun i hi => .inl hi⟩
          · have hrI : ¬ ((E.roots p1 : Nat) : Int) > 60 := by omega
            have Hr := Lib.hid hr
            clear hr
            have Hcap := Lib.hid Hown.out
            have HN0 := Lib.hid (show NewRG Wc p1 sk.wd es1 sk.nm s.vr w5 gb t1 t2 t4 kc from by
              have h := HN5.out
              rw [HI.out.vr, Hs0.out] at h
              exact h)
            go_wp2
            go_loopg [15] 5 (fun gg s15 wx => ∃ (j : Nat) (vr' : E.Vr), j ≤ 4 ∧ s15 = .int .i64 (j : Int) ∧ gg + j = 5 ∧ Hid (NewRG Wc p1 sk.wd es1 sk.nm vr' wx gb t1 t2 t4 kc) ∧ Hid (OwnAt wx 3 1 (.slice Av cl.length cv) cl.length (ivs cl)) ∧ Hid (∀ i, i < 4 → vr'.get i = if i < j then max (s.vr.get i) (ws.getD i 0) else s.vr.get i))
            case atStart => exact ⟨0, s.vr, by omega, rfl, rfl, HN0, Hown, Lib.hid fun i hi => by rw [if_neg (by omega)]⟩
            case round =>
              obtain ⟨j, vr', hj, rfl, hgk3, HN6, Ho6, Hvr⟩ := hrel
              have Hgk3 := Lib.hid hgk3
              clear hgk3 HN0 HN5 Hown
              by_cases hjl : j < 4
              · have hjI : (j : Int) < 4 := by omega
                obtain ⟨z, hz⟩ : ∃ z, ws[j]? = some z := ⟨_, List.getElem?_eq_getElem (by rw [Hws4.out]; exact hjl)⟩
                have Hz := Lib.hid (show ws.getD j 0 = z from by rw [List.getD_eq_getElem?_getD, hz]; rfl)
                have hcz : wr.cell? ⟨gw, j, none⟩ = some (.int .i64 z) := by
                  have hr := (HN6.out.bel.block gw (Array.getElem?_eq_some_iff.1 Hrw4.out).1).trans Hrw4.out
                  rw [cell_of_row _ _ _ _ _ (0, 0) hr, List.getElem?_toArray, List.getElem?_map, hz]; rfl
                have hcv := HN6.out.gr.vrCell hjl
                obtain ⟨v, hv⟩ : ∃ v, s.vr.get j = v := ⟨_, rfl⟩
                have hv' := Hvr.out j hjl
                rw [if_neg (Nat.lt_irrefl j), hv] at hv'
                rw [hv'] at hcv
                have Hvj := Lib.hid hv
                clear hz hv hv'
                rcases Int.lt_trichotomy v z with hvz | hvz | hvz
                · have q1 : v ≤ z := by omega
                  have q2 : ¬ z ≤ v := by omega
                  go_upto_region 23 with (fail)
                  refine wp_region_rd 16 ?af1 (by kernel_rfl) (by kernel_rfl) (by kernel_rfl) (by kernel_rfl) (by kernel_rfl) (by kernel_rfl) ?_ ?_
                  rotate_left
                  · intro X hX ov
                    have c1 := ov.cell ((hX.cell (p := ⟨gw, j, none⟩) (cell_below hcz)).trans hcz)
                    have c2 := ov.cell ((hX.cell (p := ⟨gb, 4 + j, none⟩) (cell_below hcv)).trans hcv)
                    simp only [List.take_succ_cons, List.take_zero]
                    repeat (go_big_quiet_step (fail))
                    refine wpQuiet_nil ?_
                    rfl
                  intro w7 hb7
                  have HN7 := Lib.hid (HN6.out.below hb7)
                  have Ho7 := Lib.hid (Ho6.out.below hb7 Ho6.out.lt)
                  have z3 := (hb7.cell (p := ⟨gb, 4 + j, none⟩) (cell_below hcv)).trans hcv
                  clear hcz hcv hb7
                  simp only [List.drop_succ_cons, List.drop_zero]
                  have kf := frozen_row HN7.out.gr.row (4 + j)
                  go_wp2
                  clear kf z3
                  have HN8 := Lib.hid (HN7.out.setV hjl z)
                  have Ho8 := Lib.hid (Ho7.out.setCell (p := ⟨gb, 4 + j, none⟩) (Ho7.out.ne_row HN7.out.gr.row (by decide)) (.int .i64 z))
                  go_wp2
                  go_roundg (gk - 1)
                  case measure => have := Hgk3.out; omega
                  case rel =>
                    have := Hgk3.out
                    exact ⟨j + 1, vr'.set j z, by omega, by go_num, by omega, HN8, Ho8, Lib.hid fun i hi => by
                      rw [E.vr_get_lt hjl _ i hi]
                      by_cases e : i = j
                      · subst e
                        rw [if_pos rfl, if_pos (Nat.lt_succ_self _), Hvj.out, Hz.out]
                        omega
                      · rw [if_neg e, Hvr.out i hi]
                        by_cases h : i < j
                        · rw [if_pos h, if_pos (by omega)]
                        · rw [if_neg h, if_neg (by omega)]⟩
                · subst hvz
                  have q1 : v ≤ v := Int.le_refl _
                  go_upto_region 23 with (fail)
                  refine wp_region_rd 16 ?af2 (by kernel_rfl) (by kernel_rfl) (by kernel_rfl) (by kernel_rfl) (by kernel_rfl) (by kernel_rfl) ?_ ?_
                  rotate_left
                  · intro X hX ov
                    have c1 := ov.cell ((hX.cell (p := ⟨gw, j, none⟩) (cell_below hcz)).trans hcz)
                    have c2 := ov.cell ((hX.cell (p := ⟨gb, 4 + j, none⟩) (cell_below hcv)).trans hcv)
                    simp only [List.take_succ_cons, List.take_zero]
                    repeat (go_big_quiet_step (fail))
                    refine wpQuiet_nil ?_
                    rfl
                  intro w7 hb7
                  have HN7 := Lib.hid (HN6.out.below hb7)
                  have Ho7 := Lib.hid (Ho6.out.below hb7 Ho6.out.lt)
                  have z3 := (hb7.cell (p := ⟨gb, 4 + j, none⟩) (cell_below hcv)).trans hcv
                  clear hcz hcv hb7
                  simp only [List.drop_succ_cons, List.drop_zero]
                  have kf := frozen_row HN7.out.gr.row (4 + j)
                  go_wp2
                  clear kf z3
                  have HN8 := Lib.hid (HN7.out.setV hjl v)
                  have Ho8 := Lib.hid (Ho7.out.setCell (p := ⟨gb, 4 + j, none⟩) (Ho7.out.ne_row HN7.out.gr.row (by decide)) (.int .i64 v))
                  go_wp2
                  go_roundg (gk - 1)
                  case measure => have := Hgk3.out; omega
                  case rel =>
                    have := Hgk3.out
                    exact ⟨j + 1, vr'.set j v, by omega, by go_num, by omega, HN8, Ho8, Lib.hid fun i hi => by
                      rw [E.vr_get_lt hjl _ i hi]
                      by_cases e : i = j
                      · subst e
                        rw [if_pos rfl, if_pos (Nat.lt_succ_self _), Hvj.out, Hz.out]
                        omega
                      · rw [if_neg e, Hvr.out i hi]
                        by_cases h : i < j
                        · rw [if_pos h, if_pos (by omega)]
                        · rw [if_neg h, if_neg (by omega)]⟩
                · have q1 : z ≤ v := by omega
                  have q2 : ¬ v ≤ z := by omega
                  have q3 : ¬ v < z := by omega
                  go_upto_region 23 with (fail)
                  refine wp_region_rd 16 ?af3 (by kernel_rfl) (by kernel_rfl) (by kernel_rfl) (by kernel_rfl) (by kernel_rfl) (by kernel_rfl) ?_ ?_
                  rotate_left
                  · intro X hX ov
                    have c1 := ov.cell ((hX.cell (p := ⟨gw, j, none⟩) (cell_below hcz)).trans hcz)
                    have c2 := ov.cell ((hX.cell (p := ⟨gb, 4 + j, none⟩) (cell_below hcv)).trans hcv)
                    simp only [List.take_succ_cons, List.take_zero]
                    repeat (go_big_quiet_step (fail))
                    refine wpQuiet_nil ?_
                    rfl
                  intro w7 hb7
                  have HN7 := Lib.hid (HN6.out.below hb7)
                  have Ho7 := Lib.hid (Ho6.out.below hb7 Ho6.out.lt)
                  have z3 := (hb7.cell (p := ⟨gb, 4 + j, none⟩) (cell_below hcv)).trans hcv
                  clear hcz hcv hb7
                  simp only [List.drop_succ_cons, List.drop_zero]
                  have kf := frozen_row HN7.out.gr.row (4 + j)
                  go_wp2
                  clear kf z3
                  have HN8 := Lib.hid (HN7.out.setV hjl v)
                  have Ho8 := Lib.hid (Ho7.out.setCell (p := ⟨gb, 4 + j, none⟩) (Ho7.out.ne_row HN7.out.gr.row (by decide)) (.int .i64 v))
                  go_wp2
                  go_roundg (gk - 1)
                  case measure => have := Hgk3.out; omega
                  case rel =>
                    have := Hgk3.out
                    exact ⟨j + 1, vr'.set j v, by omega, by go_num, by omega, HN8, Ho8, Lib.hid fun i hi => by
                      rw [E.vr_get_lt hjl _ i hi]
                      by_cases e : i = j
                      · subst e
                        rw [if_pos rfl, if_pos (Nat.lt_succ_self _), Hvj.out, Hz.out]
                        omega
                      · rw [if_neg e, Hvr.out i hi]
                        by_cases h : i < j
                        · rw [if_pos h, if_pos (by omega)]
                        · rw [if_neg h, if_neg (by omega)]⟩
              · obtain rfl : j = 4 := by omega
                have Hvm := Lib.hid (vr_max_of Hvr.out)
                obtain ⟨m, hm1⟩ : ∃ m, cl.length = m + 1 := ⟨cl.length - 1, by have := HI.out.len; omega⟩
                obtain ⟨d, hd⟩ : ∃ d, cl[m]? = some d := ⟨_, List.getElem?_eq_getElem (by omega)⟩
                have Hd := Lib.hid (show cl.getD (L.length - 1) 0 = d ∧ d < p1.length from by
                  refine ⟨by rw [← HI.out.len, hm1, Nat.add_sub_cancel, List.getD_eq_getElem?_getD, hd]; rfl, ?_⟩
                  rw [Hp1.out]
                  exact HI.out.lo d (List.mem_of_getElem? hd))
                have hsl : SlAt (IntR .i64) wr Av cl.length (ini cl) := by
                  have ho := Ho6.out
                  rw [show ivs cl = (ini cl).map (Value.int .i64) by simp [ivs, ini]] at ho
                  exact ho.slInts
                obtain ⟨yd, gv, ov, uv, hyd, rfl, hgv, hcd, rfl⟩ := hsl.at_ (k := m) (by omega)
                obtain ⟨d', rfl, hd'⟩ := ini_some hyd
                rw [hd] at hd'
                cases hd'
                have hN5 := HN6.out
                rw [HI.out.nm, Hs0.out] at hN5
                have HN5 := Lib.hid hN5
                obtain ⟨A4, c4, e4⟩ := hN5.gr.o4.form
                dsimp only at e4
                subst e4
                have hcd2 : (wr.alloc (.cells #[.int .i64 (d : Int)] 3)).cell? ⟨gv, ov + m, none⟩ = some (.int .i64 (d : Int)) := (((Below.refl wr.heap.size wr).alloc (Nat.le_refl _) (.cells #[.int .i64 (d : Int)] 3)).cell (p := ⟨gv, ov + m, none⟩) hgv).trans hcd
                have k4 := hN5.gr.cells.2.2.2
                have k4' : (wr.alloc (.cells #[.int .i64 (d : Int)] 3)).cell? ⟨gb, 3, none⟩ = some (.slice A4 s.nm.length c4) := by rw [cell_of_row _ _ _ _ _ (0, 0) (row_alloc hN5.gr.row _)]; rfl
                have HW := Lib.hid (show Below wr.heap.size wr ((wr.alloc (.cells #[.int .i64 (d : Int)] 3)).drew) from ((Below.refl _ _).alloc (Nat.le_refl _) _).drew)
                have Hne4 := Lib.hid hN5.gr.ne4
                have Hrb := Lib.hid (show ((wr.alloc (.cells #[.int .i64 (d : Int)] 3)).drew).heap[gb]? = _ from row_alloc hN5.gr.row _)
                have hi1 : (cl.length : Int) - 1 = (m : Int) := by omega
                have hclL := HI.out.len
                have hwr : IntKind.i64.wrap (m : Int) = (m : Int) := IntWalk.i64_in _ (by omega)
                have hm2 : m < cl.length := by omega
                have hL63 : cl.length ≤ 300 := by omega
                have Hnm := Lib.hid (show s.nm.length + 1 ≤ 1000000000 from by omega)
                clear hyd hsl hgv hd hN5 hm1 hclL
                go_upto_region 24 with (fail)
                go_cut [10] (fun s10 wx => ∃ t4' : Value, s10 = .pointer (some ⟨gb, 0, none⟩) ∧ Hid (NewRG Wc p1 sk.wd es1 (s.nm ++ [d]) vr' wx gb t1 t2 t4' kc))
                case first =>
                  go_region_law (first
                    | (refine step_append_src _ rfl (.tmp 124) (.tmp 131) 60 rfl 3 (.int .i64 0) 1 8 Tryz.underlying60 infoInt rfl (by decide) (.slice A4 s.nm.length c4) s.nm.length _ rfl (HN5.out.gr.o4.same (fun g hg => HW.out.block g (HN5.out.gr.o4.lt g hg))) (some ⟨wr.heap.size, 0, none⟩) 1 1 [.int .i64 (d : Int)] rfl rfl (src_new wr [.int .i64 (d : Int)] 3) (by simp; rfl) Hnm.out (by decide) ?_
                       intro v' w7 hown7 hgr7 hat7
                       obtain ⟨A7, c7, rfl⟩ := hown7.form
                       have kc' := cell_of_row w7 gb 3 _ _ (0, 0) (grown_row hgr7 Hrb.out Hne4.out)
                       have kfr := frozen_row (grown_row hgr7 Hrb.out Hne4.out) 3
                       have Hown7 := Lib.hid hown7
                       have Hgr7 := Lib.hid (undrew hgr7)
                       have Hat7 := Lib.hid (hat_ex2 hat7)
                       clear hown7 hgr7 hat7
                       simp only [List.getElem?_toArray, List.getElem?_cons_zero, List.getElem?_cons_succ] at kc'))
                  all_goals
                    go_wp2_with fail
                    go_meet
                    exact ⟨.slice A7 (s.nm.length + 1) c7, rfl, Lib.hid ⟨(HN5.out.gr.below ((Below.refl _ _).alloc (Nat.le_refl _) _)).app4 Hown7.out Hgr7.out Hat7.out, ((HN5.out.bel.alloc (HN5.out.bel.size) _).grown Hgr7.out (by have := HN5.out.bel.size; simp; omega) (fun g hg => HN5.out.new g (.inr (.inr (.inr (.inr hg)))))).setCell (p := ⟨gb, 3, none⟩) (HN5.out.new gb (.inl rfl)) _, by
                      rintro i (rfl | rfl | e | e | e)
                      · exact HN5.out.new _ (.inl rfl)
                      · exact HN5.out.new _ (.inr (.inl rfl))
                      · exact HN5.out.new _ (.inr (.inr (.inl e)))
                      · exact HN5.out.new _ (.inr (.inr (.inr (.inl e))))
                      · rcases Hat7.out with e' | ⟨kk, hkk, e'⟩
                        · exact HN5.out.new _ (.inr (.inr (.inr (.inr (e' ▸ e)))))
                        · rw [e'] at e; injection e with e; have := HN5.out.bel.size; simp at hkk; omega⟩⟩
                case rest =>
                obtain ⟨t4', rfl, HN7⟩ := hcut
                obtain ⟨w6, hw6⟩ : ∃ w6, w6 = wc := ⟨_, rfl⟩
                rw [← hw6] at HN7 ⊢
                clear hw6 hcd hcd2 k4 k4'
                have hrow := HN7.out.gr.row
                have hbb : b < W.heap.size := H.out.lt b (.inl rfl)
                have hbel6 : Below W.heap.size W w6 := Hbw.out.trans (HN7.out.bel.mono Hbw.out.size)
                have hrb6 : w6.heap[b]? = _ := (hbel6.block b hbb).trans H.out.row
                have Hrb6 := Lib.hid hrb6
                have Hrow := Lib.hid hrow
                have Hbel6 := Lib.hid hbel6
                obtain ⟨A9, c9, e9⟩ := HN7.out.gr.o4.form
                subst e9
                obtain ⟨B1, d1, e9⟩ := HN7.out.gr.o1.form
                subst e9
                obtain ⟨B2, d2, e9⟩ := HN7.out.gr.o2.form
                subst e9
                have hnl : (s.nm ++ [d]).length = s.nm.length + 1 := by simp
                rw [hnl] at hrow Hrow
                obtain ⟨y0, y1, y2, y3, y4, y5, y6, y7⟩ := row8_cells hrow
                obtain ⟨z0, z1, z2, z3, z4, z5, z6, z7⟩ := row8_cells hrb6
                have f0 := frozen_row hrb6 0
                have f1 := frozen_row hrb6 1
                have f2 := frozen_row hrb6 2
                have f3 := frozen_row hrb6 3
                have f4 := frozen_row hrb6 4
                have f5 := frozen_row hrb6 5
                have f6 := frozen_row hrb6 6
                have f7 := frozen_row hrb6 7
                clear hrow hrb6 hbel6
                go_upto_region 26 with (fail)
                clear y0 y1 y2 y3 y4 y5 y6 y7 z0 z1 z2 z3 z4 z5 z6 z7 f0 f1 f2 f3 f4 f5 f6 f7
                obtain ⟨w9, hw9⟩ : ∃ w9, w9 = ((((((((w6.setCell ⟨b, 0, none⟩ (.slice B1 p1.length d1)).setCell ⟨b, 1, none⟩ (.slice B2 sk.wd.length d2)).setCell ⟨b, 2, none⟩ (.map (some kc))).setCell ⟨b, 3, none⟩ (.slice A9 (s.nm.length + 1) c9)).setCell ⟨b, 4, none⟩ (.int .i64 vr'.a)).setCell ⟨b, 5, none⟩ (.int .i64 vr'.b)).setCell ⟨b, 6, none⟩ (.int .i64 vr'.c)).setCell ⟨b, 7, none⟩ (.int .i64 vr'.d)) := ⟨_, rfl⟩
                have hr9 : w9.heap[b]? = some (.cells #[.slice B1 p1.length d1, .slice B2 sk.wd.length d2, .map (some kc), .slice A9 (s.nm.length + 1) c9, .int .i64 vr'.a, .int .i64 vr'.b, .int .i64 vr'.c, .int .i64 vr'.d] 92 (0, 0)) := by rw [hw9]; exact set8_row Hrb6.out _ _ _ _ _ _ _ _
                have ho9 : ∀ i, i ≠ b → w9.heap[i]? = w6.heap[i]? := by rw [hw9]; exact set8_other _ _ _ _ _ _ _ _
                have hk9 : Kpm (fun i => i = b) W w9 := by rw [hw9]; exact set8_kpm (Kpm.of_below Hbel6.out _) _ _ _ _ _ _ _ _
                rw [← hw9]
                clear hw9
                have hbW := Hbw.out.size
                have Hg9 := Lib.hid (HN7.out.gr.move (w' := w9) (b' := b) (by rw [hnl]; exact hr9) ho9 (fun i hi _ e => by have := HN7.out.new i hi; omega))
                have Hk9 := Lib.hid hk9
                have k9 : w9.cell? ⟨b, 3, none⟩ = some (.slice A9 (s.nm.length + 1) c9) := by rw [cell_of_row _ _ _ _ _ (0, 0) hr9]; rfl
                have hsub : ((s.nm.length + 1 : Nat) : Int) - 1 = (s.nm.length : Int) := by omega
                have HbW := Lib.hid (And.intro hbb hbW)
                clear hr9 ho9 hk9 hnl hbb hbW
                go_wp2
                refine bodyPost_ret (results_tmp2 rfl _ _ _) rfl ?_
                have hR := E.RAddR.ok (s := s) (t := t) Hv.out Hfr.out Hvok.out Hnd.out Hmem.out Hshut.out Hr.out
                rw [HL.out, Hws.out, ← Hs0.out, Hpt.out, ← Hvm.out, Hd.out.1] at hR
                refine ⟨_, _, _, .slice B1 p1.length d1, .slice B2 sk.wd.length d2, .slice A9 (s.nm ++ [d]).length c9, kc, rfl, hR, Hg9.out, ⟨Hsh.out.mid.down, ?_, Hsh.out.mid.inn, Hsh.out.mid.ar HI.out.ok.ar, fun c hc => ?_⟩, Howf.out, Hk9.out, ?_⟩
                · show sk.wd.length = p1.length
                  rw [Hp1.out]
                  exact HI.out.ok.wd
                · rcases List.mem_append.1 hc with hc | hc
                  · show c < p1.length
                    rw [Hp1.out]
                    refine HI.out.ok.nm c ?_
                    rw [HI.out.nm, Hs0.out]
                    exact hc
                  · simp at hc; subst hc; exact Hd.out.2
                · rintro i (rfl | hi)
                  · exact .inl (.inl rfl)
                  · have := HN7.out.new i (.inr hi)
                    have := HbW.out.2
                    exact .inr (by omega)
end Go.Proofs.YtcmlmjbpdaecbaaGreat
