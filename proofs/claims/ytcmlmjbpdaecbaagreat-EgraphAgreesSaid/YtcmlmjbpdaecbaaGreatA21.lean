/- Graphs (the program): Add. -/
import Derived.Test.YtcmlmjbpdaecbaaGreatA20
set_option linter.unusedVariables false
set_option linter.unusedSimpArgs false
namespace Go.Proofs.YtcmlmjbpdaecbaaGreat
open Go.RowKit Go.MapKept Go.Maps Go.WideMaps
set_option linter.unusedVariables false
set_option linter.unusedSimpArgs false

theorem nd_imm2 {W : World} {At : Option Addr} {n : Nat} {t : List T.Nd} (h : StAt 5 NdR W At n t) : ∀ x ∈ t, 0 ≤ x.imm ∧ x.imm < 4294967296 := fun x hx => by
  obtain ⟨k, hk⟩ := List.getElem?_of_mem hx
  have hlt := (List.getElem?_eq_some_iff.1 hk).1
  rw [h.len] at hlt
  obtain ⟨y, b, off, A, c, hy, _, _, _, _, _, _, _, _, i0, i1⟩ := nd_cells h hlt
  rw [hk] at hy
  cases hy
  exact ⟨i0, i1⟩

/-- behind Add -/
structure GAdd (W : World) (b : Nat) (s : E.Gr) (t : List T.Nd) (v1 v2 v3 v4 : Value) (kb : Nat) (e : Ending) (W' : World) (s' : E.Gr) (no er : Int) (v1' v2' v3' v4' : Value) (kb' : Nat) : Prop where
  ret : e = .returned (.tuple #[.int .i64 no, .int .i64 er])
  told : E.AddR s t s' no er
  gr : GrC W' b s'.p s'.wd s'.es s'.es s'.nm s'.vr v1' v2' v3' v4' kb'
  ok : s'.Ok
  owf : ∀ k ∈ s'.es, OWf k.1
  lp : s'.p.length ≤ s.p.length + 300
  le : s'.es.length ≤ s.es.length + 300
  lm : s'.nm.length ≤ s.nm.length + 1
  kp : Kpm (fun i => i = b) W W'
  new : ∀ i, MG b v1' v2' v3' v4' kb' i → MG b v1 v2 v3 v4 kb i ∨ W.heap.size ≤ i

set_option maxRecDepth 100000 in
set_option maxHeartbeats 8000000 in
theorem gAdd_any {W : World} {b : Nat} {s : E.Gr} {v1 v2 v3 v4 : Value} {kb : Nat} (h : GrC W b s.p s.wd s.es s.es s.nm s.vr v1 v2 v3 v4 kb) (ok : s.Ok) (hw : ∀ e ∈ s.es, OWf e.1) (hn : s.p.length ≤ 800000) (he : s.es.length ≤ 800000) (hm : s.nm.length ≤ 800000) {t : List T.Nd} {n ct : Nat} {At : Option Addr} (hT : StAt 5 NdR W At n t) :
    Calls Tryz.prog 23 #[.pointer (some ⟨b, 0, none⟩), .slice At n ct] W fun e W' => ∃ s' no er v1' v2' v3' v4' kb', GAdd W b s t v1 v2 v3 v4 kb e W' s' no er v1' v2' v3' v4' kb' := by
  have Hsh := Lib.hid (gShare_any t n ct At W hT)
  have H := Lib.hid h
  have Ok := Lib.hid ok
  have Hw := Lib.hid hw
  have HT := Lib.hid hT
  clear h ok hw hT
  go_enter Tryz.func23, Tryz.ntmps23
  go_wp2_with fail
  (with_reducible refine Hsh.out.mono ?_)
  rintro e w2 ⟨hb, ⟨hv, rfl⟩ | ⟨hv, fr, A', c', hfr, rfl, hst⟩⟩
  · obtain ⟨v, hvv⟩ : ∃ v, T.valid true t = v := ⟨_, rfl⟩
    rw [hvv] at hv ⊢
    have q : (v != 0) = true := by simpa using hv
    have Hv := Lib.hid hv
    have Hvv := Lib.hid hvv
    have Hb := Lib.hid hb
    clear hv hvv hb
    go_wp2
    refine bodyPost_ret (results_tmp2 rfl _ _ _) rfl ?_
    exact ⟨s, 0, v, v1, v2, v3, v4, kb, rfl, .inl ⟨by rw [Hvv.out]; exact Hv.out, rfl, rfl, Hvv.out.symm⟩, H.out.below Hb.out, Ok.out, Hw.out, Nat.le_add_right _ _, Nat.le_add_right _ _, Nat.le_succ _, Kpm.of_below Hb.out _, fun i hi => .inl hi⟩
  obtain ⟨l1, l2, l3, l4⟩ := E.valid_ok hv
  obtain ⟨L, hL⟩ : ∃ L, T.canon fr = L := ⟨_, rfl⟩
  have HLo := Lib.hid (show T.Ord L from hL ▸ T.canon_ord fr)
  have HLk := Lib.hid (show ∀ x ∈ L, E.NdOk x ∧ 0 ≤ x.imm ∧ x.imm < 4294967296 from hL ▸ E.canon_ok l3 (nd_imm2 HT.out) hfr)
  have hLn : L.length ≤ 300 := by have := T.canon_len hfr; rw [hL] at this; omega
  have hL1 : 1 ≤ L.length := by have := (E.canon_root hfr).2; rw [hL] at this; exact this
  rw [hL] at hst ⊢
  have HL := Lib.hid hL
  have Hv := Lib.hid hv
  have Hfr := Lib.hid hfr
  have Hst := Lib.hid hst
  have Hb := Lib.hid hb
  have Hcp := Lib.hid (gcopied_any (H.out.below hb) Hw.out (by omega) (by have := Ok.out.wd; omega) (by omega) (by omega))
  clear hv hfr hst hb hL l1 l2 l3 l4
  go_wp2_with fail
  (with_reducible refine Hcp.out.mono ?_)
  rintro e w3 ⟨gb, u1, u2, u3, u4, km, rfl, hN⟩
  have HN := Lib.hid hN
  clear hN
  have hmk := fun (W' : World) => run_make_n (P := Tryz.prog) 60 3 (.int .i64 0) 8 Tryz.underlying60 infoInt rfl .i64 .i64 L.length (L.length : Int) rfl (by omega) (by omega) W'
  go_upto_region 8 with (fail)
  clear hmk
  obtain ⟨w4, hw4⟩ : ∃ w4, w4 = w3.alloc (.cells (Array.replicate L.length (Value.int .i64 0)) 3) := ⟨_, rfl⟩
  obtain ⟨gc, hgc⟩ : ∃ gc, gc = w3.heap.size := ⟨_, rfl⟩
  have HI0 := Lib.hid (show AddI w2 s L gb gc 0 s (List.replicate L.length 0) u1 u2 u3 u4 km w4 from by
    have hb4 : Below w3.heap.size w3 w4 := by rw [hw4]; exact (Below.refl _ _).alloc (Nat.le_refl _) _
    refine ⟨⟨HN.out.gr.below hb4, HN.out.bel.trans (hb4.mono HN.out.bel.size), HN.out.new⟩, ?_, by rw [hgc]; exact HN.out.bel.size, fun i hi => by have := HN.out.gr.lt i hi; omega, by simp, rfl, Ok.out, Hw.out, by omega, by omega, rfl, fun c hc => by simp at hc⟩
    have := OwnAt.of_new (e := 3) (s := 1) w3 (Array.replicate L.length (Value.int .i64 0)) L.length (by simp) (by simp only [maxLen]; omega)
    rw [hw4, hgc, show ivs (List.replicate L.length 0) = (Array.replicate L.length (Value.int .i64 0)).toList by simp [ivs]]
    exact this)
  rw [← hw4, ← hgc]
  clear hw4 hgc
  go_wp2
  clear HN Hcp Hsh
  go_loopg [33] (L.length + 1) (fun gg s33 wr => ∃ (k : Nat) (sk : E.Gr) (cls : List Nat) (u1 u2 u3 u4 : Value) (km : Nat), k ≤ L.length ∧ s33 = .int .i64 (k : Int) ∧ gg + k = L.length + 1 ∧ Hid (AddI w2 s L gb gc k sk cls u1 u2 u3 u4 km wr))
  case atStart => exact ⟨0, s, List.replicate L.length 0, u1, u2, u3, u4, km, Nat.zero_le _, rfl, rfl, HI0⟩
  case round =>
    obtain ⟨k, sk, cls, u1, u2, u3, u4, km, hk, rfl, hgk, HI⟩ := hrel
    have Hgk := Lib.hid hgk
    clear hgk HI0
    by_cases hkl : k < L.length
    · obtain ⟨x, b', off, A, c, hx, rfl, hb', h0, h1, h2, h3, h4, hs, i0, i1⟩ := nd_cells (Hst.out.below monoNd HI.out.ng.bel) hkl
      have Hx := Lib.hid hx
      have Hxk := Lib.hid (HLk.out x (List.mem_of_getElem? hx))
      have Hxa := Lib.hid (HLo.out k x hx)
      have hr5 : (wr.alloc (.cells #[.int .i64 x.op, .int .i64 x.w, .int .i64 x.fl, .slice A x.args.length c, .int .u32 x.imm] 63)).heap[wr.heap.size]? = some (.cells #[.int .i64 x.op, .int .i64 x.w, .int .i64 x.fl, .slice A x.args.length c, .int .u32 x.imm] 63 (0, 0)) := heap_alloc_new wr _
      have Hb5 := Lib.hid (show Below wr.heap.size wr (wr.alloc (.cells #[.int .i64 x.op, .int .i64 x.w, .int .i64 x.fl, .slice A x.args.length c, .int .u32 x.imm] 63)) from (Below.refl _ _).alloc (Nat.le_refl _) _)
      have Hsa := Lib.hid (hs.below (monoInt _) Hb5.out)
      have hk64 := Hst.out.le
      go_upto_region 11 with (fail)
      clear h0 h1 h2 h3 h4 hs hx hb'
      have HI5 := Lib.hid (HI.out.below Hb5.out)
      have Hg11 := Lib.hid (show gb ≠ wr.heap.size from fun e => by have := HI.out.ng.gr.lt gb (.inl rfl); omega)
      obtain ⟨g11, hg11⟩ : ∃ g, g = wr.heap.size := ⟨_, rfl⟩
      have Hg11c := Lib.hid (show gc ≠ g11 ∧ w2.heap.size ≤ g11 from ⟨fun e => by have := HI.out.gcw; omega, by rw [hg11]; exact HI.out.ng.bel.size⟩)
      obtain ⟨X5, hX5⟩ : ∃ X5, X5 = wr.alloc (.cells #[.int .i64 x.op, .int .i64 x.w, .int .i64 x.fl, .slice A x.args.length c, .int .u32 x.imm] 63) := ⟨_, rfl⟩
      rw [← hX5] at hr5 HI5 Hsa ⊢
      rw [← hg11] at hr5 Hg11 ⊢
      have Hr5 := Lib.hid hr5
      clear hX5 hg11 Hb5 HI
      clear hr5
      obtain ⟨m0, m1, m2, m3, m4⟩ := nd5_cells Hr5.out
      go_upto_if 40 with (fail)
      go_cut [10] (fun s10 wx => ∃ s1 : E.Gr, s10 = .int .i64 (k : Int) ∧ Hid (AddV w2 s L gb gc k x s1 cls u1 u2 u3 u4 km wx) ∧ Hid (wx.heap[g11]? = some (.cells #[.int .i64 x.op, .int .i64 x.w, .int .i64 x.fl, .slice A x.args.length c, .int .u32 x.imm] 63 (0, 0))) ∧ Hid (SlAt (IntR .i64) wx A x.args.length x.args))
      case first =>
        by_cases hop : x.op = 33
        · have q : (x.op == 33) = true := by simpa using hop
          obtain ⟨i, hi⟩ : ∃ i : Nat, x.imm = (i : Int) := ⟨x.imm.toNat, by omega⟩
          have hi4 : i < 4 := by have := (Hxk.out.1.var hop).1; omega
          have Hop := Lib.hid hop
          have Hi := Lib.hid hi
          have Hi4 := Lib.hid hi4
          clear hop
          go_upto_region 12 with (fail)
          clear q m0
          obtain ⟨ov⟩ := ov_ex X5
          rw [hi] at m4
          have z1 := ov.cell m4
          have z2 := ov.cell (HI5.out.ng.gr.varAt hi4)
          clear m1 m2 m3 m4 hi
          refine wp_region_ovq ov (by kernel_rfl) (by kernel_rfl) ?_
          repeat (go_big_quiet_step (fail))
          refine wpQuiet_nil ?_
          rintro _ ⟨u, rfl⟩
          clear z1 z2
          have HI6 := Lib.hid (HI5.out.below (ov.below u))
          have Hr6 := Lib.hid (row_step (Lib.hid (ov.below u)) Hr5.out)
          have Hs6 := Lib.hid (Hsa.out.below (monoInt _) (ov.below u))
          generalize ov.f u = X6 at *
          obtain ⟨m0, m1, m2, m3, m4⟩ := nd5_cells Hr6.out
          obtain ⟨g, hg⟩ : ∃ g, sk.vr.get i = g := ⟨_, rfl⟩
          rw [hg]
          have Hg := Lib.hid hg
          clear hg HI5 Hr5 Hsa m0 m2 m3
          have HgA := Lib.hid (show x.args ≠ [] → ∀ o, A ≠ some ⟨gb, o, none⟩ from fun hne => absurd (Hxk.out.1.var Hop.out).2 hne)
          by_cases hg0 : g = 0
          · have q1 : (g != 0) = false := by simpa using hg0
            have Hbad := Lib.hid (show ¬ (g ≠ 0 ∧ g ≠ x.w) from fun h => h.1 hg0)
            clear hg0
            have HI7 := Lib.hid (HI6.out.below (w' := X6.drew) ((Below.refl _ _).drew))
            have Hr7 := Lib.hid (show X6.drew.heap[g11]? = _ from Hr6.out)
            have Hs7 := Lib.hid (Hs6.out.below (monoInt _) (show Below X6.heap.size X6 X6.drew from (Below.refl _ _).drew))
            have Hvs := Lib.hid (show sk.vars x = some { sk with vr := sk.vr.set i x.w } from by
              unfold E.Gr.vars
              rw [if_pos Hop.out, Hi.out, Int.toNat_natCast, Hg.out, if_neg Hbad.out])
            rw [Hi.out] at m4
            have f1 : X6.frozen? ⟨gb, 5 + i, none⟩ = false := frozen_row HI6.out.ng.gr.row _
            have f2 := HI6.out.ng.gr.varAt Hi4.out
            have hi4 := Hi4.out
            go_upto_region 15 with (fail)
            go_region
            clear m1 m4 f1 f2 HI6 Hr6 Hs6
            go_wp2_with fail
            go_meet
            exact ⟨{ sk with vr := sk.vr.set i x.w }, rfl, Lib.hid (HI7.out.vars Hx.out Hvs.out (HI7.out.ng.gr.setV Hi4.out x.w) (fun j hj => Below.heap_setCell _ _ _ j hj) ((Below.refl _ _).setCell (p := ⟨gb, 5 + i, none⟩) (HI7.out.ng.new gb (.inl rfl)) _)), Lib.hid ((Below.heap_setCell _ _ _ _ (fun e => Hg11.out e.symm)).trans Hr7.out), Lib.hid (Hs7.out.kpm (M := fun j => j = gb) ⟨rfl, rfl, rfl, by simp, fun j _ hj => Below.heap_setCell _ _ _ j hj⟩ (fun hne bb o e => by
              intro e2
              subst e2
              exact HgA.out hne o e))⟩
          · have q1 : (g != 0) = true := by simpa using hg0
            by_cases hgw : g = x.w
            · have q2 : (g != x.w) = false := by simpa using hgw
              have Hbad := Lib.hid (show ¬ (g ≠ 0 ∧ g ≠ x.w) from fun h => h.2 hgw)
              clear hg0 hgw
              have HI7 := Lib.hid (HI6.out.below (w' := X6.drew) ((Below.refl _ _).drew))
              have Hr7 := Lib.hid (show X6.drew.heap[g11]? = _ from Hr6.out)
              have Hs7 := Lib.hid (Hs6.out.below (monoInt _) (show Below X6.heap.size X6 X6.drew from (Below.refl _ _).drew))
              have Hvs := Lib.hid (show sk.vars x = some { sk with vr := sk.vr.set i x.w } from by
                unfold E.Gr.vars
                rw [if_pos Hop.out, Hi.out, Int.toNat_natCast, Hg.out, if_neg Hbad.out])
              rw [Hi.out] at m4
              have f1 : X6.frozen? ⟨gb, 5 + i, none⟩ = false := frozen_row HI6.out.ng.gr.row _
              have f2 := HI6.out.ng.gr.varAt Hi4.out
              have hi4 := Hi4.out
              go_upto_region 15 with (fail)
              go_region
              clear m1 m4 f1 f2 HI6 Hr6 Hs6
              go_wp2_with fail
              go_meet
              exact ⟨{ sk with vr := sk.vr.set i x.w }, rfl, Lib.hid (HI7.out.vars Hx.out Hvs.out (HI7.out.ng.gr.setV Hi4.out x.w) (fun j hj => Below.heap_setCell _ _ _ j hj) ((Below.refl _ _).setCell (p := ⟨gb, 5 + i, none⟩) (HI7.out.ng.new gb (.inl rfl)) _)), Lib.hid ((Below.heap_setCell _ _ _ _ (fun e => Hg11.out e.symm)).trans Hr7.out), Lib.hid (Hs7.out.kpm (M := fun j => j = gb) ⟨rfl, rfl, rfl, by simp, fun j _ hj => Below.heap_setCell _ _ _ j hj⟩ (fun hne bb o e => by
                intro e2
                subst e2
                exact HgA.out hne o e))⟩
            · have q2 : (g != x.w) = true := by simpa using hgw
              have Hbad := Lib.hid (show g ≠ 0 ∧ g ≠ x.w from ⟨hg0, hgw⟩)
              clear hg0 hgw
              have Hvs := Lib.hid (show sk.vars x = none from by
                unfold E.Gr.vars
                rw [if_pos Hop.out, Hi.out, Int.toNat_natCast, Hg.out, if_pos Hbad.out])
              clear m4
              go_wp2_with fail
              refine bodyPost_ret (results_tmp2 rfl _ _ _) rfl ?_
              have hb6 := Hb.out.trans (HI6.out.ng.bel.mono Hb.out.size)
              have hat : s.addT (T.canon fr) = (s, 0, 7) := by
                rw [HL.out]
                unfold E.Gr.addT
                rw [HI6.out.refuse Hx.out Hvs.out]
              exact ⟨s, 0, 7, v1, v2, v3, v4, kb, rfl, .inr ⟨Hv.out, fr, Hfr.out, hat.symm⟩, H.out.below hb6, Ok.out, Hw.out, Nat.le_add_right _ _, Nat.le_add_right _ _, Nat.le_succ _, Kpm.of_below hb6 _, fun i hi => .inl hi⟩
        · have q : (x.op == 33) = false := by simpa using hop
          have Hop := Lib.hid hop
          clear hop m0 m1 m2 m3 m4
          go_wp2_with fail
          go_meet
          have hvs : sk.vars x = some sk := by unfold E.Gr.vars; rw [if_neg Hop.out]
          exact ⟨sk, rfl, Lib.hid (HI5.out.vars Hx.out hvs HI5.out.ng.gr (fun _ _ => rfl) (Below.refl _ _)), Hr5, Hsa⟩
      case rest =>
      clear m0 m1 m2 m3 m4
      obtain ⟨s1, rfl, HV, HR, HSa⟩ := hcut
      obtain ⟨w5, hw5⟩ : ∃ w5, w5 = wc := ⟨_, rfl⟩
      rw [← hw5] at HV HR HSa ⊢
      clear hw5 HI5 Hr5 Hsa
      obtain ⟨n0, n1, n2, n3, n4⟩ := nd5_cells HR.out
      obtain ⟨gO, hgO⟩ : ∃ g, g = gk := ⟨_, rfl⟩
      rw [← hgO] at Hgk
      have hl3 := Hxk.out.1.len
      go_wp2_with fail
      clear n0 n1 n2 n3 n4
      go_loopg [13, 67] (x.args.length + 1) (fun gg s13 s67 wz => ∃ (q : Nat) (v : Value), q ≤ x.args.length ∧ s13 = v ∧ s67 = .int .i64 (q : Int) ∧ gg + q = x.args.length + 1 ∧ Hid (Below w5.heap.size w5 wz) ∧ Hid (OwnAt wz 3 1 v q (((x.args.take q).map fun a => (((cls.take k).getD a.toNat 0 : Nat) : Int)).map (.int .i64))) ∧ Hid (∀ i, v.ownBlock = some i → w5.heap.size ≤ i))
      case atStart => exact ⟨0, .slice none 0 0, Nat.zero_le _, rfl, rfl, rfl, Lib.hid (Below.refl _ _), Lib.hid (OwnAt.nil_ _ _ _), Lib.hid (fun i e => by simp [Value.ownBlock] at e)⟩
      case round =>
        obtain ⟨q, v, hq, rfl, rfl, hgk2, Hbz, Ho, Hnw⟩ := hrel
        have Hgk2 := Lib.hid hgk2
        clear hgk2
        obtain ⟨Av, cv, hv⟩ := Ho.out.form
        subst hv
        by_cases hql : q < x.args.length
        · obtain ⟨a, ba, offa, ua, ha, rfl, hba, hca, rfl⟩ := (HSa.out.below (monoInt _) Hbz.out).at_ hql
          have hal := Hxa.out a (List.mem_of_getElem? ha)
          obtain ⟨m, rfl⟩ : ∃ m : Nat, a = m := ⟨a.toNat, by omega⟩
          have hmk : m < k := by omega
          have hsa64 := HSa.out.le
          obtain ⟨d, hd⟩ : ∃ d, (cls.take k).getD m 0 = d := ⟨_, rfl⟩
          have hcm : cls[m]? = some d := by
            have h1 : (cls.take k)[m]? = cls[m]? := List.getElem?_take_of_lt hmk
            have h2 : m < cls.length := by rw [HV.out.len]; omega
            rw [List.getD_eq_getElem?_getD, h1, List.getElem?_eq_getElem h2] at hd
            rw [List.getElem?_eq_getElem h2]
            exact congrArg some hd
          have Hd := Lib.hid hd
          have hcl : wr.cell? ⟨gc, 0 + m, none⟩ = some (.int .i64 (d : Int)) := by
            have hown := HV.out.own.below Hbz.out HV.out.own.lt
            rcases hown.2 with ⟨e, _⟩ | ⟨g', off', cap, cur, e1, hc, _, _, _, i4⟩
            · cases e
            · cases e1
              rw [cell_of_row _ _ _ _ _ (0, 0) hc]
              refine i4 m _ ?_
              unfold ivs
              rw [List.getElem?_map, hcm]; rfl
          have hmL : m < L.length := by omega
          rw [Nat.zero_add] at hcl
          have Htk := Lib.hid (show x.args.take (q + 1) = x.args.take q ++ [(m : Int)] from by rw [List.take_add_one, ha]; rfl)
          have Hs2 := Lib.hid (show w5.heap.size ≤ wr.heap.size from Hbz.out.size)
          have hq3 : q ≤ 3 := by omega
          clear ha hba hal hd hcm hmk
          go_wp2_with (at_builtin; refine wpList_append_one' rfl (.tmp 71) (.tmp 76) 60 rfl 3 (.int .i64 0) 8 Tryz.underlying60 infoInt rfl _ q _ rfl Ho.out (.int .i64 (d : Int)) rfl 3 wr.heap.size rfl rfl (by omega) (by omega) ?_; intro v' w6 hown' hgr hat; have Hown' := Lib.hid hown'; have Hgr := Lib.hid hgr; have Hat := Lib.hid hat; clear hown' hgr hat)
          go_roundg (gk - 1)
          case measure => have := Hgk2.out; omega
          case rel =>
            have := Hgk2.out
            refine ⟨q + 1, v', by omega, rfl, by go_num, by omega, Lib.hid ((Hbz.out.alloc (by simpa using Hs2.out) _).grown Hgr.out (by have := Hs2.out; simp; omega) (fun g hg => Hnw.out g hg)), Lib.hid ?_, Lib.hid fun i hi => ?_⟩
            · rw [Htk.out, List.map_append, List.map_append, List.map_cons, List.map_nil, List.map_cons, List.map_nil, Int.toNat_natCast, Hd.out]
              exact Hown'.out
            · rcases Hat.out with e | e
              · exact Hnw.out i (e ▸ hi)
              · rw [e] at hi; injection hi with hi; have := Hs2.out; omega
        · obtain rfl : q = x.args.length := by omega
          have et : x.args.take x.args.length = x.args := List.take_length
          rw [et] at Ho
          obtain ⟨l, hl⟩ : ∃ l, (x.args.map fun a => (((cls.take k).getD a.toNat 0 : Nat) : Int)) = l := ⟨_, rfl⟩
          have hll : l.length = x.args.length := by rw [← hl]; simp
          rw [hl, ← hll] at Ho
          rw [← hll]
          have Hop := Lib.hid (goperationOf_any (x := x) (Ax := A) (cx := c) (c := cv) (by omega) Ho.out.slInts)
          rw [hll] at Hop
          have HVz := Lib.hid (HV.out.below Hbz.out)
          have hrz := row_step Hbz HR.out
          obtain ⟨n0, n1, n2, n3, n4⟩ := nd5_cells hrz
          have Hlop := Lib.hid (show opL x l = E.opOf (cls.take k) x from by rw [← hl]; rfl)
          clear hl hrz et
          unfold ndV at Hop
          rw [Hlop.out] at Hop
          go_wp2_with fail
          (with_reducible refine Hop.out.mono ?_)
          rintro e w8 ⟨rfl, hb8⟩
          have HV8 := Lib.hid (HVz.out.below hb8)
          have hlp8 : s1.p.length ≤ 900000 := by have := HV8.out.lp; omega
          obtain ⟨har, hwf⟩ := args_ok HV8.out Hxk.out.1 Hxk.out.2 Hxa.out hk hlp8
          have Har := Lib.hid har
          have Hwf := Lib.hid hwf
          have Hput := Lib.hid (gput_any HV8.out.ng.gr HV8.out.ok har hwf hlp8 (by have := HV8.out.le; omega))
          have Hlp8 := Lib.hid hlp8
          clear hb8 har hwf hlp8 n0 n1 n2 n3 n4
          go_wp2_with fail
          (with_reducible refine Hput.out.mono ?_)
          rintro e w9 ⟨u1', u2', u3', hpp⟩
          have hret := hpp.ret
          subst hret
          have HI9 := Lib.hid (HV8.out.put hkl Har.out Hwf.out Hlp8.out hpp)
          obtain ⟨sp, hsp⟩ : ∃ sp, s1.put (E.opOf (cls.take k) x) = sp := ⟨_, rfl⟩
          rw [hsp] at HI9 ⊢
          have hgcw : gc < w8.heap.size := HV8.out.own.lt gc (by simp [Value.ownBlock])
          obtain ⟨cur, hcur⟩ := HV8.out.own.row_ex (g := gc) (by simp [Value.ownBlock])
          have hcur9 : w9.heap[gc]? = some (.cells cur 3 (0, 0)) := (hpp.kp.block gc hgcw (fun hm => HV8.out.gc2 gc hm rfl)).trans hcur
          have hsz : 0 + L.length * 1 ≤ cur.size := by
            rcases HV8.out.own.2 with ⟨e, _⟩ | ⟨g', off', cap, cur', e1, hc, _, _, i3, _⟩
            · cases e
            · cases e1
              rw [hcur] at hc
              cases hc
              exact i3
          obtain ⟨u0, hu0⟩ : ∃ u, w9.cell? ⟨gc, k, none⟩ = some u := by
            rw [cell_of_row _ _ _ _ _ (0, 0) hcur9, Array.getElem?_eq_getElem (by omega)]
            exact ⟨_, rfl⟩
          have hf0 : w9.frozen? ⟨gc, k, none⟩ = false := frozen_row hcur9 _
          rw [Nat.zero_add] at HI9
          clear hpp hsp hgcw hcur hcur9 hsz Hop HVz HV8
          go_wp2_with fail
          go_roundg (gO - 1)
          case measure => have := Hgk.out; omega
          case rel =>
            have := Hgk.out
            exact ⟨k + 1, sp.1, cls.set k sp.2.1, u1', u2', u3', _, km, by omega, by go_num, by omega, HI9⟩
    · obtain rfl : k = L.length := by omega
      have Hadds := Lib.hid (show s.adds [] L = some (sk, cls) from by
        rw [HI.out.told, List.drop_length, List.take_of_length_le (by rw [HI.out.len]; exact Nat.le_refl _)]; rfl)
      have hlpk : sk.p.length ≤ 900000 := by have := HI.out.lp; omega
      have Hcls := Lib.hid (gclasses_any HI.out.ng.gr HI.out.ok.down hlpk)
      obtain ⟨nr, hnr⟩ : ∃ nr, (E.clsTo sk.p sk.p.length).length = nr := ⟨_, rfl⟩
      have Hnr := Lib.hid (show E.roots sk.p = nr from by rw [← E.clsTo_roots]; exact hnr)
      have Hlpk := Lib.hid hlpk
      clear hlpk
      go_wp2_with fail
      (with_reducible refine Hcls.out.mono ?_)
      rintro e w5 ⟨A6, c6, rfl, _, hb5⟩
      rw [hnr]
      have HI5 := Lib.hid (HI.out.below hb5)
      clear hb5 hnr HI Hcls
      by_cases h60 : 60 < nr
      · have H60 := Lib.hid h60
        go_wp2_with fail
        refine bodyPost_ret (results_tmp2 rfl _ _ _) rfl ?_
        have hb6 := Hb.out.trans (HI5.out.ng.bel.mono Hb.out.size)
        have hat : s.addT (T.canon fr) = (s, 0, 3) := by
          rw [HL.out]
          unfold E.Gr.addT
          rw [Hadds.out]
          simp only [Hnr.out]
          rw [if_pos H60.out]
        exact ⟨s, 0, 3, v1, v2, v3, v4, kb, rfl, .inr ⟨Hv.out, fr, Hfr.out, hat.symm⟩, H.out.below hb6, Ok.out, Hw.out, Nat.le_add_right _ _, Nat.le_add_right _ _, Nat.le_succ _, Kpm.of_below hb6 _, fun i hi => .inl hi⟩
      · have H60 := Lib.hid h60
        have h60' : ¬ (nr : Int) > 60 := by omega
        clear h60
        go_upto_region 26 with (fail)
        obtain ⟨m, hm1⟩ : ∃ m, L.length = m + 1 := ⟨L.length - 1, by omega⟩
        obtain ⟨d, hd⟩ : ∃ d, cls[m]? = some d := ⟨_, List.getElem?_eq_getElem (by rw [HI5.out.len]; omega)⟩
        have Hd := Lib.hid (show cls.getD (L.length - 1) 0 = d ∧ d < sk.p.length from by
          refine ⟨by rw [hm1, Nat.add_sub_cancel, List.getD_eq_getElem?_getD, hd]; rfl, HI5.out.lo d ?_⟩
          rw [List.take_of_length_le (by rw [HI5.out.len]; exact Nat.le_refl _)]
          exact List.mem_of_getElem? hd)
        obtain ⟨cur, hcur⟩ := HI5.out.own.row_ex (g := gc) (by simp [Value.ownBlock])
        have hcd : cur[m]? = some (.int .i64 (d : Int)) := by
          rcases HI5.out.own.2 with ⟨e, _⟩ | ⟨g', off', cap, cur', e1, hc, _, _, _, i4⟩
          · cases e
          · cases e1
            rw [hcur] at hc
            cases hc
            have := i4 m (.int .i64 (d : Int)) (by unfold ivs; rw [List.getElem?_map, hd]; rfl)
            rw [Nat.zero_add] at this
            exact this
        have hN5 := HI5.out.ng
        rw [HI5.out.nm] at hN5
        have HN5 := Lib.hid hN5
        obtain ⟨A4, c4, e4⟩ := hN5.gr.o4.form
        subst e4
        have cd1 : w5.cell? ⟨gc, m, none⟩ = some (.int .i64 (d : Int)) := by rw [cell_of_row _ _ _ _ _ (0, 0) hcur]; exact hcd
        have cd2 : (w5.alloc (.cells #[.int .i64 (d : Int)] 3)).cell? ⟨gc, m, none⟩ = some (.int .i64 (d : Int)) := by rw [cell_of_row _ _ _ _ _ (0, 0) (row_alloc hcur _)]; exact hcd
        have k4 := hN5.gr.cells.2.2.2.2
        have k4' : (w5.alloc (.cells #[.int .i64 (d : Int)] 3)).cell? ⟨gb, 4, none⟩ = some (.slice A4 s.nm.length c4) := by rw [cell_of_row _ _ _ _ _ (0, 0) (row_alloc hN5.gr.row _)]; rfl
        have HW := Lib.hid (show Below w5.heap.size w5 ((w5.alloc (.cells #[.int .i64 (d : Int)] 3)).drew) from ((Below.refl _ _).alloc (Nat.le_refl _) _).drew)
        have Hne4 := Lib.hid hN5.gr.ne4
        have Hrb := Lib.hid (show ((w5.alloc (.cells #[.int .i64 (d : Int)] 3)).drew).heap[gb]? = _ from row_alloc hN5.gr.row _)
        have hi1 : (L.length : Int) - 1 = (m : Int) := by omega
        have hwr : IntKind.i64.wrap (m : Int) = (m : Int) := IntWalk.i64_in _ (by omega)
        have hm2 : m < L.length := by omega
        have hL63 : L.length ≤ 300 := hLn
        have Hnm := Lib.hid (show s.nm.length + 1 ≤ 1000000000 from by omega)
        clear hcur hcd hd hN5 hm1
        go_cut [8] (fun s8 wx => ∃ u4' : Value, s8 = .pointer (some ⟨gb, 0, none⟩) ∧ Hid (NewGr w2 sk.p sk.wd sk.es sk.es (s.nm ++ [d]) sk.vr wx gb u1 u2 u3 u4' km))
        case first =>
          go_region_law (first
            | (refine step_append_src _ rfl (.tmp 99) (.tmp 106) 60 rfl 3 (.int .i64 0) 1 8 Tryz.underlying60 infoInt rfl (by decide) (.slice A4 s.nm.length c4) s.nm.length _ rfl (HN5.out.gr.o4.same (fun g hg => HW.out.block g (HN5.out.gr.o4.lt g hg))) (some ⟨w5.heap.size, 0, none⟩) 1 1 [.int .i64 (d : Int)] rfl rfl (src_new w5 [.int .i64 (d : Int)] 3) (by simp; rfl) Hnm.out (by decide) ?_
               intro v' w7 hown7 hgr7 hat7
               obtain ⟨A7, c7, rfl⟩ := hown7.form
               have kc := cell_of_row w7 gb 4 _ _ (0, 0) (grown_row hgr7 Hrb.out Hne4.out)
               have kfr := frozen_row (grown_row hgr7 Hrb.out Hne4.out) 4
               have Hown7 := Lib.hid hown7
               have Hgr7 := Lib.hid (undrew hgr7)
               have Hat7 := Lib.hid (hat_ex2 hat7)
               clear hown7 hgr7 hat7
               simp only [List.getElem?_toArray, List.getElem?_cons_zero, List.getElem?_cons_succ] at kc))
          all_goals
            go_wp2_with fail
            go_meet
            exact ⟨.slice A7 (s.nm.length + 1) c7, rfl, Lib.hid ⟨(HN5.out.gr.below ((Below.refl _ _).alloc (Nat.le_refl _) _)).app4 Hown7.out Hgr7.out Hat7.out, ((HN5.out.bel.alloc (HN5.out.bel.size) _).grown Hgr7.out (by have := HN5.out.bel.size; simp; omega) (fun g hg => HN5.out.new g (.inr (.inr (.inr (.inr (.inr hg))))))).setCell (p := ⟨gb, 4, none⟩) (HN5.out.new gb (.inl rfl)) _, by
              rintro i (rfl | rfl | e | e | e | e)
              · exact HN5.out.new _ (.inl rfl)
              · exact HN5.out.new _ (.inr (.inl rfl))
              · exact HN5.out.new _ (.inr (.inr (.inl e)))
              · exact HN5.out.new _ (.inr (.inr (.inr (.inl e))))
              · exact HN5.out.new _ (.inr (.inr (.inr (.inr (.inl e)))))
              · rcases Hat7.out with e' | ⟨kk, hkk, e'⟩
                · exact HN5.out.new _ (.inr (.inr (.inr (.inr (.inr (e' ▸ e))))))
                · rw [e'] at e; injection e with e; have := HN5.out.bel.size; simp at hkk; omega⟩⟩
        case rest =>
        obtain ⟨u4', rfl, HN6⟩ := hcut
        obtain ⟨w6, hw6⟩ : ∃ w6, w6 = wc := ⟨_, rfl⟩
        rw [← hw6] at HN6 ⊢
        clear hw6 cd1 cd2 k4 k4'
        have hrow := HN6.out.gr.row
        have hbb : b < W.heap.size := H.out.lt b (.inl rfl)
        have hrb6 : w6.heap[b]? = _ := ((Hb.out.trans (HN6.out.bel.mono Hb.out.size)).block b hbb).trans H.out.row
        have Hrb6 := Lib.hid hrb6
        have Hrow := Lib.hid hrow
        obtain ⟨A9, c9, e9⟩ := HN6.out.gr.o4.form
        subst e9
        obtain ⟨B1, d1, e9⟩ := HN6.out.gr.o1.form
        subst e9
        obtain ⟨B2, d2, e9⟩ := HN6.out.gr.o2.form
        subst e9
        obtain ⟨B3, d3, e9⟩ := HN6.out.gr.o3.form
        subst e9
        obtain ⟨y0, y1, y2, y3, y4, y5, y6, y7, y8⟩ := row9_cells hrow
        obtain ⟨z0, z1, z2, z3, z4, z5, z6, z7, z8⟩ := row9_cells hrb6
        have f0 := frozen_row hrb6 0
        have f1 := frozen_row hrb6 1
        have f2 := frozen_row hrb6 2
        have f3 := frozen_row hrb6 3
        have f4 := frozen_row hrb6 4
        have f5 := frozen_row hrb6 5
        have f6 := frozen_row hrb6 6
        have f7 := frozen_row hrb6 7
        have f8 := frozen_row hrb6 8
        clear hrow hrb6
        go_upto_region 28 with (fail)
        clear y0 y1 y2 y3 y4 y5 y6 y7 y8 z0 z1 z2 z3 z4 z5 z6 z7 z8 f0 f1 f2 f3 f4 f5 f6 f7 f8
        obtain ⟨w9, hw9⟩ : ∃ w9, w9 = (((((((((w6.setCell ⟨b, 0, none⟩ (.slice B1 sk.p.length d1)).setCell ⟨b, 1, none⟩ (.slice B2 sk.wd.length d2)).setCell ⟨b, 2, none⟩ (.slice B3 sk.es.length d3)).setCell ⟨b, 3, none⟩ (.map (some km))).setCell ⟨b, 4, none⟩ (.slice A9 (s.nm.length + 1) c9)).setCell ⟨b, 5, none⟩ (.int .i64 sk.vr.a)).setCell ⟨b, 6, none⟩ (.int .i64 sk.vr.b)).setCell ⟨b, 7, none⟩ (.int .i64 sk.vr.c)).setCell ⟨b, 8, none⟩ (.int .i64 sk.vr.d)) := ⟨_, rfl⟩
        have hnl : (s.nm ++ [d]).length = s.nm.length + 1 := by simp
        have hr9 : w9.heap[b]? = some (.cells #[.slice B1 sk.p.length d1, .slice B2 sk.wd.length d2, .slice B3 sk.es.length d3, .map (some km), .slice A9 (s.nm.length + 1) c9, .int .i64 sk.vr.a, .int .i64 sk.vr.b, .int .i64 sk.vr.c, .int .i64 sk.vr.d] 80 (0, 0)) := by rw [hw9]; exact set9_row Hrb6.out _ _ _ _ _ _ _ _ _
        have ho9 : ∀ i, i ≠ b → w9.heap[i]? = w6.heap[i]? := by rw [hw9]; exact set9_other _ _ _ _ _ _ _ _ _
        have hk9 : Kpm (fun i => i = b) W w9 := by rw [hw9]; exact set9_kpm (Kpm.of_below (Hb.out.trans (HN6.out.bel.mono Hb.out.size)) _) _ _ _ _ _ _ _ _ _
        rw [← hw9]
        clear hw9
        have hbW := Hb.out.size
        have Hg9 := Lib.hid (HN6.out.gr.move (w' := w9) (b' := b) (by rw [hnl]; exact hr9) ho9 (fun i hi _ e => by have := HN6.out.new i hi; omega))
        have Hk9 := Lib.hid hk9
        have k9 : w9.cell? ⟨b, 4, none⟩ = some (.slice A9 (s.nm.length + 1) c9) := by rw [cell_of_row _ _ _ _ _ (0, 0) hr9]; rfl
        have Hkm := Lib.hid (show sk.Ok from HI5.out.ok)
        have hok := HI5.out.ok
        have Hown := Lib.hid HI5.out.owf
        have Hlp5 := Lib.hid HI5.out.lp
        have Hle5 := Lib.hid HI5.out.le
        have hnm5 := HI5.out.nm
        have Hnm5 := Lib.hid hnm5
        have hsub : ((s.nm.length + 1 : Nat) : Int) - 1 = (s.nm.length : Int) := by omega
        clear hr9 ho9 hk9 hnm5 hok hnl
        go_wp2
        refine bodyPost_ret (results_tmp2 rfl _ _ _) rfl ?_
        have hat : s.addT (T.canon fr) = ({ sk with nm := sk.nm ++ [cls.getD (L.length - 1) 0] }, (sk.nm.length : Int), 0) := by
          rw [HL.out]
          unfold E.Gr.addT
          rw [Hadds.out]
          simp only [Hnr.out]
          rw [if_neg H60.out]
        rw [Hnm5.out, Hd.out.1] at hat
        refine ⟨{ sk with nm := s.nm ++ [d] }, (s.nm.length : Int), 0, .slice B1 sk.p.length d1, .slice B2 sk.wd.length d2, .slice B3 sk.es.length d3, .slice A9 (s.nm ++ [d]).length c9, km, ?_, .inr ⟨Hv.out, fr, Hfr.out, hat.symm⟩, Hg9.out, ⟨Hkm.out.down, Hkm.out.wd, Hkm.out.inn, Hkm.out.ar, fun c hc => ?_⟩, Hown.out, ?_, ?_, ?_, Hk9.out, ?_⟩
        · rfl
        · rcases List.mem_append.1 hc with hc | hc
          · exact Hkm.out.nm c (by rw [Hnm5.out]; exact hc)
          · simp at hc; subst hc; exact Hd.out.2
        · have := Hlp5.out; show sk.p.length ≤ _; omega
        · have := Hle5.out; show sk.es.length ≤ _; omega
        · show (s.nm ++ [d]).length ≤ _; simp
        · rintro i (rfl | hi)
          · exact .inl (.inl rfl)
          · have := HN6.out.new i (.inr hi); exact .inr (by omega)
end Go.Proofs.YtcmlmjbpdaecbaaGreat
