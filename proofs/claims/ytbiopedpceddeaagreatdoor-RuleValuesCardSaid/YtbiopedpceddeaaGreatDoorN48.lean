/- Merged: QRB4, QKV1. -/
import Derived.Test.YtbiopedpceddeaaGreatDoorN46
import Derived.Test.YtbiopedpceddeaaGreatDoorN47
import Derived.Test.YtbiopedpceddeaaGreatDoorN42
import Derived.Test.YtbiopedpceddeaaGreatDoorN35
import Derived.Test.YtbiopedpceddeaaGreatDoorN10
import Derived.Test.YtbiopedpceddeaaGreatDoorN44
import Derived.Test.YtbiopedpceddeaaGreatDoorN36
set_option linter.unusedVariables false
set_option linter.unusedSimpArgs false
section
namespace Go.Proofs.YtbiopedpceddeaaGreatDoor
open Go.RowKit
set_option linter.unusedVariables false
set_option linter.unusedSimpArgs false

set_option maxRecDepth 100000 in
set_option maxHeartbeats 8000000 in
theorem rValue_any (t : List T.Nd) (env : List Int) (n ct ne ce : Nat) (At Ae : Option Addr) (W : World) (hT : StAt 5 NdR W At n t) (hE : SlAt (IntR .u32) W Ae ne env) (hew : ∀ x ∈ env, 0 ≤ x ∧ x < 4294967296) :
    Calls Tryz.prog 16 #[.slice At n ct, .slice Ae ne ce] W fun e w' => e = .returned (.tuple #[.int .u32 (V.value t env).1, .int .i64 (V.value t env).2.1, .int .i64 (V.value t env).2.2]) ∧ Below W.heap.size W w' := by
  have HV := Lib.hid (rValidateFlagged_any t n ct At W hT)
  have HT := Lib.hid hT
  have HE := Lib.hid hE
  have Hew := Lib.hid hew
  have hle := hT.le
  have hleE := hE.le
  have Hlen := Lib.hid hT.len
  have HlenE := Lib.hid hE.len
  have Hi := Lib.hid (nd_imm hT)
  obtain ⟨rv, hrv⟩ : ∃ rv, V.value t env = rv := ⟨_, rfl⟩
  rw [hrv]
  have Hrv := Lib.hid hrv
  clear hT hE hew hrv
  by_cases hv : R.fvalid t = 0
  rotate_left
  · have Hf := Lib.hid (show rv = (0, 0, R.fvalid t) from by rw [← Hrv.out, V.value, if_pos hv])
    obtain ⟨z, hz⟩ : ∃ z, R.fvalid t = z := ⟨_, rfl⟩
    rw [hz] at hv HV Hf
    have q : (z != 0) = true := by simpa using hv
    clear hv hz
    go_enter Tryz.func16, Tryz.ntmps16
    go_wp2_with fail
    (with_reducible refine HV.out.mono ?_)
    rintro e w1 ⟨rfl, hb1⟩
    have Hb1 := Lib.hid hb1
    clear hb1
    go_wp2
    go_ret3
    exact ⟨by rw [Hf.out]; rfl, Hb1.out⟩
  rw [hv] at HV
  have Hv := Lib.hid hv
  clear hv
  have HI := Lib.hid (fun X (h : Below W.heap.size W X) => rIsEnv_any t env n ct ne ce At Ae X (HT.out.below monoNd h) (HE.out.below (monoInt _) h) Hew.out Hv.out)
  obtain ⟨bi, hbi⟩ : ∃ b, (decide (env.length = 4) && V.fits t env) = b := ⟨_, rfl⟩
  rw [hbi] at HI
  have Hbi := Lib.hid hbi
  clear hbi
  cases bi with
  | false =>
    have Hf := Lib.hid (show rv = (0, 0, 1) from by
      have h := Hbi.out
      rw [← Hrv.out, V.value, if_neg (by rw [Hv.out]; simp), if_pos]
      rw [Bool.and_eq_false_iff, decide_eq_false_iff_not] at h
      exact h)
    go_enter Tryz.func16, Tryz.ntmps16
    go_wp2_with fail
    (with_reducible refine HV.out.mono ?_)
    rintro e w1 ⟨rfl, hb1⟩
    have Hb1 := Lib.hid hb1
    clear hb1
    go_wp2_with fail
    (with_reducible refine (HI.out _ Hb1.out).mono ?_)
    rintro e w2 ⟨rfl, hb2⟩
    have Hb2 := Lib.hid (Hb1.out.trans (hb2.mono Hb1.out.size))
    clear hb2
    go_wp2
    go_ret3
    exact ⟨by rw [Hf.out]; rfl, Hb2.out⟩
  | true =>
    have hbi := Hbi.out
    rw [Bool.and_eq_true, decide_eq_true_eq] at hbi
    obtain ⟨hel, hfit⟩ := hbi
    have hne4 : ne = 4 := by rw [← HlenE.out]; exact hel
    subst hne4
    have HS := Lib.hid (V.std_fits Hv.out Hi.out hel Hew.out hfit)
    have Hp := Lib.hid (V.fvalid_val Hv.out).1
    have hn := (valid_ok Hp.out).2.1
    have hn1 := (valid_ok Hp.out).1
    rw [Hlen.out] at hn hn1
    have Hf := Lib.hid (show rv = if 0 < V.bad t env then (0, V.bad t env, 0) else ((T.vals t env).getD (t.length - 1) 0, 0, 0) from by
      rw [← Hrv.out, V.value, if_neg (by rw [Hv.out]; simp), if_neg (by rw [hel, hfit]; simp)])
    have Hwf := Lib.hid (V.fvalid_val Hv.out).2
    obtain ⟨f, hfr⟩ := T.Rep.one (V.std_ord HS.out) (k := n - 1) (by rw [Hlen.out]; omega)
    have Hfr := Lib.hid hfr
    have Hfr2 := Lib.hid (show T.Rep t [((t.length : Int) - 1)] f from by rw [Hlen.out]; rw [show (n : Int) - 1 = ((n - 1 : Nat) : Int) by omega]; exact hfr)
    obtain ⟨L, hL⟩ : ∃ L, L = T.canon f := ⟨_, rfl⟩
    have HSL := Lib.hid (show T.Std L env from by rw [hL]; exact V.std_canon HS.out hfr)
    have Hbad := Lib.hid (show V.bad t env = V.badL L env from by rw [hL]; exact V.bad_canon (by rw [Hlen.out]; omega) HS.out Hfr2.out (V.std_canon HS.out hfr))
    have Hroot := Lib.hid (show (T.vals t env).getD (t.length - 1) 0 = (T.vals L env).getD (L.length - 1) 0 from by rw [hL]; exact V.root_canon (by rw [Hlen.out]; omega) HS.out Hfr2.out)
    have hc : T.Cov t L := by rw [hL]; exact T.cnn_cov hfr List.nodup_nil T.ord_nil (T.cov_nil t)
    have told := T.cnn_told f List.nodup_nil T.ord_nil
    have hLl : L.length ≤ 300 := by
      have h := T.cov_len (t := t) (out := L) (by rw [hL]; exact told.nd) (by rw [hL]; exact told.ord) hc
      rw [Hlen.out] at h
      omega
    have hL1 : 1 ≤ L.length := by rw [hL]; exact (V.canon_len1 Hfr2.out).1
    have HLf := Lib.hid (show ∀ x ∈ L, R.flOk x.op x.fl = true from fun y hy => by
      obtain ⟨j, hj⟩ := List.getElem?_of_mem hy
      obtain ⟨k, x, hx, e1, e2, e3, e4, e5, e6⟩ := V.node_match hc (V.std_ord HSL.out) hj
      rw [← e1, ← e3]
      exact Hwf.out x (List.mem_of_getElem? hx))
    have HSh := Lib.hid (fun X (h : Below W.heap.size W X) => show Calls Tryz.prog 54 #[.slice At n ct, .int .i64 ((n : Int) - 1)] X fun e W' => ∃ v, e = .returned v ∧ OwnR (NdF X.heap.size) X.heap.size W' v L ∧ Below X.heap.size X W' from by
      rw [hL, show (n : Int) - 1 = ((n - 1 : Nat) : Int) by omega]
      exact Shared_any (ct := ct) (HT.out.below monoNd h) (V.std_ord HS.out) (by omega) (fun x hx => by
        obtain ⟨i, hi2⟩ := List.getElem?_of_mem hx
        have hs := T.shaped_args (HS.out.sh i x hi2)
        have := (R.ar_bd hs.2.1).2.2
        omega) (k := n - 1) (by omega) f Hfr.out)
    clear hfr hc told hL hel hfit
    obtain ⟨m, hm⟩ : ∃ m, L.length = m := ⟨_, rfl⟩
    have Hm := Lib.hid hm
    rw [hm] at hLl hL1
    clear hm
    go_enter Tryz.func16, Tryz.ntmps16
    go_wp2_with fail
    (with_reducible refine HV.out.mono ?_)
    rintro e w1 ⟨rfl, hb1⟩
    have Hb1 := Lib.hid hb1
    clear hb1
    go_wp2_with fail
    (with_reducible refine (HI.out _ Hb1.out).mono ?_)
    rintro e w2 ⟨rfl, hb2⟩
    have Hb2 := Lib.hid (Hb1.out.trans (hb2.mono Hb1.out.size))
    clear hb2
    go_wp2_with fail
    (with_reducible refine (HSh.out _ Hb2.out).mono ?_)
    rintro e w3 ⟨v3, rfl, hown3, hb3⟩
    obtain ⟨AL, cL, rfl⟩ := hown3.form
    have Hb3 := Lib.hid (Hb2.out.trans (hb3.mono Hb2.out.size))
    have HL3 := Lib.hid (hown3.stAt (ndF_rel _) rfl)
    rw [Hm.out] at HL3 ⊢
    clear hown3 hb3 Hb1 Hb2 HSh
    have HBe := Lib.hid (rBelow_any L env m cL ce AL Ae w3 HL3.out (HE.out.below (monoInt _) Hb3.out) HSL.out (by omega))
    go_wp2_with fail
    (with_reducible refine HBe.out.mono ?_)
    rintro e w4 ⟨v4, rfl, hown4, hb4, _⟩
    obtain ⟨AV, cV, rfl⟩ := hown4.form
    have Hb4 := Lib.hid (Hb3.out.trans (hb4.mono Hb3.out.size))
    have HL4 := Lib.hid (HL3.out.below monoNd hb4)
    have HV4 := Lib.hid (show SlAt (IntR .u32) w4 AV m (T.vals L env) from hown4.slInts)
    have Hvl := Lib.hid (T.vals_len L env)
    clear hown4 hb4 HL3 HBe
    have hvm : m ≤ 9223372036854775807 := by omega
    go_wp2
    go_loopg [10, 11] (m + 1) (fun gg s10 s11 wr => ∃ j : Nat, j ≤ m ∧ s10 = .int .i64 (V.badTo L (List.replicate L.length true) (T.vals L env) j) ∧ s11 = .int .i64 (j : Int) ∧ gg + j = m + 1 ∧ Hid (Below w4.heap.size w4 wr))
    case atStart => exact ⟨0, Nat.zero_le _, rfl, rfl, rfl, Lib.hid (Below.refl _ _)⟩
    case round =>
      obtain ⟨j, hj, rfl, rfl, hgk, Hbw⟩ := hrel
      have Hgk := Lib.hid hgk; clear hgk
      obtain ⟨bj, hbj⟩ : ∃ bj, V.badTo L (List.replicate L.length true) (T.vals L env) j = bj := ⟨_, rfl⟩
      have Hbr := Lib.hid (show 0 ≤ bj ∧ bj ≤ 2 from by rw [← hbj]; exact V.bad_range _ _ _ _)
      rw [hbj]
      have Hbj := Lib.hid hbj
      clear hbj
      by_cases hlt : j < m
      · obtain ⟨x, b, off, A, c, hx, rfl, hb, h0, h1, h2, h3, h4, hs, i0, i1⟩ := nd_cells (HL4.out.below monoNd Hbw.out) hlt
        have hst := V.badTo_step (need := List.replicate L.length true) (vs := T.vals L env) hx
        rw [Hbj.out, show (List.replicate L.length true).getD j false = true from by rw [List.getD_eq_getElem?_getD, List.getElem?_replicate, if_pos (by rw [Hm.out]; exact hlt)]; rfl, if_pos rfl] at hst
        have Hst := Lib.hid hst
        have Hx := Lib.hid hx
        have Hnod := Lib.hid (V.nod_all HSL.out hx)
        obtain ⟨W1, hW1⟩ : ∃ W1, W1 = wr.alloc (.cells #[.int .i64 x.op, .int .i64 x.w, .int .i64 x.fl, .slice A x.args.length c, .int .u32 x.imm] 62) := ⟨_, rfl⟩
        have hB1 : Below wr.heap.size wr W1 := by rw [hW1]; exact (Below.refl _ _).alloc (Nat.le_refl _) _
        have hr1 : W1.heap[wr.heap.size]? = some (.cells #[.int .i64 x.op, .int .i64 x.w, .int .i64 x.fl, .slice A x.args.length c, .int .u32 x.imm] 62 (0, 0)) := by rw [hW1]; exact heap_alloc_new wr _
        have Hbn := Lib.hid (Hbw.out.trans (hB1.mono Hbw.out.size))
        have HB1 := Lib.hid hB1
        have Hs := Lib.hid hs
        have HX := Lib.hid (show ∀ Y : World, Below W1.heap.size W1 Y → Y.cell? ⟨wr.heap.size, 0, none⟩ = some (.int .i64 x.op) ∧ Y.cell? ⟨wr.heap.size, 1, none⟩ = some (.int .i64 x.w) ∧ Y.cell? ⟨wr.heap.size, 2, none⟩ = some (.int .i64 x.fl) ∧ Y.cell? ⟨wr.heap.size, 3, none⟩ = some (.slice A x.args.length c) from fun Y hY => by
          have h1 := row_step (Lib.hid hY) hr1
          refine ⟨?_, ?_, ?_, ?_⟩
          all_goals rw [cell_of_row _ _ _ _ _ (0, 0) h1]; rfl)
        obtain ⟨x0, x1, x2, x3⟩ := HX.out W1 (Below.refl _ _)
        clear hx hst hs hB1 hr1
        by_cases hbin : 1 ≤ x.op ∧ x.op ≤ 13
        rotate_left
        · have Hn := Lib.hid (show V.badTo L (List.replicate L.length true) (T.vals L env) (j + 1) = bj from by
            have := Hbr.out
            rw [Hst.out, V.wrs, if_neg hbin]
            omega)
          have hq : decide (x.op < 1) = true ∨ (decide (x.op < 1) = false ∧ decide (13 < x.op) = true) := by
            by_cases h : x.op < 1
            · exact .inl (by simpa using h)
            · exact .inr ⟨by simpa using h, by simp; omega⟩
          rcases hq with q1 | ⟨q1, q2⟩
          · go_upto_region 13 with (fail)
            rw [← hW1]
            clear hW1 h0 h1 h2 h3 h4
            go_wp2
            go_roundg (gk - 1)
            case measure => have := Hgk.out; omega
            case rel => have := Hgk.out; exact ⟨j + 1, by omega, by rw [Hn.out], by go_num, by omega, Hbn⟩
          · go_upto_region 13 with (fail)
            rw [← hW1]
            clear hW1 h0 h1 h2 h3 h4
            go_wp2
            go_roundg (gk - 1)
            case measure => have := Hgk.out; omega
            case rel => have := Hgk.out; exact ⟨j + 1, by omega, by rw [Hn.out], by go_num, by omega, Hbn⟩
        · obtain ⟨ob0, ob1⟩ := hbin
          have q1 : decide (x.op < 1) = false := by simp; omega
          have q2 : decide (13 < x.op) = false := by simp; omega
          obtain ⟨hl, o1', o13, ew0, ew1⟩ := Hnod.out.bin (by omega) (by omega)
          have hlo0 := Hnod.out.lo 0 (by omega)
          have hlo1 := Hnod.out.lo 1 (by omega)
          rw [Hvl.out, Hm.out] at hlo0 hlo1
          have ha0 := Hnod.out.at_ 0 (by omega)
          have ha1 := Hnod.out.at_ 1 (by omega)
          rw [ew0] at ha0
          rw [ew1] at ha1
          have hw0 := Hnod.out.w0
          have hw1 := Hnod.out.w1
          obtain ⟨a0, hga0⟩ : ∃ a0, T.at_ (T.vals L env) x 0 = a0 := ⟨_, rfl⟩
          obtain ⟨a1, hga1⟩ : ∃ a1, T.at_ (T.vals L env) x 1 = a1 := ⟨_, rfl⟩
          have hst2 := Hst.out
          rw [V.wrs, if_pos ⟨ob0, ob1⟩, hga0, hga1] at hst2
          rw [hga0] at ha0
          rw [hga1] at ha1
          have hok : B.okOp x.op x.w a0 a1 = true := by
            unfold B.okOp B.isW
            rw [B.isWd_iff.2 ⟨hw0, hw1⟩]
            simp [o1', o13, ha0.2, ha1.2]
          have hfl := R.flOk_bd (HLf.out x (List.mem_of_getElem? Hx.out))
          obtain ⟨dv, hdv⟩ : ∃ dv, dv = (B.do_ x.op x.w a0 a1).getD 0 := ⟨_, rfl⟩
          obtain ⟨hs, hhs⟩ : ∃ hs, hs = B.has x.op x.w a0 a1 := ⟨_, rfl⟩
          obtain ⟨bk, hbk⟩ : ∃ bk, bk = B.brk x.op x.fl x.w a0 a1 := ⟨_, rfl⟩
          have HD := Lib.hid (show ∀ X, Calls Tryz.prog 56 #[.int .i64 x.op, .int .i64 x.w, .int .u32 a0, .int .u32 a1] X fun e w' => e = .returned (.tuple #[.int .u32 dv, .bool hs, .int .i64 0]) ∧ Dr X w' from fun X => by
            rw [hdv, hhs]; exact rDo_ok x.op x.w a0 a1 X ha0.1 ha1.1 hok)
          have HB := Lib.hid (show ∀ X, Calls Tryz.prog 57 #[.int .i64 x.op, .int .i64 x.fl, .int .i64 x.w, .int .u32 a0, .int .u32 a1] X fun e w' => e = .returned (.tuple #[.bool bk, .int .i64 0]) ∧ Dr X w' from fun X => by
            rw [hbk]; exact rBreaks_ok x.op x.fl x.w a0 a1 X (by omega) (by omega) ha0.1 ha1.1 hok)
          have Hst3 := Lib.hid (show V.badTo L (List.replicate L.length true) (T.vals L env) (j + 1) = max bj (if hs = false ∧ 4 ≤ x.op ∧ x.op ≤ 7 then 2 else if hs = false ∨ bk = true then 1 else 0) from by
            rw [hst2, hhs, hbk]; rfl)
          have hargs := Hs.out.le
          obtain ⟨y0, ba0, oa0, ua0, hy0, hA0, _, hca0, hua0⟩ := (Hs.out.below (monoInt _) HB1.out).at_ (k := 0) (by omega)
          obtain ⟨y1, ba1, oa1, ua1, hy1, hA1, _, hca1, hua1⟩ := (Hs.out.below (monoInt _) HB1.out).at_ (k := 1) (by omega)
          subst hA0
          cases hA1
          obtain rfl : ua0 = .int .i64 y0 := hua0
          obtain rfl : ua1 = .int .i64 y1 := hua1
          rw [getD_of hy0] at hlo0
          rw [getD_of hy1] at hlo1
          obtain ⟨p0, rfl⟩ : ∃ p : Nat, y0 = p := ⟨y0.toNat, by omega⟩
          obtain ⟨p1, rfl⟩ : ∃ p : Nat, y1 = p := ⟨y1.toNat, by omega⟩
          have hp0 : p0 < m := by omega
          have hp1 : p1 < m := by omega
          obtain ⟨z0, bv0, ov0, uv0, hz0, hV0, _, hcv0, huv0⟩ := (HV4.out.below (monoInt _) Hbn.out).at_ (k := p0) hp0
          obtain ⟨z1, bv1, ov1, uv1, hz1, hV1, _, hcv1, huv1⟩ := (HV4.out.below (monoInt _) Hbn.out).at_ (k := p1) hp1
          subst hV0
          cases hV1
          obtain rfl : uv0 = .int .u32 z0 := huv0
          obtain rfl : uv1 = .int .u32 z1 := huv1
          have ez0 : z0 = a0 := by
            rw [← hga0]
            unfold T.at_
            rw [getD_of hy0, Int.toNat_natCast, getD_of hz0]
          have ez1 : z1 = a1 := by
            rw [← hga1]
            unfold T.at_
            rw [getD_of hy1, Int.toNat_natCast, getD_of hz1]
          subst ez0 ez1
          rw [Nat.add_zero] at hca0
          obtain ⟨ov⟩ := ov_ex W1
          have k1 := ov.cell x3
          have k2 := ov.cell hca0
          have k3 := ov.cell hca1
          have k4 := ov.cell hcv0
          have k5 := ov.cell hcv1
          rw [hl] at h3 x3 hW1 hargs k1
          clear hy0 hy1 hlo0 hlo1 hz0 hz1 hca0 hca1 hcv0 hcv1 hga0 hga1 ha0 ha1 hok hfl hdv hhs hbk hst2 hw0 hw1 ew0 ew1 hl o1' o13
          go_upto_region 13 with (fail)
          rw [← hW1]
          clear hW1 h0 h1 h2 h3 h4
          go_upto_region 14 with (fail)
          refine wp_region_ovq ov (by kernel_rfl) (by kernel_rfl) ?_
          repeat (go_big_quiet_step (fail))
          refine wpQuiet_nil ?_
          rintro _ ⟨u, rfl⟩
          have hbu := ov.below u
          obtain ⟨x0, x1, x2, _⟩ := HX.out _ hbu
          have Hbu := Lib.hid hbu
          clear hbu k1 k2 k3 k4 k5 x3
          generalize ov.f u = w5 at *
          go_wp2_with fail
          (with_reducible refine (HD.out _).mono ?_)
          rintro e w6 ⟨rfl, hd6⟩
          have Hb6 := Lib.hid (Hbu.out.dr hd6)
          clear hd6 x0 x1 x2
          obtain ⟨x0, x1, x2, _⟩ := HX.out _ Hb6.out
          go_wp2_with fail
          (with_reducible refine (HB.out _).mono ?_)
          rintro e w7 ⟨rfl, hd7⟩
          have Hb7 := Lib.hid (Hb6.out.dr hd7)
          clear hd7 x0 x1 x2
          obtain ⟨x0, x1, x2, _⟩ := HX.out _ Hb7.out
          have Hbe := Lib.hid (Hbn.out.trans (Hb7.out.mono Hbn.out.size))
          have hbr := Hbr.out
          have hs3 := Hst3.out
          have Hob := Lib.hid (And.intro ob0 ob1)
          clear hbr ob0 ob1
          cases hs with
          | true =>
            cases bk with
            | true =>
              by_cases hgt : bj < 1
              · have Hn := Lib.hid (show V.badTo L (List.replicate L.length true) (T.vals L env) (j + 1) = 1 from by rw [hs3, if_neg (by simp), if_pos (.inr rfl)]; omega)
                clear hs3
                go_wp2
                go_roundg (gk - 1)
                case measure => have := Hgk.out; omega
                case rel => have := Hgk.out; exact ⟨j + 1, by omega, by rw [Hn.out], by go_num, by omega, Hbe⟩
              · have Hn := Lib.hid (show V.badTo L (List.replicate L.length true) (T.vals L env) (j + 1) = bj from by rw [hs3, if_neg (by simp), if_pos (.inr rfl)]; omega)
                clear hs3
                go_wp2
                go_roundg (gk - 1)
                case measure => have := Hgk.out; omega
                case rel => have := Hgk.out; exact ⟨j + 1, by omega, by rw [Hn.out], by go_num, by omega, Hbe⟩
            | false =>
              have Hn := Lib.hid (show V.badTo L (List.replicate L.length true) (T.vals L env) (j + 1) = bj from by rw [hs3]; have := Hbr.out; simp; omega)
              clear hs3
              go_wp2
              go_roundg (gk - 1)
              case measure => have := Hgk.out; omega
              case rel => have := Hgk.out; exact ⟨j + 1, by omega, by rw [Hn.out], by go_num, by omega, Hbe⟩
          | false =>
            by_cases h4 : 4 ≤ x.op
            · have q4 : decide (4 ≤ x.op) = true := by simpa using h4
              by_cases h7 : x.op ≤ 7
              · have q7 : decide (x.op ≤ 7) = true := by simpa using h7
                have Hn := Lib.hid (show V.badTo L (List.replicate L.length true) (T.vals L env) (j + 1) = 2 from by rw [hs3, if_pos ⟨rfl, h4, h7⟩]; have := Hbr.out; omega)
                clear hs3
                go_wp2
                go_roundg (gk - 1)
                case measure => have := Hgk.out; omega
                case rel => have := Hgk.out; exact ⟨j + 1, by omega, by rw [Hn.out], by go_num, by omega, Hbe⟩
              · have q7 : decide (x.op ≤ 7) = false := by simpa using h7
                by_cases hgt : bj < 1
                · have Hn := Lib.hid (show V.badTo L (List.replicate L.length true) (T.vals L env) (j + 1) = 1 from by rw [hs3, if_neg (by omega), if_pos (.inl rfl)]; omega)
                  clear hs3
                  go_wp2
                  go_roundg (gk - 1)
                  case measure => have := Hgk.out; omega
                  case rel => have := Hgk.out; exact ⟨j + 1, by omega, by rw [Hn.out], by go_num, by omega, Hbe⟩
                · have Hn := Lib.hid (show V.badTo L (List.replicate L.length true) (T.vals L env) (j + 1) = bj from by rw [hs3, if_neg (by omega), if_pos (.inl rfl)]; omega)
                  clear hs3
                  go_wp2
                  go_roundg (gk - 1)
                  case measure => have := Hgk.out; omega
                  case rel => have := Hgk.out; exact ⟨j + 1, by omega, by rw [Hn.out], by go_num, by omega, Hbe⟩
            · have q4 : decide (4 ≤ x.op) = false := by simpa using h4
              by_cases hgt : bj < 1
              · have Hn := Lib.hid (show V.badTo L (List.replicate L.length true) (T.vals L env) (j + 1) = 1 from by rw [hs3, if_neg (by omega), if_pos (.inl rfl)]; omega)
                clear hs3
                go_wp2
                go_roundg (gk - 1)
                case measure => have := Hgk.out; omega
                case rel => have := Hgk.out; exact ⟨j + 1, by omega, by rw [Hn.out], by go_num, by omega, Hbe⟩
              · have Hn := Lib.hid (show V.badTo L (List.replicate L.length true) (T.vals L env) (j + 1) = bj from by rw [hs3, if_neg (by omega), if_pos (.inl rfl)]; omega)
                clear hs3
                go_wp2
                go_roundg (gk - 1)
                case measure => have := Hgk.out; omega
                case rel => have := Hgk.out; exact ⟨j + 1, by omega, by rw [Hn.out], by go_num, by omega, Hbe⟩
      · obtain rfl : j = m := by omega
        have hbadj : V.bad t env = bj := by rw [Hbad.out]; unfold V.badL; rw [Hm.out]; have h := Hbj.out; rwa [Hm.out] at h
        have hf := Hf.out
        rw [hbadj, Hroot.out, Hm.out] at hf
        have Hbe := Lib.hid (Hb4.out.trans (Hbw.out.mono Hb4.out.size))
        by_cases hb0 : 0 < bj
        · have q : decide (0 < bj) = true := by simpa using hb0
          have Hfe := Lib.hid (hf.trans (if_pos hb0))
          clear hf hb0
          go_wp2
          go_ret3
          exact ⟨by rw [Hfe.out]; rfl, Hbe.out⟩
        · have q : decide (0 < bj) = false := by simpa using hb0
          have Hfe := Lib.hid (hf.trans (if_neg hb0))
          obtain ⟨j', rfl⟩ : ∃ j', j = j' + 1 := ⟨j - 1, by omega⟩
          obtain ⟨z0, bv0, ov0, uv0, hz0, hV0, _, hcv0, huv0⟩ := (HV4.out.below (monoInt _) Hbw.out).at_ (k := j') (by omega)
          subst hV0
          obtain rfl : uv0 = .int .u32 z0 := huv0
          rw [show j' + 1 - 1 = j' by omega, getD_of hz0] at Hfe
          clear hf hb0 hz0
          go_wp2
          go_ret3
          exact ⟨by rw [Hfe.out]; rfl, Hbe.out⟩
end Go.Proofs.YtbiopedpceddeaaGreatDoor
end
section
namespace Go.Proofs.YtbiopedpceddeaaGreatDoor
open Go.RowKit
set_option linter.unusedVariables false
set_option linter.unusedSimpArgs false

set_option maxRecDepth 100000 in
set_option maxHeartbeats 2000000 in
theorem ruleValues_any {t : List T.Nd} {env : List Int} {n ct ne ce : Nat} {At Ae : Option Addr} {W : World} (hS : StAt 5 NdR W At n t) (hE : SlAt (IntR .u32) W Ae ne env) (hew : ∀ x ∈ env, 0 ≤ x ∧ x < 4294967296) (hf : R.flr t) (hT : TabAt W) :
    Calls Tryz.prog 3 #[.slice At n ct, .slice Ae ne ce] W fun e W' => e = .returned (.bool true) ∧ Below W.heap.size W W' := by
  have hleE := hE.le
  have Hln := Lib.hid (Long_any t n ct At W hS)
  have Hg := Lib.hid (gValue_any t env n ct ne ce At Ae W hS hE hew hf)
  have Hr := Lib.hid (fun X (h : Below W.heap.size W X) => rValue_any t env n ct ne ce At Ae X (hS.below monoNd h) (hE.below (monoInt _) h) hew)
  have Hkn := Lib.hid (fun X (h : Below W.heap.size W X) => known_any X (hT.below h))
  obtain ⟨ln, hln⟩ : ∃ ln, T.long t = ln := ⟨_, rfl⟩
  obtain ⟨v, hv⟩ : ∃ v, V.value t env = v := ⟨_, rfl⟩
  rw [hln] at Hln
  rw [hv] at Hg Hr
  obtain ⟨v1, v2, v3⟩ := v
  clear hS hE hew hf hT hln hv
  have q1 : (v1 == v1) = true := beq_self_eq_true v1
  have q2 : (v2 == v2) = true := beq_self_eq_true v2
  have q3 : (v3 == v3) = true := beq_self_eq_true v3
  have Hb0 := Lib.hid (Below.refl W.heap.size W)
  have hd : decide ((100 : Int) < (ne : Int)) = true ∨ decide ((100 : Int) < (ne : Int)) = false := by cases decide ((100 : Int) < (ne : Int)) <;> simp
  cases ln with
  | true =>
    go_enter Tryz.func3, Tryz.ntmps3
    go_wp2_with fail
    (with_reducible refine Hln.out.mono ?_)
    rintro e w2 ⟨rfl, rfl⟩
    go_wp2_with fail
    (with_reducible refine (Hkn.out _ Hb0.out).mono ?_)
    rintro e w3 ⟨rfl, hb3⟩
    go_wp2
    go_ret
    exact ⟨rfl, hb3⟩
  | false =>
    rcases hd with hd | hd
    · go_enter Tryz.func3, Tryz.ntmps3
      go_wp2_with fail
      (with_reducible refine Hln.out.mono ?_)
      rintro e w2 ⟨rfl, rfl⟩
      go_wp2_with fail
      (with_reducible refine (Hkn.out _ Hb0.out).mono ?_)
      rintro e w3 ⟨rfl, hb3⟩
      go_wp2
      go_ret
      exact ⟨rfl, hb3⟩
    · go_enter Tryz.func3, Tryz.ntmps3
      go_wp2_with fail
      (with_reducible refine Hln.out.mono ?_)
      rintro e w2 ⟨rfl, rfl⟩
      go_wp2_with fail
      (with_reducible refine Hg.out.mono ?_)
      rintro e w3 ⟨rfl, hb3⟩
      have Hb3 := Lib.hid hb3
      clear hb3
      go_wp2_with fail
      (with_reducible refine (Hr.out _ Hb3.out).mono ?_)
      rintro e w4 ⟨rfl, hb4⟩
      have Hb4 := Lib.hid (Hb3.out.trans (hb4.mono Hb3.out.size))
      clear hb4
      go_wp2_with fail
      (with_reducible refine (Hkn.out _ Hb4.out).mono ?_)
      rintro e w5 ⟨rfl, hb5⟩
      have Hb5 := Lib.hid (Hb4.out.trans (hb5.mono Hb4.out.size))
      clear hb5
      go_wp2
      go_ret
      exact ⟨rfl, Hb5.out⟩
end Go.Proofs.YtbiopedpceddeaaGreatDoor
end
