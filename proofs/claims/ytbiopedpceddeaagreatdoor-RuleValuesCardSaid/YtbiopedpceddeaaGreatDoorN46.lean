/- Walks of the reference's layer of bits: Breaks, for words and flags that are right. -/
import Derived.Test.YtbiopedpceddeaaGreatDoorN45
import Derived.Test.YtbiopedpceddeaaGreatDoorN36
set_option linter.unusedVariables false
set_option linter.unusedSimpArgs false
namespace Go.Proofs.YtbiopedpceddeaaGreatDoor
open Go.RowKit
set_option linter.unusedVariables false
set_option linter.unusedSimpArgs false

/-- what the reference's Breaks answers for operation k -/
def RBreaks (k : Int) : Prop := ∀ (fl n a b : Int) (w : World), 0 ≤ fl → fl ≤ 7 → B.Wds n a b →
  Calls Tryz.prog 57 #[.int .i64 k, .int .i64 fl, .int .i64 n, .int .u32 a, .int .u32 b] w fun e w' => e = .returned (.tuple #[.bool (B.brk k fl n a b), .int .i64 0]) ∧ Dr w w'
theorem brk_none {k fl n a b : Int} (h : B.has k n a b = false) : B.brk k fl n a b = false := by
  unfold B.brk
  have : (B.do_ k n a b).isSome = false := h
  rw [this]
  rfl
theorem brk_has {k fl n a b : Int} (h : B.has k n a b = true) : B.brk k fl n a b = ((decide (fl / 4 % 2 = 1) && (B.isLf k && B.lf k n a b)) || (B.isWh k && ((decide (fl % 2 = 1) && B.out 0 (B.pw n - 1) (B.wh k a b)) || (decide (fl / 2 % 2 = 1) && B.out (-B.pw (n - 1)) (B.pw (n - 1) - 1) (B.wh k (B.sg n a) (if k = 11 then b else B.sg n b)))))) := by
  unfold B.brk
  have : (B.do_ k n a b).isSome = true := h
  rw [this]
  rfl
theorem flag_mods {fl : Int} (h0 : 0 ≤ fl) (h1 : fl ≤ 7) : (fl.tmod 2 == 1) = decide (fl % 2 = 1) ∧ ((wrap64 (fl.tdiv 2)).tmod 2 == 1) = decide (fl / 2 % 2 = 1) ∧ ((wrap64 (fl.tdiv 4)).tmod 2 == 1) = decide (fl / 4 % 2 = 1) ∧ (fl % 2 == 1) = decide (fl % 2 = 1) ∧ (fl / 2 % 2 == 1) = decide (fl / 2 % 2 = 1) ∧ (fl / 4 % 2 == 1) = decide (fl / 4 % 2 = 1) := by
  have h : fl = 0 ∨ fl = 1 ∨ fl = 2 ∨ fl = 3 ∨ fl = 4 ∨ fl = 5 ∨ fl = 6 ∨ fl = 7 := by omega
  rcases h with rfl | rfl | rfl | rfl | rfl | rfl | rfl | rfl <;> decide +kernel
set_option maxRecDepth 100000 in
set_option maxHeartbeats 4000000 in
theorem rbr1 : RBreaks 1 := by
  intro fl n a b w hf0 hf1 hw
  have HT := Lib.hid (fun X => two_yes 1 n a b X hw (by decide) (by decide))
  obtain ⟨dv, hdv⟩ : ∃ dv, dv = (B.do_ 1 n a b).getD 0 := ⟨_, rfl⟩
  obtain ⟨hs, hhs⟩ : ∃ hs, B.has 1 n a b = hs := ⟨_, rfl⟩
  have HD := Lib.hid (fun X => rdo_any 1 n a b X hw (by decide) (by decide))
  rw [← hdv, hhs] at HD
  have q0 : decide (fl < 0) = false := by simp; omega
  have q7 : decide (7 < fl) = false := by simp; omega
  obtain ⟨e1, e2, e4, e5, e6, e7⟩ := flag_mods hf0 hf1
  obtain ⟨x4, hx4⟩ : ∃ x, decide (fl / 4 % 2 = 1) = x := ⟨_, rfl⟩
  obtain ⟨x1, hx1⟩ : ∃ x, decide (fl % 2 = 1) = x := ⟨_, rfl⟩
  obtain ⟨x2, hx2⟩ : ∃ x, decide (fl / 2 % 2 = 1) = x := ⟨_, rfl⟩
  obtain ⟨r, hr⟩ : ∃ r, B.brk 1 fl n a b = r := ⟨_, rfl⟩
  rw [hr]
  obtain ⟨n0, n1, a0, a1, b0, b1⟩ := hw
  have hpl := B.pw_le n1
  have hn1s : wrap64 (n - 1) = n - 1 := B.wrap64_id (by omega) (by omega)
  have HSa := Lib.hid (fun X => rsign_any n a X n0 n1 a0 (by omega))
  have HSb := Lib.hid (fun X => rsign_any n b X n0 n1 b0 (by omega))
  have Hsn := Lib.hid (fun X => rsize_any n X (by omega) n1)
  have Hsh := Lib.hid (fun X => rsize_any (n - 1) X (by omega) (by omega))
  have hlo := B.sg_lo (n := n) (a := a) (by omega) a0
  have hhi := B.sg_hi (n := n) (a := a) (by omega) a1
  have hlob := B.sg_lo (n := n) (a := b) (by omega) b0
  have hhib := B.sg_hi (n := n) (a := b) (by omega) b1
  have hp31 := B.pw_le31 (n := n - 1) (by omega)
  have hpp := B.pw_pos (n - 1)
  have hpn := B.pw_pos n
  have hneg : wrap64 (-B.pw (n - 1)) = -B.pw (n - 1) := B.wrap64_id (by omega) (by omega)
  have hdec : wrap64 (B.pw (n - 1) - 1) = B.pw (n - 1) - 1 := B.wrap64_id (by omega) (by omega)
  have wa : wrap64 a = a := B.wrap64_id (by omega) (by omega)
  have wb : wrap64 b = b := B.wrap64_id (by omega) (by omega)
  cases hs with
  | false =>
    have Hf := Lib.hid (show r = false from by rw [← hr]; exact brk_none hhs)
    clear hdv hhs hx4 hx1 hx2 hr e1 e2 e4 e5 e6 e7 HSa HSb Hsn Hsh hlo hhi hlob hhib hp31 hpp hpn hneg hdec hpl a1 b1 wa wb hn1s
    go_enter Tryz.func57, Tryz.ntmps57
    go_wp2_with fail
    refine (HT.out _).mono ?_
    rintro e w1 ⟨rfl, rfl⟩
    go_wp2_with fail
    refine (HD.out _).mono ?_
    rintro e w2 ⟨rfl, hd⟩
    go_wp2
    go_ret2
    exact ⟨by rw [Hf.out]; rfl, hd⟩
  | true =>
    have hB := (hr.symm.trans (brk_has hhs))
    rw [hx4, hx1, hx2] at hB
    rw [hx1] at e1 e5
    rw [hx2] at e2 e6
    rw [hx4] at e4 e7
    have hU : B.out 0 (B.pw n - 1) (B.wh 1 a b) = decide (B.pw n ≤ a + b) := by show B.out 0 (B.pw n - 1) (a + b) = _; unfold B.out; rw [Bool.eq_iff_iff]; simp only [Bool.or_eq_true, decide_eq_true_eq]; omega
    have hS : B.out (-B.pw (n - 1)) (B.pw (n - 1) - 1) (B.wh 1 (B.sg n a) (if (1 : Int) = 11 then b else B.sg n b)) = (decide ((B.sg n a + B.sg n b) < -B.pw (n - 1)) || decide (B.pw (n - 1) - 1 < (B.sg n a + B.sg n b))) := rfl
    rw [hU, hS] at hB
    have hww : wrap64 (B.sg n a + B.sg n b) = (B.sg n a + B.sg n b) := B.wrap64_id (by omega) (by omega)
    have hwu : wrap64 (a + b) = a + b := B.wrap64_id (by omega) (by omega)
    obtain ⟨u, hu⟩ : ∃ u, decide (B.pw n ≤ a + b) = u := ⟨_, rfl⟩
    obtain ⟨sl, hsl⟩ : ∃ s, decide ((B.sg n a + B.sg n b) < -B.pw (n - 1)) = s := ⟨_, rfl⟩
    obtain ⟨sh, hsh⟩ : ∃ s, decide (B.pw (n - 1) - 1 < (B.sg n a + B.sg n b)) = s := ⟨_, rfl⟩
    rw [hu, hsl, hsh] at hB
    clear hU hS
    cases x1 with
    | false =>
      cases x2 with
      | false =>
        have Hf := Lib.hid (show r = false from by rw [hB]; simp [B.isLf, B.isWh])
        clear hdv hhs hx4 hx1 hx2 hr hf0 hf1 hB hlo hhi hlob hhib hp31 hpp hpn hpl a1 b1 a0 b0
        go_enter Tryz.func57, Tryz.ntmps57
        go_wp2_with fail
        refine (HT.out _).mono ?_
        rintro e w1 ⟨rfl, rfl⟩
        go_wp2_with fail
        refine (HD.out _).mono ?_
        rintro e w2 ⟨rfl, hd⟩
        go_wp2_with fail
        refine (HSa.out _).mono ?_
        rintro e w3 ⟨rfl, rfl⟩
        go_wp2_with fail
        refine (HSb.out _).mono ?_
        rintro e w3 ⟨rfl, rfl⟩
        go_wp2_with fail
        refine (Hsh.out _).mono ?_
        rintro e w3 ⟨rfl, rfl⟩
        go_wp2_with fail
        refine (Hsh.out _).mono ?_
        rintro e w3 ⟨rfl, rfl⟩
        go_wp2
        go_ret2
        exact ⟨by rw [Hf.out]; rfl, hd⟩
      | true =>
        cases sl with
        | true =>
          have Hf := Lib.hid (show r = true from by rw [hB]; simp [B.isLf, B.isWh])
          clear hdv hhs hx4 hx1 hx2 hr hf0 hf1 hB hlo hhi hlob hhib hp31 hpp hpn hpl a1 b1 a0 b0
          go_enter Tryz.func57, Tryz.ntmps57
          go_wp2_with fail
          refine (HT.out _).mono ?_
          rintro e w1 ⟨rfl, rfl⟩
          go_wp2_with fail
          refine (HD.out _).mono ?_
          rintro e w2 ⟨rfl, hd⟩
          go_wp2_with fail
          refine (HSa.out _).mono ?_
          rintro e w3 ⟨rfl, rfl⟩
          go_wp2_with fail
          refine (HSb.out _).mono ?_
          rintro e w3 ⟨rfl, rfl⟩
          go_wp2_with fail
          refine (Hsh.out _).mono ?_
          rintro e w3 ⟨rfl, rfl⟩
          go_wp2_with fail
          refine (Hsh.out _).mono ?_
          rintro e w3 ⟨rfl, rfl⟩
          go_wp2
          go_ret2
          exact ⟨by rw [Hf.out]; rfl, hd⟩
        | false =>
          have Hf := Lib.hid (show r = sh from by rw [hB]; simp [B.isLf, B.isWh])
          clear hdv hhs hx4 hx1 hx2 hr hf0 hf1 hB hlo hhi hlob hhib hp31 hpp hpn hpl a1 b1 a0 b0
          go_enter Tryz.func57, Tryz.ntmps57
          go_wp2_with fail
          refine (HT.out _).mono ?_
          rintro e w1 ⟨rfl, rfl⟩
          go_wp2_with fail
          refine (HD.out _).mono ?_
          rintro e w2 ⟨rfl, hd⟩
          go_wp2_with fail
          refine (HSa.out _).mono ?_
          rintro e w3 ⟨rfl, rfl⟩
          go_wp2_with fail
          refine (HSb.out _).mono ?_
          rintro e w3 ⟨rfl, rfl⟩
          go_wp2_with fail
          refine (Hsh.out _).mono ?_
          rintro e w3 ⟨rfl, rfl⟩
          go_wp2_with fail
          refine (Hsh.out _).mono ?_
          rintro e w3 ⟨rfl, rfl⟩
          go_wp2
          go_ret2
          exact ⟨by rw [Hf.out]; rfl, hd⟩
    | true =>
      cases u with
      | true =>
        have Hf := Lib.hid (show r = true from by rw [hB]; simp [B.isLf, B.isWh])
        clear hdv hhs hx4 hx1 hx2 hr hf0 hf1 hB hlo hhi hlob hhib hp31 hpp hpn hpl a1 b1 a0 b0
        go_enter Tryz.func57, Tryz.ntmps57
        go_wp2_with fail
        refine (HT.out _).mono ?_
        rintro e w1 ⟨rfl, rfl⟩
        go_wp2_with fail
        refine (HD.out _).mono ?_
        rintro e w2 ⟨rfl, hd⟩
        go_wp2_with fail
        refine (HSa.out _).mono ?_
        rintro e w3 ⟨rfl, rfl⟩
        go_wp2_with fail
        refine (HSb.out _).mono ?_
        rintro e w3 ⟨rfl, rfl⟩
        go_wp2_with fail
        refine (Hsh.out _).mono ?_
        rintro e w3 ⟨rfl, rfl⟩
        go_wp2_with fail
        refine (Hsh.out _).mono ?_
        rintro e w3 ⟨rfl, rfl⟩
        go_wp2_with fail
        refine (Hsn.out _).mono ?_
        rintro e w3 ⟨rfl, rfl⟩
        go_wp2
        go_ret2
        exact ⟨by rw [Hf.out]; rfl, hd⟩
      | false =>
        cases x2 with
        | false =>
          have Hf := Lib.hid (show r = false from by rw [hB]; simp [B.isLf, B.isWh])
          clear hdv hhs hx4 hx1 hx2 hr hf0 hf1 hB hlo hhi hlob hhib hp31 hpp hpn hpl a1 b1 a0 b0
          go_enter Tryz.func57, Tryz.ntmps57
          go_wp2_with fail
          refine (HT.out _).mono ?_
          rintro e w1 ⟨rfl, rfl⟩
          go_wp2_with fail
          refine (HD.out _).mono ?_
          rintro e w2 ⟨rfl, hd⟩
          go_wp2_with fail
          refine (HSa.out _).mono ?_
          rintro e w3 ⟨rfl, rfl⟩
          go_wp2_with fail
          refine (HSb.out _).mono ?_
          rintro e w3 ⟨rfl, rfl⟩
          go_wp2_with fail
          refine (Hsh.out _).mono ?_
          rintro e w3 ⟨rfl, rfl⟩
          go_wp2_with fail
          refine (Hsh.out _).mono ?_
          rintro e w3 ⟨rfl, rfl⟩
          go_wp2_with fail
          refine (Hsn.out _).mono ?_
          rintro e w3 ⟨rfl, rfl⟩
          go_wp2
          go_ret2
          exact ⟨by rw [Hf.out]; rfl, hd⟩
        | true =>
          cases sl with
          | true =>
            have Hf := Lib.hid (show r = true from by rw [hB]; simp [B.isLf, B.isWh])
            clear hdv hhs hx4 hx1 hx2 hr hf0 hf1 hB hlo hhi hlob hhib hp31 hpp hpn hpl a1 b1 a0 b0
            go_enter Tryz.func57, Tryz.ntmps57
            go_wp2_with fail
            refine (HT.out _).mono ?_
            rintro e w1 ⟨rfl, rfl⟩
            go_wp2_with fail
            refine (HD.out _).mono ?_
            rintro e w2 ⟨rfl, hd⟩
            go_wp2_with fail
            refine (HSa.out _).mono ?_
            rintro e w3 ⟨rfl, rfl⟩
            go_wp2_with fail
            refine (HSb.out _).mono ?_
            rintro e w3 ⟨rfl, rfl⟩
            go_wp2_with fail
            refine (Hsh.out _).mono ?_
            rintro e w3 ⟨rfl, rfl⟩
            go_wp2_with fail
            refine (Hsh.out _).mono ?_
            rintro e w3 ⟨rfl, rfl⟩
            go_wp2_with fail
            refine (Hsn.out _).mono ?_
            rintro e w3 ⟨rfl, rfl⟩
            go_wp2
            go_ret2
            exact ⟨by rw [Hf.out]; rfl, hd⟩
          | false =>
            have Hf := Lib.hid (show r = sh from by rw [hB]; simp [B.isLf, B.isWh])
            clear hdv hhs hx4 hx1 hx2 hr hf0 hf1 hB hlo hhi hlob hhib hp31 hpp hpn hpl a1 b1 a0 b0
            go_enter Tryz.func57, Tryz.ntmps57
            go_wp2_with fail
            refine (HT.out _).mono ?_
            rintro e w1 ⟨rfl, rfl⟩
            go_wp2_with fail
            refine (HD.out _).mono ?_
            rintro e w2 ⟨rfl, hd⟩
            go_wp2_with fail
            refine (HSa.out _).mono ?_
            rintro e w3 ⟨rfl, rfl⟩
            go_wp2_with fail
            refine (HSb.out _).mono ?_
            rintro e w3 ⟨rfl, rfl⟩
            go_wp2_with fail
            refine (Hsh.out _).mono ?_
            rintro e w3 ⟨rfl, rfl⟩
            go_wp2_with fail
            refine (Hsh.out _).mono ?_
            rintro e w3 ⟨rfl, rfl⟩
            go_wp2_with fail
            refine (Hsn.out _).mono ?_
            rintro e w3 ⟨rfl, rfl⟩
            go_wp2
            go_ret2
            exact ⟨by rw [Hf.out]; rfl, hd⟩
set_option maxRecDepth 100000 in
set_option maxHeartbeats 4000000 in
theorem rbr2 : RBreaks 2 := by
  intro fl n a b w hf0 hf1 hw
  have HT := Lib.hid (fun X => two_yes 2 n a b X hw (by decide) (by decide))
  obtain ⟨dv, hdv⟩ : ∃ dv, dv = (B.do_ 2 n a b).getD 0 := ⟨_, rfl⟩
  obtain ⟨hs, hhs⟩ : ∃ hs, B.has 2 n a b = hs := ⟨_, rfl⟩
  have HD := Lib.hid (fun X => rdo_any 2 n a b X hw (by decide) (by decide))
  rw [← hdv, hhs] at HD
  have q0 : decide (fl < 0) = false := by simp; omega
  have q7 : decide (7 < fl) = false := by simp; omega
  obtain ⟨e1, e2, e4, e5, e6, e7⟩ := flag_mods hf0 hf1
  obtain ⟨x4, hx4⟩ : ∃ x, decide (fl / 4 % 2 = 1) = x := ⟨_, rfl⟩
  obtain ⟨x1, hx1⟩ : ∃ x, decide (fl % 2 = 1) = x := ⟨_, rfl⟩
  obtain ⟨x2, hx2⟩ : ∃ x, decide (fl / 2 % 2 = 1) = x := ⟨_, rfl⟩
  obtain ⟨r, hr⟩ : ∃ r, B.brk 2 fl n a b = r := ⟨_, rfl⟩
  rw [hr]
  obtain ⟨n0, n1, a0, a1, b0, b1⟩ := hw
  have hpl := B.pw_le n1
  have hn1s : wrap64 (n - 1) = n - 1 := B.wrap64_id (by omega) (by omega)
  have HSa := Lib.hid (fun X => rsign_any n a X n0 n1 a0 (by omega))
  have HSb := Lib.hid (fun X => rsign_any n b X n0 n1 b0 (by omega))
  have Hsn := Lib.hid (fun X => rsize_any n X (by omega) n1)
  have Hsh := Lib.hid (fun X => rsize_any (n - 1) X (by omega) (by omega))
  have hlo := B.sg_lo (n := n) (a := a) (by omega) a0
  have hhi := B.sg_hi (n := n) (a := a) (by omega) a1
  have hlob := B.sg_lo (n := n) (a := b) (by omega) b0
  have hhib := B.sg_hi (n := n) (a := b) (by omega) b1
  have hp31 := B.pw_le31 (n := n - 1) (by omega)
  have hpp := B.pw_pos (n - 1)
  have hpn := B.pw_pos n
  have hneg : wrap64 (-B.pw (n - 1)) = -B.pw (n - 1) := B.wrap64_id (by omega) (by omega)
  have hdec : wrap64 (B.pw (n - 1) - 1) = B.pw (n - 1) - 1 := B.wrap64_id (by omega) (by omega)
  have wa : wrap64 a = a := B.wrap64_id (by omega) (by omega)
  have wb : wrap64 b = b := B.wrap64_id (by omega) (by omega)
  cases hs with
  | false =>
    have Hf := Lib.hid (show r = false from by rw [← hr]; exact brk_none hhs)
    clear hdv hhs hx4 hx1 hx2 hr e1 e2 e4 e5 e6 e7 HSa HSb Hsn Hsh hlo hhi hlob hhib hp31 hpp hpn hneg hdec hpl a1 b1 wa wb hn1s
    go_enter Tryz.func57, Tryz.ntmps57
    go_wp2_with fail
    refine (HT.out _).mono ?_
    rintro e w1 ⟨rfl, rfl⟩
    go_wp2_with fail
    refine (HD.out _).mono ?_
    rintro e w2 ⟨rfl, hd⟩
    go_wp2
    go_ret2
    exact ⟨by rw [Hf.out]; rfl, hd⟩
  | true =>
    have hB := (hr.symm.trans (brk_has hhs))
    rw [hx4, hx1, hx2] at hB
    rw [hx1] at e1 e5
    rw [hx2] at e2 e6
    rw [hx4] at e4 e7
    have hU : B.out 0 (B.pw n - 1) (B.wh 2 a b) = decide (a < b) := by show B.out 0 (B.pw n - 1) (a - b) = _; unfold B.out; rw [Bool.eq_iff_iff]; simp only [Bool.or_eq_true, decide_eq_true_eq]; omega
    have hS : B.out (-B.pw (n - 1)) (B.pw (n - 1) - 1) (B.wh 2 (B.sg n a) (if (2 : Int) = 11 then b else B.sg n b)) = (decide ((B.sg n a - B.sg n b) < -B.pw (n - 1)) || decide (B.pw (n - 1) - 1 < (B.sg n a - B.sg n b))) := rfl
    rw [hU, hS] at hB
    have hww : wrap64 (B.sg n a - B.sg n b) = (B.sg n a - B.sg n b) := B.wrap64_id (by omega) (by omega)
    obtain ⟨u, hu⟩ : ∃ u, decide (a < b) = u := ⟨_, rfl⟩
    obtain ⟨sl, hsl⟩ : ∃ s, decide ((B.sg n a - B.sg n b) < -B.pw (n - 1)) = s := ⟨_, rfl⟩
    obtain ⟨sh, hsh⟩ : ∃ s, decide (B.pw (n - 1) - 1 < (B.sg n a - B.sg n b)) = s := ⟨_, rfl⟩
    rw [hu, hsl, hsh] at hB
    clear hU hS
    cases x1 with
    | false =>
      cases x2 with
      | false =>
        have Hf := Lib.hid (show r = false from by rw [hB]; simp [B.isLf, B.isWh])
        clear hdv hhs hx4 hx1 hx2 hr hf0 hf1 hB hlo hhi hlob hhib hp31 hpp hpn hpl a1 b1 a0 b0
        go_enter Tryz.func57, Tryz.ntmps57
        go_wp2_with fail
        refine (HT.out _).mono ?_
        rintro e w1 ⟨rfl, rfl⟩
        go_wp2_with fail
        refine (HD.out _).mono ?_
        rintro e w2 ⟨rfl, hd⟩
        go_wp2_with fail
        refine (HSa.out _).mono ?_
        rintro e w3 ⟨rfl, rfl⟩
        go_wp2_with fail
        refine (HSb.out _).mono ?_
        rintro e w3 ⟨rfl, rfl⟩
        go_wp2_with fail
        refine (Hsh.out _).mono ?_
        rintro e w3 ⟨rfl, rfl⟩
        go_wp2_with fail
        refine (Hsh.out _).mono ?_
        rintro e w3 ⟨rfl, rfl⟩
        go_wp2
        go_ret2
        exact ⟨by rw [Hf.out]; rfl, hd⟩
      | true =>
        cases sl with
        | true =>
          have Hf := Lib.hid (show r = true from by rw [hB]; simp [B.isLf, B.isWh])
          clear hdv hhs hx4 hx1 hx2 hr hf0 hf1 hB hlo hhi hlob hhib hp31 hpp hpn hpl a1 b1 a0 b0
          go_enter Tryz.func57, Tryz.ntmps57
          go_wp2_with fail
          refine (HT.out _).mono ?_
          rintro e w1 ⟨rfl, rfl⟩
          go_wp2_with fail
          refine (HD.out _).mono ?_
          rintro e w2 ⟨rfl, hd⟩
          go_wp2_with fail
          refine (HSa.out _).mono ?_
          rintro e w3 ⟨rfl, rfl⟩
          go_wp2_with fail
          refine (HSb.out _).mono ?_
          rintro e w3 ⟨rfl, rfl⟩
          go_wp2_with fail
          refine (Hsh.out _).mono ?_
          rintro e w3 ⟨rfl, rfl⟩
          go_wp2_with fail
          refine (Hsh.out _).mono ?_
          rintro e w3 ⟨rfl, rfl⟩
          go_wp2
          go_ret2
          exact ⟨by rw [Hf.out]; rfl, hd⟩
        | false =>
          have Hf := Lib.hid (show r = sh from by rw [hB]; simp [B.isLf, B.isWh])
          clear hdv hhs hx4 hx1 hx2 hr hf0 hf1 hB hlo hhi hlob hhib hp31 hpp hpn hpl a1 b1 a0 b0
          go_enter Tryz.func57, Tryz.ntmps57
          go_wp2_with fail
          refine (HT.out _).mono ?_
          rintro e w1 ⟨rfl, rfl⟩
          go_wp2_with fail
          refine (HD.out _).mono ?_
          rintro e w2 ⟨rfl, hd⟩
          go_wp2_with fail
          refine (HSa.out _).mono ?_
          rintro e w3 ⟨rfl, rfl⟩
          go_wp2_with fail
          refine (HSb.out _).mono ?_
          rintro e w3 ⟨rfl, rfl⟩
          go_wp2_with fail
          refine (Hsh.out _).mono ?_
          rintro e w3 ⟨rfl, rfl⟩
          go_wp2_with fail
          refine (Hsh.out _).mono ?_
          rintro e w3 ⟨rfl, rfl⟩
          go_wp2
          go_ret2
          exact ⟨by rw [Hf.out]; rfl, hd⟩
    | true =>
      cases u with
      | true =>
        have Hf := Lib.hid (show r = true from by rw [hB]; simp [B.isLf, B.isWh])
        clear hdv hhs hx4 hx1 hx2 hr hf0 hf1 hB hlo hhi hlob hhib hp31 hpp hpn hpl a1 b1 a0 b0
        go_enter Tryz.func57, Tryz.ntmps57
        go_wp2_with fail
        refine (HT.out _).mono ?_
        rintro e w1 ⟨rfl, rfl⟩
        go_wp2_with fail
        refine (HD.out _).mono ?_
        rintro e w2 ⟨rfl, hd⟩
        go_wp2_with fail
        refine (HSa.out _).mono ?_
        rintro e w3 ⟨rfl, rfl⟩
        go_wp2_with fail
        refine (HSb.out _).mono ?_
        rintro e w3 ⟨rfl, rfl⟩
        go_wp2_with fail
        refine (Hsh.out _).mono ?_
        rintro e w3 ⟨rfl, rfl⟩
        go_wp2_with fail
        refine (Hsh.out _).mono ?_
        rintro e w3 ⟨rfl, rfl⟩
        go_wp2
        go_ret2
        exact ⟨by rw [Hf.out]; rfl, hd⟩
      | false =>
        cases x2 with
        | false =>
          have Hf := Lib.hid (show r = false from by rw [hB]; simp [B.isLf, B.isWh])
          clear hdv hhs hx4 hx1 hx2 hr hf0 hf1 hB hlo hhi hlob hhib hp31 hpp hpn hpl a1 b1 a0 b0
          go_enter Tryz.func57, Tryz.ntmps57
          go_wp2_with fail
          refine (HT.out _).mono ?_
          rintro e w1 ⟨rfl, rfl⟩
          go_wp2_with fail
          refine (HD.out _).mono ?_
          rintro e w2 ⟨rfl, hd⟩
          go_wp2_with fail
          refine (HSa.out _).mono ?_
          rintro e w3 ⟨rfl, rfl⟩
          go_wp2_with fail
          refine (HSb.out _).mono ?_
          rintro e w3 ⟨rfl, rfl⟩
          go_wp2_with fail
          refine (Hsh.out _).mono ?_
          rintro e w3 ⟨rfl, rfl⟩
          go_wp2_with fail
          refine (Hsh.out _).mono ?_
          rintro e w3 ⟨rfl, rfl⟩
          go_wp2
          go_ret2
          exact ⟨by rw [Hf.out]; rfl, hd⟩
        | true =>
          cases sl with
          | true =>
            have Hf := Lib.hid (show r = true from by rw [hB]; simp [B.isLf, B.isWh])
            clear hdv hhs hx4 hx1 hx2 hr hf0 hf1 hB hlo hhi hlob hhib hp31 hpp hpn hpl a1 b1 a0 b0
            go_enter Tryz.func57, Tryz.ntmps57
            go_wp2_with fail
            refine (HT.out _).mono ?_
            rintro e w1 ⟨rfl, rfl⟩
            go_wp2_with fail
            refine (HD.out _).mono ?_
            rintro e w2 ⟨rfl, hd⟩
            go_wp2_with fail
            refine (HSa.out _).mono ?_
            rintro e w3 ⟨rfl, rfl⟩
            go_wp2_with fail
            refine (HSb.out _).mono ?_
            rintro e w3 ⟨rfl, rfl⟩
            go_wp2_with fail
            refine (Hsh.out _).mono ?_
            rintro e w3 ⟨rfl, rfl⟩
            go_wp2_with fail
            refine (Hsh.out _).mono ?_
            rintro e w3 ⟨rfl, rfl⟩
            go_wp2
            go_ret2
            exact ⟨by rw [Hf.out]; rfl, hd⟩
          | false =>
            have Hf := Lib.hid (show r = sh from by rw [hB]; simp [B.isLf, B.isWh])
            clear hdv hhs hx4 hx1 hx2 hr hf0 hf1 hB hlo hhi hlob hhib hp31 hpp hpn hpl a1 b1 a0 b0
            go_enter Tryz.func57, Tryz.ntmps57
            go_wp2_with fail
            refine (HT.out _).mono ?_
            rintro e w1 ⟨rfl, rfl⟩
            go_wp2_with fail
            refine (HD.out _).mono ?_
            rintro e w2 ⟨rfl, hd⟩
            go_wp2_with fail
            refine (HSa.out _).mono ?_
            rintro e w3 ⟨rfl, rfl⟩
            go_wp2_with fail
            refine (HSb.out _).mono ?_
            rintro e w3 ⟨rfl, rfl⟩
            go_wp2_with fail
            refine (Hsh.out _).mono ?_
            rintro e w3 ⟨rfl, rfl⟩
            go_wp2_with fail
            refine (Hsh.out _).mono ?_
            rintro e w3 ⟨rfl, rfl⟩
            go_wp2
            go_ret2
            exact ⟨by rw [Hf.out]; rfl, hd⟩
set_option maxRecDepth 100000 in
set_option maxHeartbeats 4000000 in
theorem rbr3 : RBreaks 3 := by
  intro fl n a b w hf0 hf1 hw
  have HT := Lib.hid (fun X => two_yes 3 n a b X hw (by decide) (by decide))
  obtain ⟨dv, hdv⟩ : ∃ dv, dv = (B.do_ 3 n a b).getD 0 := ⟨_, rfl⟩
  obtain ⟨hs, hhs⟩ : ∃ hs, B.has 3 n a b = hs := ⟨_, rfl⟩
  have HD := Lib.hid (fun X => rdo_any 3 n a b X hw (by decide) (by decide))
  rw [← hdv, hhs] at HD
  have q0 : decide (fl < 0) = false := by simp; omega
  have q7 : decide (7 < fl) = false := by simp; omega
  obtain ⟨e1, e2, e4, e5, e6, e7⟩ := flag_mods hf0 hf1
  obtain ⟨x4, hx4⟩ : ∃ x, decide (fl / 4 % 2 = 1) = x := ⟨_, rfl⟩
  obtain ⟨x1, hx1⟩ : ∃ x, decide (fl % 2 = 1) = x := ⟨_, rfl⟩
  obtain ⟨x2, hx2⟩ : ∃ x, decide (fl / 2 % 2 = 1) = x := ⟨_, rfl⟩
  obtain ⟨r, hr⟩ : ∃ r, B.brk 3 fl n a b = r := ⟨_, rfl⟩
  rw [hr]
  obtain ⟨n0, n1, a0, a1, b0, b1⟩ := hw
  have hpl := B.pw_le n1
  have hn1s : wrap64 (n - 1) = n - 1 := B.wrap64_id (by omega) (by omega)
  have HSa := Lib.hid (fun X => rsign_any n a X n0 n1 a0 (by omega))
  have HSb := Lib.hid (fun X => rsign_any n b X n0 n1 b0 (by omega))
  have Hsn := Lib.hid (fun X => rsize_any n X (by omega) n1)
  have Hsh := Lib.hid (fun X => rsize_any (n - 1) X (by omega) (by omega))
  have hlo := B.sg_lo (n := n) (a := a) (by omega) a0
  have hhi := B.sg_hi (n := n) (a := a) (by omega) a1
  have hlob := B.sg_lo (n := n) (a := b) (by omega) b0
  have hhib := B.sg_hi (n := n) (a := b) (by omega) b1
  have hp31 := B.pw_le31 (n := n - 1) (by omega)
  have hpp := B.pw_pos (n - 1)
  have hpn := B.pw_pos n
  have hneg : wrap64 (-B.pw (n - 1)) = -B.pw (n - 1) := B.wrap64_id (by omega) (by omega)
  have hdec : wrap64 (B.pw (n - 1) - 1) = B.pw (n - 1) - 1 := B.wrap64_id (by omega) (by omega)
  have wa : wrap64 a = a := B.wrap64_id (by omega) (by omega)
  have wb : wrap64 b = b := B.wrap64_id (by omega) (by omega)
  cases hs with
  | false =>
    have Hf := Lib.hid (show r = false from by rw [← hr]; exact brk_none hhs)
    clear hdv hhs hx4 hx1 hx2 hr e1 e2 e4 e5 e6 e7 HSa HSb Hsn Hsh hlo hhi hlob hhib hp31 hpp hpn hneg hdec hpl a1 b1 wa wb hn1s
    go_enter Tryz.func57, Tryz.ntmps57
    go_wp2_with fail
    refine (HT.out _).mono ?_
    rintro e w1 ⟨rfl, rfl⟩
    go_wp2_with fail
    refine (HD.out _).mono ?_
    rintro e w2 ⟨rfl, hd⟩
    go_wp2
    go_ret2
    exact ⟨by rw [Hf.out]; rfl, hd⟩
  | true =>
    have hB := (hr.symm.trans (brk_has hhs))
    rw [hx4, hx1, hx2] at hB
    rw [hx1] at e1 e5
    rw [hx2] at e2 e6
    rw [hx4] at e4 e7
    have hU : B.out 0 (B.pw n - 1) (B.wh 3 a b) = decide (B.pw n - 1 < a * b) := by show B.out 0 (B.pw n - 1) (a * b) = _; have h0 := Int.mul_nonneg a0 b0; unfold B.out; rw [Bool.eq_iff_iff]; simp only [Bool.or_eq_true, decide_eq_true_eq]; omega
    have hS : B.out (-B.pw (n - 1)) (B.pw (n - 1) - 1) (B.wh 3 (B.sg n a) (if (3 : Int) = 11 then b else B.sg n b)) = (decide ((B.sg n a * B.sg n b) < -B.pw (n - 1)) || decide (B.pw (n - 1) - 1 < (B.sg n a * B.sg n b))) := rfl
    rw [hU, hS] at hB
    have hmb := mul_bound (x := B.sg n a) (y := B.sg n b) (by omega) (by omega) (by omega) (by omega)
    have hww : wrap64 (B.sg n a * B.sg n b) = (B.sg n a * B.sg n b) := B.wrap64_id (by omega) (by omega)
    have hdn : wrap64 (B.pw n - 1) = B.pw n - 1 := B.wrap64_id (by omega) (by omega)
    have Hby := Lib.hid (fun X => rbeyond_any a b (B.pw n - 1) X a0 b0 (by omega) (by omega) (by omega))
    obtain ⟨u, hu⟩ : ∃ u, decide (B.pw n - 1 < a * b) = u := ⟨_, rfl⟩
    obtain ⟨sl, hsl⟩ : ∃ s, decide ((B.sg n a * B.sg n b) < -B.pw (n - 1)) = s := ⟨_, rfl⟩
    obtain ⟨sh, hsh⟩ : ∃ s, decide (B.pw (n - 1) - 1 < (B.sg n a * B.sg n b)) = s := ⟨_, rfl⟩
    rw [hu, hsl, hsh] at hB
    rw [hu] at Hby
    clear hU hS
    cases x1 with
    | false =>
      cases x2 with
      | false =>
        have Hf := Lib.hid (show r = false from by rw [hB]; simp [B.isLf, B.isWh])
        clear hmb
        clear hdv hhs hx4 hx1 hx2 hr hf0 hf1 hB hlo hhi hlob hhib hp31 hpp hpn hpl a1 b1 a0 b0
        go_enter Tryz.func57, Tryz.ntmps57
        go_wp2_with fail
        refine (HT.out _).mono ?_
        rintro e w1 ⟨rfl, rfl⟩
        go_wp2_with fail
        refine (HD.out _).mono ?_
        rintro e w2 ⟨rfl, hd⟩
        go_wp2_with fail
        refine (HSa.out _).mono ?_
        rintro e w3 ⟨rfl, rfl⟩
        go_wp2_with fail
        refine (HSb.out _).mono ?_
        rintro e w3 ⟨rfl, rfl⟩
        go_wp2_with fail
        refine (Hsh.out _).mono ?_
        rintro e w3 ⟨rfl, rfl⟩
        go_wp2_with fail
        refine (Hsh.out _).mono ?_
        rintro e w3 ⟨rfl, rfl⟩
        go_wp2
        go_ret2
        exact ⟨by rw [Hf.out]; rfl, hd⟩
      | true =>
        cases sl with
        | true =>
          have Hf := Lib.hid (show r = true from by rw [hB]; simp [B.isLf, B.isWh])
          clear hmb
          clear hdv hhs hx4 hx1 hx2 hr hf0 hf1 hB hlo hhi hlob hhib hp31 hpp hpn hpl a1 b1 a0 b0
          go_enter Tryz.func57, Tryz.ntmps57
          go_wp2_with fail
          refine (HT.out _).mono ?_
          rintro e w1 ⟨rfl, rfl⟩
          go_wp2_with fail
          refine (HD.out _).mono ?_
          rintro e w2 ⟨rfl, hd⟩
          go_wp2_with fail
          refine (HSa.out _).mono ?_
          rintro e w3 ⟨rfl, rfl⟩
          go_wp2_with fail
          refine (HSb.out _).mono ?_
          rintro e w3 ⟨rfl, rfl⟩
          go_wp2_with fail
          refine (Hsh.out _).mono ?_
          rintro e w3 ⟨rfl, rfl⟩
          go_wp2_with fail
          refine (Hsh.out _).mono ?_
          rintro e w3 ⟨rfl, rfl⟩
          go_wp2
          go_ret2
          exact ⟨by rw [Hf.out]; rfl, hd⟩
        | false =>
          have Hf := Lib.hid (show r = sh from by rw [hB]; simp [B.isLf, B.isWh])
          clear hmb
          clear hdv hhs hx4 hx1 hx2 hr hf0 hf1 hB hlo hhi hlob hhib hp31 hpp hpn hpl a1 b1 a0 b0
          go_enter Tryz.func57, Tryz.ntmps57
          go_wp2_with fail
          refine (HT.out _).mono ?_
          rintro e w1 ⟨rfl, rfl⟩
          go_wp2_with fail
          refine (HD.out _).mono ?_
          rintro e w2 ⟨rfl, hd⟩
          go_wp2_with fail
          refine (HSa.out _).mono ?_
          rintro e w3 ⟨rfl, rfl⟩
          go_wp2_with fail
          refine (HSb.out _).mono ?_
          rintro e w3 ⟨rfl, rfl⟩
          go_wp2_with fail
          refine (Hsh.out _).mono ?_
          rintro e w3 ⟨rfl, rfl⟩
          go_wp2_with fail
          refine (Hsh.out _).mono ?_
          rintro e w3 ⟨rfl, rfl⟩
          go_wp2
          go_ret2
          exact ⟨by rw [Hf.out]; rfl, hd⟩
    | true =>
      cases u with
      | true =>
        have Hf := Lib.hid (show r = true from by rw [hB]; simp [B.isLf, B.isWh])
        clear hmb
        clear hdv hhs hx4 hx1 hx2 hr hf0 hf1 hB hlo hhi hlob hhib hp31 hpp hpn hpl a1 b1 a0 b0
        go_enter Tryz.func57, Tryz.ntmps57
        go_wp2_with fail
        refine (HT.out _).mono ?_
        rintro e w1 ⟨rfl, rfl⟩
        go_wp2_with fail
        refine (HD.out _).mono ?_
        rintro e w2 ⟨rfl, hd⟩
        go_wp2_with fail
        refine (HSa.out _).mono ?_
        rintro e w3 ⟨rfl, rfl⟩
        go_wp2_with fail
        refine (HSb.out _).mono ?_
        rintro e w3 ⟨rfl, rfl⟩
        go_wp2_with fail
        refine (Hsh.out _).mono ?_
        rintro e w3 ⟨rfl, rfl⟩
        go_wp2_with fail
        refine (Hsh.out _).mono ?_
        rintro e w3 ⟨rfl, rfl⟩
        go_wp2_with fail
        refine (Hsn.out _).mono ?_
        rintro e w3 ⟨rfl, rfl⟩
        go_wp2_with fail
        refine (Hby.out _).mono ?_
        rintro e w3 ⟨rfl, rfl⟩
        go_wp2
        go_ret2
        exact ⟨by rw [Hf.out]; rfl, hd⟩
      | false =>
        cases x2 with
        | false =>
          have Hf := Lib.hid (show r = false from by rw [hB]; simp [B.isLf, B.isWh])
          clear hmb
          clear hdv hhs hx4 hx1 hx2 hr hf0 hf1 hB hlo hhi hlob hhib hp31 hpp hpn hpl a1 b1 a0 b0
          go_enter Tryz.func57, Tryz.ntmps57
          go_wp2_with fail
          refine (HT.out _).mono ?_
          rintro e w1 ⟨rfl, rfl⟩
          go_wp2_with fail
          refine (HD.out _).mono ?_
          rintro e w2 ⟨rfl, hd⟩
          go_wp2_with fail
          refine (HSa.out _).mono ?_
          rintro e w3 ⟨rfl, rfl⟩
          go_wp2_with fail
          refine (HSb.out _).mono ?_
          rintro e w3 ⟨rfl, rfl⟩
          go_wp2_with fail
          refine (Hsh.out _).mono ?_
          rintro e w3 ⟨rfl, rfl⟩
          go_wp2_with fail
          refine (Hsh.out _).mono ?_
          rintro e w3 ⟨rfl, rfl⟩
          go_wp2_with fail
          refine (Hsn.out _).mono ?_
          rintro e w3 ⟨rfl, rfl⟩
          go_wp2_with fail
          refine (Hby.out _).mono ?_
          rintro e w3 ⟨rfl, rfl⟩
          go_wp2
          go_ret2
          exact ⟨by rw [Hf.out]; rfl, hd⟩
        | true =>
          cases sl with
          | true =>
            have Hf := Lib.hid (show r = true from by rw [hB]; simp [B.isLf, B.isWh])
            clear hmb
            clear hdv hhs hx4 hx1 hx2 hr hf0 hf1 hB hlo hhi hlob hhib hp31 hpp hpn hpl a1 b1 a0 b0
            go_enter Tryz.func57, Tryz.ntmps57
            go_wp2_with fail
            refine (HT.out _).mono ?_
            rintro e w1 ⟨rfl, rfl⟩
            go_wp2_with fail
            refine (HD.out _).mono ?_
            rintro e w2 ⟨rfl, hd⟩
            go_wp2_with fail
            refine (HSa.out _).mono ?_
            rintro e w3 ⟨rfl, rfl⟩
            go_wp2_with fail
            refine (HSb.out _).mono ?_
            rintro e w3 ⟨rfl, rfl⟩
            go_wp2_with fail
            refine (Hsh.out _).mono ?_
            rintro e w3 ⟨rfl, rfl⟩
            go_wp2_with fail
            refine (Hsh.out _).mono ?_
            rintro e w3 ⟨rfl, rfl⟩
            go_wp2_with fail
            refine (Hsn.out _).mono ?_
            rintro e w3 ⟨rfl, rfl⟩
            go_wp2_with fail
            refine (Hby.out _).mono ?_
            rintro e w3 ⟨rfl, rfl⟩
            go_wp2
            go_ret2
            exact ⟨by rw [Hf.out]; rfl, hd⟩
          | false =>
            have Hf := Lib.hid (show r = sh from by rw [hB]; simp [B.isLf, B.isWh])
            clear hmb
            clear hdv hhs hx4 hx1 hx2 hr hf0 hf1 hB hlo hhi hlob hhib hp31 hpp hpn hpl a1 b1 a0 b0
            go_enter Tryz.func57, Tryz.ntmps57
            go_wp2_with fail
            refine (HT.out _).mono ?_
            rintro e w1 ⟨rfl, rfl⟩
            go_wp2_with fail
            refine (HD.out _).mono ?_
            rintro e w2 ⟨rfl, hd⟩
            go_wp2_with fail
            refine (HSa.out _).mono ?_
            rintro e w3 ⟨rfl, rfl⟩
            go_wp2_with fail
            refine (HSb.out _).mono ?_
            rintro e w3 ⟨rfl, rfl⟩
            go_wp2_with fail
            refine (Hsh.out _).mono ?_
            rintro e w3 ⟨rfl, rfl⟩
            go_wp2_with fail
            refine (Hsh.out _).mono ?_
            rintro e w3 ⟨rfl, rfl⟩
            go_wp2_with fail
            refine (Hsn.out _).mono ?_
            rintro e w3 ⟨rfl, rfl⟩
            go_wp2_with fail
            refine (Hby.out _).mono ?_
            rintro e w3 ⟨rfl, rfl⟩
            go_wp2
            go_ret2
            exact ⟨by rw [Hf.out]; rfl, hd⟩
set_option maxRecDepth 100000 in
set_option maxHeartbeats 4000000 in
theorem rbr4 : RBreaks 4 := by
  intro fl n a b w hf0 hf1 hw
  have HT := Lib.hid (fun X => two_yes 4 n a b X hw (by decide) (by decide))
  obtain ⟨dv, hdv⟩ : ∃ dv, dv = (B.do_ 4 n a b).getD 0 := ⟨_, rfl⟩
  obtain ⟨hs, hhs⟩ : ∃ hs, B.has 4 n a b = hs := ⟨_, rfl⟩
  have HD := Lib.hid (fun X => rdo_any 4 n a b X hw (by decide) (by decide))
  rw [← hdv, hhs] at HD
  have q0 : decide (fl < 0) = false := by simp; omega
  have q7 : decide (7 < fl) = false := by simp; omega
  obtain ⟨e1, e2, e4, e5, e6, e7⟩ := flag_mods hf0 hf1
  obtain ⟨x4, hx4⟩ : ∃ x, decide (fl / 4 % 2 = 1) = x := ⟨_, rfl⟩
  obtain ⟨x1, hx1⟩ : ∃ x, decide (fl % 2 = 1) = x := ⟨_, rfl⟩
  obtain ⟨x2, hx2⟩ : ∃ x, decide (fl / 2 % 2 = 1) = x := ⟨_, rfl⟩
  obtain ⟨r, hr⟩ : ∃ r, B.brk 4 fl n a b = r := ⟨_, rfl⟩
  rw [hr]
  obtain ⟨n0, n1, a0, a1, b0, b1⟩ := hw
  have hpl := B.pw_le n1
  have hn1s : wrap64 (n - 1) = n - 1 := B.wrap64_id (by omega) (by omega)
  have HSa := Lib.hid (fun X => rsign_any n a X n0 n1 a0 (by omega))
  have HSb := Lib.hid (fun X => rsign_any n b X n0 n1 b0 (by omega))
  have Hsn := Lib.hid (fun X => rsize_any n X (by omega) n1)
  have Hsh := Lib.hid (fun X => rsize_any (n - 1) X (by omega) (by omega))
  have hlo := B.sg_lo (n := n) (a := a) (by omega) a0
  have hhi := B.sg_hi (n := n) (a := a) (by omega) a1
  have hlob := B.sg_lo (n := n) (a := b) (by omega) b0
  have hhib := B.sg_hi (n := n) (a := b) (by omega) b1
  have hp31 := B.pw_le31 (n := n - 1) (by omega)
  have hpp := B.pw_pos (n - 1)
  have hpn := B.pw_pos n
  have hneg : wrap64 (-B.pw (n - 1)) = -B.pw (n - 1) := B.wrap64_id (by omega) (by omega)
  have hdec : wrap64 (B.pw (n - 1) - 1) = B.pw (n - 1) - 1 := B.wrap64_id (by omega) (by omega)
  have wa : wrap64 a = a := B.wrap64_id (by omega) (by omega)
  have wb : wrap64 b = b := B.wrap64_id (by omega) (by omega)
  cases hs with
  | false =>
    have Hf := Lib.hid (show r = false from by rw [← hr]; exact brk_none hhs)
    clear hdv hhs hx4 hx1 hx2 hr e1 e2 e4 e5 e6 e7 HSa HSb Hsn Hsh hlo hhi hlob hhib hp31 hpp hpn hneg hdec hpl a1 b1 wa wb hn1s
    go_enter Tryz.func57, Tryz.ntmps57
    go_wp2_with fail
    refine (HT.out _).mono ?_
    rintro e w1 ⟨rfl, rfl⟩
    go_wp2_with fail
    refine (HD.out _).mono ?_
    rintro e w2 ⟨rfl, hd⟩
    go_wp2
    go_ret2
    exact ⟨by rw [Hf.out]; rfl, hd⟩
  | true =>
    have hB := (hr.symm.trans (brk_has hhs))
    rw [hx4, hx1, hx2] at hB
    rw [hx1] at e1 e5
    rw [hx2] at e2 e6
    rw [hx4] at e4 e7
    obtain ⟨l, hl⟩ : ∃ l, (a % b != 0) = l := ⟨_, rfl⟩
    have hlf : B.lf 4 n a b = l := by rw [← hl, Bool.eq_iff_iff]; simp [B.lf]
    have hb0 : (b == 0) = false := by
      have h : b ≠ 0 := by rintro rfl; unfold B.has at hhs; rw [B.do_4, if_pos rfl] at hhs; cases hhs
      simpa using h
    have hb2 : b ≠ 0 := by simpa using hb0
    have hb1 : 1 ≤ b := by omega
    have hl2 : (a.tmod b != 0) = l := by rw [Int.tmod_eq_emod_of_nonneg a0]; exact hl
    cases x4 with
    | false =>
      have Hf := Lib.hid (show r = false from by rw [hB]; simp [B.isLf, B.isWh])
      clear hlf
      clear hdv hhs hx4 hx1 hx2 hr hf0 hf1 hB hlo hhi hlob hhib hp31 hpp hpn hpl a1 b1 a0 b0
      go_enter Tryz.func57, Tryz.ntmps57
      go_wp2_with fail
      refine (HT.out _).mono ?_
      rintro e w1 ⟨rfl, rfl⟩
      go_wp2_with fail
      refine (HD.out _).mono ?_
      rintro e w2 ⟨rfl, hd⟩
      go_wp2_with fail
      refine (HSa.out _).mono ?_
      rintro e w3 ⟨rfl, rfl⟩
      go_wp2_with fail
      refine (HSb.out _).mono ?_
      rintro e w3 ⟨rfl, rfl⟩
      go_wp2_with fail
      refine (Hsh.out _).mono ?_
      rintro e w3 ⟨rfl, rfl⟩
      go_wp2_with fail
      refine (Hsh.out _).mono ?_
      rintro e w3 ⟨rfl, rfl⟩
      go_wp2
      go_ret2
      exact ⟨by rw [Hf.out]; rfl, hd⟩
    | true =>
      have Hf := Lib.hid (show r = l from by rw [hB, hlf]; simp [B.isLf, B.isWh])
      clear hlf
      clear hdv hhs hx4 hx1 hx2 hr hf0 hf1 hB hlo hhi hlob hhib hp31 hpp hpn hpl a1 b1 a0 b0
      go_enter Tryz.func57, Tryz.ntmps57
      go_wp2_with fail
      refine (HT.out _).mono ?_
      rintro e w1 ⟨rfl, rfl⟩
      go_wp2_with fail
      refine (HD.out _).mono ?_
      rintro e w2 ⟨rfl, hd⟩
      go_wp2_with fail
      refine (HSa.out _).mono ?_
      rintro e w3 ⟨rfl, rfl⟩
      go_wp2_with fail
      refine (HSb.out _).mono ?_
      rintro e w3 ⟨rfl, rfl⟩
      go_wp2_with fail
      refine (Hsh.out _).mono ?_
      rintro e w3 ⟨rfl, rfl⟩
      go_wp2_with fail
      refine (Hsh.out _).mono ?_
      rintro e w3 ⟨rfl, rfl⟩
      go_wp2
      go_ret2
      exact ⟨by rw [Hf.out]; rfl, hd⟩
set_option maxRecDepth 100000 in
set_option maxHeartbeats 4000000 in
theorem rbr5 : RBreaks 5 := by
  intro fl n a b w hf0 hf1 hw
  have HT := Lib.hid (fun X => two_yes 5 n a b X hw (by decide) (by decide))
  obtain ⟨dv, hdv⟩ : ∃ dv, dv = (B.do_ 5 n a b).getD 0 := ⟨_, rfl⟩
  obtain ⟨hs, hhs⟩ : ∃ hs, B.has 5 n a b = hs := ⟨_, rfl⟩
  have HD := Lib.hid (fun X => rdo_any 5 n a b X hw (by decide) (by decide))
  rw [← hdv, hhs] at HD
  have q0 : decide (fl < 0) = false := by simp; omega
  have q7 : decide (7 < fl) = false := by simp; omega
  obtain ⟨e1, e2, e4, e5, e6, e7⟩ := flag_mods hf0 hf1
  obtain ⟨x4, hx4⟩ : ∃ x, decide (fl / 4 % 2 = 1) = x := ⟨_, rfl⟩
  obtain ⟨x1, hx1⟩ : ∃ x, decide (fl % 2 = 1) = x := ⟨_, rfl⟩
  obtain ⟨x2, hx2⟩ : ∃ x, decide (fl / 2 % 2 = 1) = x := ⟨_, rfl⟩
  obtain ⟨r, hr⟩ : ∃ r, B.brk 5 fl n a b = r := ⟨_, rfl⟩
  rw [hr]
  obtain ⟨n0, n1, a0, a1, b0, b1⟩ := hw
  have hpl := B.pw_le n1
  have hn1s : wrap64 (n - 1) = n - 1 := B.wrap64_id (by omega) (by omega)
  have HSa := Lib.hid (fun X => rsign_any n a X n0 n1 a0 (by omega))
  have HSb := Lib.hid (fun X => rsign_any n b X n0 n1 b0 (by omega))
  have Hsn := Lib.hid (fun X => rsize_any n X (by omega) n1)
  have Hsh := Lib.hid (fun X => rsize_any (n - 1) X (by omega) (by omega))
  have hlo := B.sg_lo (n := n) (a := a) (by omega) a0
  have hhi := B.sg_hi (n := n) (a := a) (by omega) a1
  have hlob := B.sg_lo (n := n) (a := b) (by omega) b0
  have hhib := B.sg_hi (n := n) (a := b) (by omega) b1
  have hp31 := B.pw_le31 (n := n - 1) (by omega)
  have hpp := B.pw_pos (n - 1)
  have hpn := B.pw_pos n
  have hneg : wrap64 (-B.pw (n - 1)) = -B.pw (n - 1) := B.wrap64_id (by omega) (by omega)
  have hdec : wrap64 (B.pw (n - 1) - 1) = B.pw (n - 1) - 1 := B.wrap64_id (by omega) (by omega)
  have wa : wrap64 a = a := B.wrap64_id (by omega) (by omega)
  have wb : wrap64 b = b := B.wrap64_id (by omega) (by omega)
  cases hs with
  | false =>
    have Hf := Lib.hid (show r = false from by rw [← hr]; exact brk_none hhs)
    clear hdv hhs hx4 hx1 hx2 hr e1 e2 e4 e5 e6 e7 HSa HSb Hsn Hsh hlo hhi hlob hhib hp31 hpp hpn hneg hdec hpl a1 b1 wa wb hn1s
    go_enter Tryz.func57, Tryz.ntmps57
    go_wp2_with fail
    refine (HT.out _).mono ?_
    rintro e w1 ⟨rfl, rfl⟩
    go_wp2_with fail
    refine (HD.out _).mono ?_
    rintro e w2 ⟨rfl, hd⟩
    go_wp2
    go_ret2
    exact ⟨by rw [Hf.out]; rfl, hd⟩
  | true =>
    have hB := (hr.symm.trans (brk_has hhs))
    rw [hx4, hx1, hx2] at hB
    rw [hx1] at e1 e5
    rw [hx2] at e2 e6
    rw [hx4] at e4 e7
    have Hf := Lib.hid (show r = false from by rw [hB]; simp [B.isLf, B.isWh])
    clear hdv hhs hx4 hx1 hx2 hr hf0 hf1 hB hlo hhi hlob hhib hp31 hpp hpn hpl a1 b1 a0 b0
    go_enter Tryz.func57, Tryz.ntmps57
    go_wp2_with fail
    refine (HT.out _).mono ?_
    rintro e w1 ⟨rfl, rfl⟩
    go_wp2_with fail
    refine (HD.out _).mono ?_
    rintro e w2 ⟨rfl, hd⟩
    go_wp2_with fail
    refine (HSa.out _).mono ?_
    rintro e w3 ⟨rfl, rfl⟩
    go_wp2_with fail
    refine (HSb.out _).mono ?_
    rintro e w3 ⟨rfl, rfl⟩
    go_wp2_with fail
    refine (Hsh.out _).mono ?_
    rintro e w3 ⟨rfl, rfl⟩
    go_wp2_with fail
    refine (Hsh.out _).mono ?_
    rintro e w3 ⟨rfl, rfl⟩
    go_wp2
    go_ret2
    exact ⟨by rw [Hf.out]; rfl, hd⟩
set_option maxRecDepth 100000 in
set_option maxHeartbeats 4000000 in
theorem rbr6 : RBreaks 6 := by
  intro fl n a b w hf0 hf1 hw
  have HT := Lib.hid (fun X => two_yes 6 n a b X hw (by decide) (by decide))
  obtain ⟨dv, hdv⟩ : ∃ dv, dv = (B.do_ 6 n a b).getD 0 := ⟨_, rfl⟩
  obtain ⟨hs, hhs⟩ : ∃ hs, B.has 6 n a b = hs := ⟨_, rfl⟩
  have HD := Lib.hid (fun X => rdo_any 6 n a b X hw (by decide) (by decide))
  rw [← hdv, hhs] at HD
  have q0 : decide (fl < 0) = false := by simp; omega
  have q7 : decide (7 < fl) = false := by simp; omega
  obtain ⟨e1, e2, e4, e5, e6, e7⟩ := flag_mods hf0 hf1
  obtain ⟨x4, hx4⟩ : ∃ x, decide (fl / 4 % 2 = 1) = x := ⟨_, rfl⟩
  obtain ⟨x1, hx1⟩ : ∃ x, decide (fl % 2 = 1) = x := ⟨_, rfl⟩
  obtain ⟨x2, hx2⟩ : ∃ x, decide (fl / 2 % 2 = 1) = x := ⟨_, rfl⟩
  obtain ⟨r, hr⟩ : ∃ r, B.brk 6 fl n a b = r := ⟨_, rfl⟩
  rw [hr]
  obtain ⟨n0, n1, a0, a1, b0, b1⟩ := hw
  have hpl := B.pw_le n1
  have hn1s : wrap64 (n - 1) = n - 1 := B.wrap64_id (by omega) (by omega)
  have HSa := Lib.hid (fun X => rsign_any n a X n0 n1 a0 (by omega))
  have HSb := Lib.hid (fun X => rsign_any n b X n0 n1 b0 (by omega))
  have Hsn := Lib.hid (fun X => rsize_any n X (by omega) n1)
  have Hsh := Lib.hid (fun X => rsize_any (n - 1) X (by omega) (by omega))
  have hlo := B.sg_lo (n := n) (a := a) (by omega) a0
  have hhi := B.sg_hi (n := n) (a := a) (by omega) a1
  have hlob := B.sg_lo (n := n) (a := b) (by omega) b0
  have hhib := B.sg_hi (n := n) (a := b) (by omega) b1
  have hp31 := B.pw_le31 (n := n - 1) (by omega)
  have hpp := B.pw_pos (n - 1)
  have hpn := B.pw_pos n
  have hneg : wrap64 (-B.pw (n - 1)) = -B.pw (n - 1) := B.wrap64_id (by omega) (by omega)
  have hdec : wrap64 (B.pw (n - 1) - 1) = B.pw (n - 1) - 1 := B.wrap64_id (by omega) (by omega)
  have wa : wrap64 a = a := B.wrap64_id (by omega) (by omega)
  have wb : wrap64 b = b := B.wrap64_id (by omega) (by omega)
  cases hs with
  | false =>
    have Hf := Lib.hid (show r = false from by rw [← hr]; exact brk_none hhs)
    clear hdv hhs hx4 hx1 hx2 hr e1 e2 e4 e5 e6 e7 HSa HSb Hsn Hsh hlo hhi hlob hhib hp31 hpp hpn hneg hdec hpl a1 b1 wa wb hn1s
    go_enter Tryz.func57, Tryz.ntmps57
    go_wp2_with fail
    refine (HT.out _).mono ?_
    rintro e w1 ⟨rfl, rfl⟩
    go_wp2_with fail
    refine (HD.out _).mono ?_
    rintro e w2 ⟨rfl, hd⟩
    go_wp2
    go_ret2
    exact ⟨by rw [Hf.out]; rfl, hd⟩
  | true =>
    have hB := (hr.symm.trans (brk_has hhs))
    rw [hx4, hx1, hx2] at hB
    rw [hx1] at e1 e5
    rw [hx2] at e2 e6
    rw [hx4] at e4 e7
    obtain ⟨l, hl⟩ : ∃ l, ((B.sg n a).tmod (B.sg n b) != 0) = l := ⟨_, rfl⟩
    have hlf : B.lf 6 n a b = l := by rw [← hl, Bool.eq_iff_iff]; simp [B.lf]
    have hq : ¬ (b = 0 ∨ (B.sg n a = -B.pw (n - 1) ∧ B.sg n b = -1)) := fun h2 => by unfold B.has at hhs; rw [B.do_6, if_pos h2] at hhs; cases hhs
    have hsb : B.sg n b ≠ 0 := fun h => hq (.inl ((B.sg_zero n0 b0 b1).1 h))
    have hsb2 : (B.sg n b == 0) = false := by simpa using hsb
    have htb := B.tmod_bound (B.sg n a) (B.sg n b)
    have htm : wrap64 ((B.sg n a).tmod (B.sg n b)) = (B.sg n a).tmod (B.sg n b) := B.wrap64_id (by omega) (by omega)
    cases x4 with
    | false =>
      have Hf := Lib.hid (show r = false from by rw [hB]; simp [B.isLf, B.isWh])
      clear hlf hq htb
      clear hdv hhs hx4 hx1 hx2 hr hf0 hf1 hB hlo hhi hlob hhib hp31 hpp hpn hpl a1 b1 a0 b0
      go_enter Tryz.func57, Tryz.ntmps57
      go_wp2_with fail
      refine (HT.out _).mono ?_
      rintro e w1 ⟨rfl, rfl⟩
      go_wp2_with fail
      refine (HD.out _).mono ?_
      rintro e w2 ⟨rfl, hd⟩
      go_wp2_with fail
      refine (HSa.out _).mono ?_
      rintro e w3 ⟨rfl, rfl⟩
      go_wp2_with fail
      refine (HSb.out _).mono ?_
      rintro e w3 ⟨rfl, rfl⟩
      go_wp2_with fail
      refine (Hsh.out _).mono ?_
      rintro e w3 ⟨rfl, rfl⟩
      go_wp2_with fail
      refine (Hsh.out _).mono ?_
      rintro e w3 ⟨rfl, rfl⟩
      go_wp2
      go_ret2
      exact ⟨by rw [Hf.out]; rfl, hd⟩
    | true =>
      have Hf := Lib.hid (show r = l from by rw [hB, hlf]; simp [B.isLf, B.isWh])
      clear hlf hq htb
      clear hdv hhs hx4 hx1 hx2 hr hf0 hf1 hB hlo hhi hlob hhib hp31 hpp hpn hpl a1 b1 a0 b0
      go_enter Tryz.func57, Tryz.ntmps57
      go_wp2_with fail
      refine (HT.out _).mono ?_
      rintro e w1 ⟨rfl, rfl⟩
      go_wp2_with fail
      refine (HD.out _).mono ?_
      rintro e w2 ⟨rfl, hd⟩
      go_wp2_with fail
      refine (HSa.out _).mono ?_
      rintro e w3 ⟨rfl, rfl⟩
      go_wp2_with fail
      refine (HSb.out _).mono ?_
      rintro e w3 ⟨rfl, rfl⟩
      go_wp2_with fail
      refine (Hsh.out _).mono ?_
      rintro e w3 ⟨rfl, rfl⟩
      go_wp2_with fail
      refine (Hsh.out _).mono ?_
      rintro e w3 ⟨rfl, rfl⟩
      go_wp2
      go_ret2
      exact ⟨by rw [Hf.out]; rfl, hd⟩
set_option maxRecDepth 100000 in
set_option maxHeartbeats 4000000 in
theorem rbr7 : RBreaks 7 := by
  intro fl n a b w hf0 hf1 hw
  have HT := Lib.hid (fun X => two_yes 7 n a b X hw (by decide) (by decide))
  obtain ⟨dv, hdv⟩ : ∃ dv, dv = (B.do_ 7 n a b).getD 0 := ⟨_, rfl⟩
  obtain ⟨hs, hhs⟩ : ∃ hs, B.has 7 n a b = hs := ⟨_, rfl⟩
  have HD := Lib.hid (fun X => rdo_any 7 n a b X hw (by decide) (by decide))
  rw [← hdv, hhs] at HD
  have q0 : decide (fl < 0) = false := by simp; omega
  have q7 : decide (7 < fl) = false := by simp; omega
  obtain ⟨e1, e2, e4, e5, e6, e7⟩ := flag_mods hf0 hf1
  obtain ⟨x4, hx4⟩ : ∃ x, decide (fl / 4 % 2 = 1) = x := ⟨_, rfl⟩
  obtain ⟨x1, hx1⟩ : ∃ x, decide (fl % 2 = 1) = x := ⟨_, rfl⟩
  obtain ⟨x2, hx2⟩ : ∃ x, decide (fl / 2 % 2 = 1) = x := ⟨_, rfl⟩
  obtain ⟨r, hr⟩ : ∃ r, B.brk 7 fl n a b = r := ⟨_, rfl⟩
  rw [hr]
  obtain ⟨n0, n1, a0, a1, b0, b1⟩ := hw
  have hpl := B.pw_le n1
  have hn1s : wrap64 (n - 1) = n - 1 := B.wrap64_id (by omega) (by omega)
  have HSa := Lib.hid (fun X => rsign_any n a X n0 n1 a0 (by omega))
  have HSb := Lib.hid (fun X => rsign_any n b X n0 n1 b0 (by omega))
  have Hsn := Lib.hid (fun X => rsize_any n X (by omega) n1)
  have Hsh := Lib.hid (fun X => rsize_any (n - 1) X (by omega) (by omega))
  have hlo := B.sg_lo (n := n) (a := a) (by omega) a0
  have hhi := B.sg_hi (n := n) (a := a) (by omega) a1
  have hlob := B.sg_lo (n := n) (a := b) (by omega) b0
  have hhib := B.sg_hi (n := n) (a := b) (by omega) b1
  have hp31 := B.pw_le31 (n := n - 1) (by omega)
  have hpp := B.pw_pos (n - 1)
  have hpn := B.pw_pos n
  have hneg : wrap64 (-B.pw (n - 1)) = -B.pw (n - 1) := B.wrap64_id (by omega) (by omega)
  have hdec : wrap64 (B.pw (n - 1) - 1) = B.pw (n - 1) - 1 := B.wrap64_id (by omega) (by omega)
  have wa : wrap64 a = a := B.wrap64_id (by omega) (by omega)
  have wb : wrap64 b = b := B.wrap64_id (by omega) (by omega)
  cases hs with
  | false =>
    have Hf := Lib.hid (show r = false from by rw [← hr]; exact brk_none hhs)
    clear hdv hhs hx4 hx1 hx2 hr e1 e2 e4 e5 e6 e7 HSa HSb Hsn Hsh hlo hhi hlob hhib hp31 hpp hpn hneg hdec hpl a1 b1 wa wb hn1s
    go_enter Tryz.func57, Tryz.ntmps57
    go_wp2_with fail
    refine (HT.out _).mono ?_
    rintro e w1 ⟨rfl, rfl⟩
    go_wp2_with fail
    refine (HD.out _).mono ?_
    rintro e w2 ⟨rfl, hd⟩
    go_wp2
    go_ret2
    exact ⟨by rw [Hf.out]; rfl, hd⟩
  | true =>
    have hB := (hr.symm.trans (brk_has hhs))
    rw [hx4, hx1, hx2] at hB
    rw [hx1] at e1 e5
    rw [hx2] at e2 e6
    rw [hx4] at e4 e7
    have Hf := Lib.hid (show r = false from by rw [hB]; simp [B.isLf, B.isWh])
    clear hdv hhs hx4 hx1 hx2 hr hf0 hf1 hB hlo hhi hlob hhib hp31 hpp hpn hpl a1 b1 a0 b0
    go_enter Tryz.func57, Tryz.ntmps57
    go_wp2_with fail
    refine (HT.out _).mono ?_
    rintro e w1 ⟨rfl, rfl⟩
    go_wp2_with fail
    refine (HD.out _).mono ?_
    rintro e w2 ⟨rfl, hd⟩
    go_wp2_with fail
    refine (HSa.out _).mono ?_
    rintro e w3 ⟨rfl, rfl⟩
    go_wp2_with fail
    refine (HSb.out _).mono ?_
    rintro e w3 ⟨rfl, rfl⟩
    go_wp2_with fail
    refine (Hsh.out _).mono ?_
    rintro e w3 ⟨rfl, rfl⟩
    go_wp2_with fail
    refine (Hsh.out _).mono ?_
    rintro e w3 ⟨rfl, rfl⟩
    go_wp2
    go_ret2
    exact ⟨by rw [Hf.out]; rfl, hd⟩
set_option maxRecDepth 100000 in
set_option maxHeartbeats 4000000 in
theorem rbr8 : RBreaks 8 := by
  intro fl n a b w hf0 hf1 hw
  have HT := Lib.hid (fun X => two_yes 8 n a b X hw (by decide) (by decide))
  obtain ⟨dv, hdv⟩ : ∃ dv, dv = (B.do_ 8 n a b).getD 0 := ⟨_, rfl⟩
  obtain ⟨hs, hhs⟩ : ∃ hs, B.has 8 n a b = hs := ⟨_, rfl⟩
  have HD := Lib.hid (fun X => rdo_any 8 n a b X hw (by decide) (by decide))
  rw [← hdv, hhs] at HD
  have q0 : decide (fl < 0) = false := by simp; omega
  have q7 : decide (7 < fl) = false := by simp; omega
  obtain ⟨e1, e2, e4, e5, e6, e7⟩ := flag_mods hf0 hf1
  obtain ⟨x4, hx4⟩ : ∃ x, decide (fl / 4 % 2 = 1) = x := ⟨_, rfl⟩
  obtain ⟨x1, hx1⟩ : ∃ x, decide (fl % 2 = 1) = x := ⟨_, rfl⟩
  obtain ⟨x2, hx2⟩ : ∃ x, decide (fl / 2 % 2 = 1) = x := ⟨_, rfl⟩
  obtain ⟨r, hr⟩ : ∃ r, B.brk 8 fl n a b = r := ⟨_, rfl⟩
  rw [hr]
  obtain ⟨n0, n1, a0, a1, b0, b1⟩ := hw
  have hpl := B.pw_le n1
  have hn1s : wrap64 (n - 1) = n - 1 := B.wrap64_id (by omega) (by omega)
  have HSa := Lib.hid (fun X => rsign_any n a X n0 n1 a0 (by omega))
  have HSb := Lib.hid (fun X => rsign_any n b X n0 n1 b0 (by omega))
  have Hsn := Lib.hid (fun X => rsize_any n X (by omega) n1)
  have Hsh := Lib.hid (fun X => rsize_any (n - 1) X (by omega) (by omega))
  have hlo := B.sg_lo (n := n) (a := a) (by omega) a0
  have hhi := B.sg_hi (n := n) (a := a) (by omega) a1
  have hlob := B.sg_lo (n := n) (a := b) (by omega) b0
  have hhib := B.sg_hi (n := n) (a := b) (by omega) b1
  have hp31 := B.pw_le31 (n := n - 1) (by omega)
  have hpp := B.pw_pos (n - 1)
  have hpn := B.pw_pos n
  have hneg : wrap64 (-B.pw (n - 1)) = -B.pw (n - 1) := B.wrap64_id (by omega) (by omega)
  have hdec : wrap64 (B.pw (n - 1) - 1) = B.pw (n - 1) - 1 := B.wrap64_id (by omega) (by omega)
  have wa : wrap64 a = a := B.wrap64_id (by omega) (by omega)
  have wb : wrap64 b = b := B.wrap64_id (by omega) (by omega)
  cases hs with
  | false =>
    have Hf := Lib.hid (show r = false from by rw [← hr]; exact brk_none hhs)
    clear hdv hhs hx4 hx1 hx2 hr e1 e2 e4 e5 e6 e7 HSa HSb Hsn Hsh hlo hhi hlob hhib hp31 hpp hpn hneg hdec hpl a1 b1 wa wb hn1s
    go_enter Tryz.func57, Tryz.ntmps57
    go_wp2_with fail
    refine (HT.out _).mono ?_
    rintro e w1 ⟨rfl, rfl⟩
    go_wp2_with fail
    refine (HD.out _).mono ?_
    rintro e w2 ⟨rfl, hd⟩
    go_wp2
    go_ret2
    exact ⟨by rw [Hf.out]; rfl, hd⟩
  | true =>
    have hB := (hr.symm.trans (brk_has hhs))
    rw [hx4, hx1, hx2] at hB
    rw [hx1] at e1 e5
    rw [hx2] at e2 e6
    rw [hx4] at e4 e7
    have Hf := Lib.hid (show r = false from by rw [hB]; simp [B.isLf, B.isWh])
    clear hdv hhs hx4 hx1 hx2 hr hf0 hf1 hB hlo hhi hlob hhib hp31 hpp hpn hpl a1 b1 a0 b0
    go_enter Tryz.func57, Tryz.ntmps57
    go_wp2_with fail
    refine (HT.out _).mono ?_
    rintro e w1 ⟨rfl, rfl⟩
    go_wp2_with fail
    refine (HD.out _).mono ?_
    rintro e w2 ⟨rfl, hd⟩
    go_wp2_with fail
    refine (HSa.out _).mono ?_
    rintro e w3 ⟨rfl, rfl⟩
    go_wp2_with fail
    refine (HSb.out _).mono ?_
    rintro e w3 ⟨rfl, rfl⟩
    go_wp2_with fail
    refine (Hsh.out _).mono ?_
    rintro e w3 ⟨rfl, rfl⟩
    go_wp2_with fail
    refine (Hsh.out _).mono ?_
    rintro e w3 ⟨rfl, rfl⟩
    go_wp2
    go_ret2
    exact ⟨by rw [Hf.out]; rfl, hd⟩
set_option maxRecDepth 100000 in
set_option maxHeartbeats 4000000 in
theorem rbr9 : RBreaks 9 := by
  intro fl n a b w hf0 hf1 hw
  have HT := Lib.hid (fun X => two_yes 9 n a b X hw (by decide) (by decide))
  obtain ⟨dv, hdv⟩ : ∃ dv, dv = (B.do_ 9 n a b).getD 0 := ⟨_, rfl⟩
  obtain ⟨hs, hhs⟩ : ∃ hs, B.has 9 n a b = hs := ⟨_, rfl⟩
  have HD := Lib.hid (fun X => rdo_any 9 n a b X hw (by decide) (by decide))
  rw [← hdv, hhs] at HD
  have q0 : decide (fl < 0) = false := by simp; omega
  have q7 : decide (7 < fl) = false := by simp; omega
  obtain ⟨e1, e2, e4, e5, e6, e7⟩ := flag_mods hf0 hf1
  obtain ⟨x4, hx4⟩ : ∃ x, decide (fl / 4 % 2 = 1) = x := ⟨_, rfl⟩
  obtain ⟨x1, hx1⟩ : ∃ x, decide (fl % 2 = 1) = x := ⟨_, rfl⟩
  obtain ⟨x2, hx2⟩ : ∃ x, decide (fl / 2 % 2 = 1) = x := ⟨_, rfl⟩
  obtain ⟨r, hr⟩ : ∃ r, B.brk 9 fl n a b = r := ⟨_, rfl⟩
  rw [hr]
  obtain ⟨n0, n1, a0, a1, b0, b1⟩ := hw
  have hpl := B.pw_le n1
  have hn1s : wrap64 (n - 1) = n - 1 := B.wrap64_id (by omega) (by omega)
  have HSa := Lib.hid (fun X => rsign_any n a X n0 n1 a0 (by omega))
  have HSb := Lib.hid (fun X => rsign_any n b X n0 n1 b0 (by omega))
  have Hsn := Lib.hid (fun X => rsize_any n X (by omega) n1)
  have Hsh := Lib.hid (fun X => rsize_any (n - 1) X (by omega) (by omega))
  have hlo := B.sg_lo (n := n) (a := a) (by omega) a0
  have hhi := B.sg_hi (n := n) (a := a) (by omega) a1
  have hlob := B.sg_lo (n := n) (a := b) (by omega) b0
  have hhib := B.sg_hi (n := n) (a := b) (by omega) b1
  have hp31 := B.pw_le31 (n := n - 1) (by omega)
  have hpp := B.pw_pos (n - 1)
  have hpn := B.pw_pos n
  have hneg : wrap64 (-B.pw (n - 1)) = -B.pw (n - 1) := B.wrap64_id (by omega) (by omega)
  have hdec : wrap64 (B.pw (n - 1) - 1) = B.pw (n - 1) - 1 := B.wrap64_id (by omega) (by omega)
  have wa : wrap64 a = a := B.wrap64_id (by omega) (by omega)
  have wb : wrap64 b = b := B.wrap64_id (by omega) (by omega)
  cases hs with
  | false =>
    have Hf := Lib.hid (show r = false from by rw [← hr]; exact brk_none hhs)
    clear hdv hhs hx4 hx1 hx2 hr e1 e2 e4 e5 e6 e7 HSa HSb Hsn Hsh hlo hhi hlob hhib hp31 hpp hpn hneg hdec hpl a1 b1 wa wb hn1s
    go_enter Tryz.func57, Tryz.ntmps57
    go_wp2_with fail
    refine (HT.out _).mono ?_
    rintro e w1 ⟨rfl, rfl⟩
    go_wp2_with fail
    refine (HD.out _).mono ?_
    rintro e w2 ⟨rfl, hd⟩
    go_wp2
    go_ret2
    exact ⟨by rw [Hf.out]; rfl, hd⟩
  | true =>
    have hB := (hr.symm.trans (brk_has hhs))
    rw [hx4, hx1, hx2] at hB
    rw [hx1] at e1 e5
    rw [hx2] at e2 e6
    rw [hx4] at e4 e7
    have Hf := Lib.hid (show r = false from by rw [hB]; simp [B.isLf, B.isWh])
    clear hdv hhs hx4 hx1 hx2 hr hf0 hf1 hB hlo hhi hlob hhib hp31 hpp hpn hpl a1 b1 a0 b0
    go_enter Tryz.func57, Tryz.ntmps57
    go_wp2_with fail
    refine (HT.out _).mono ?_
    rintro e w1 ⟨rfl, rfl⟩
    go_wp2_with fail
    refine (HD.out _).mono ?_
    rintro e w2 ⟨rfl, hd⟩
    go_wp2_with fail
    refine (HSa.out _).mono ?_
    rintro e w3 ⟨rfl, rfl⟩
    go_wp2_with fail
    refine (HSb.out _).mono ?_
    rintro e w3 ⟨rfl, rfl⟩
    go_wp2_with fail
    refine (Hsh.out _).mono ?_
    rintro e w3 ⟨rfl, rfl⟩
    go_wp2_with fail
    refine (Hsh.out _).mono ?_
    rintro e w3 ⟨rfl, rfl⟩
    go_wp2
    go_ret2
    exact ⟨by rw [Hf.out]; rfl, hd⟩
set_option maxRecDepth 100000 in
set_option maxHeartbeats 4000000 in
theorem rbr10 : RBreaks 10 := by
  intro fl n a b w hf0 hf1 hw
  have HT := Lib.hid (fun X => two_yes 10 n a b X hw (by decide) (by decide))
  obtain ⟨dv, hdv⟩ : ∃ dv, dv = (B.do_ 10 n a b).getD 0 := ⟨_, rfl⟩
  obtain ⟨hs, hhs⟩ : ∃ hs, B.has 10 n a b = hs := ⟨_, rfl⟩
  have HD := Lib.hid (fun X => rdo_any 10 n a b X hw (by decide) (by decide))
  rw [← hdv, hhs] at HD
  have q0 : decide (fl < 0) = false := by simp; omega
  have q7 : decide (7 < fl) = false := by simp; omega
  obtain ⟨e1, e2, e4, e5, e6, e7⟩ := flag_mods hf0 hf1
  obtain ⟨x4, hx4⟩ : ∃ x, decide (fl / 4 % 2 = 1) = x := ⟨_, rfl⟩
  obtain ⟨x1, hx1⟩ : ∃ x, decide (fl % 2 = 1) = x := ⟨_, rfl⟩
  obtain ⟨x2, hx2⟩ : ∃ x, decide (fl / 2 % 2 = 1) = x := ⟨_, rfl⟩
  obtain ⟨r, hr⟩ : ∃ r, B.brk 10 fl n a b = r := ⟨_, rfl⟩
  rw [hr]
  obtain ⟨n0, n1, a0, a1, b0, b1⟩ := hw
  have hpl := B.pw_le n1
  have hn1s : wrap64 (n - 1) = n - 1 := B.wrap64_id (by omega) (by omega)
  have HSa := Lib.hid (fun X => rsign_any n a X n0 n1 a0 (by omega))
  have HSb := Lib.hid (fun X => rsign_any n b X n0 n1 b0 (by omega))
  have Hsn := Lib.hid (fun X => rsize_any n X (by omega) n1)
  have Hsh := Lib.hid (fun X => rsize_any (n - 1) X (by omega) (by omega))
  have hlo := B.sg_lo (n := n) (a := a) (by omega) a0
  have hhi := B.sg_hi (n := n) (a := a) (by omega) a1
  have hlob := B.sg_lo (n := n) (a := b) (by omega) b0
  have hhib := B.sg_hi (n := n) (a := b) (by omega) b1
  have hp31 := B.pw_le31 (n := n - 1) (by omega)
  have hpp := B.pw_pos (n - 1)
  have hpn := B.pw_pos n
  have hneg : wrap64 (-B.pw (n - 1)) = -B.pw (n - 1) := B.wrap64_id (by omega) (by omega)
  have hdec : wrap64 (B.pw (n - 1) - 1) = B.pw (n - 1) - 1 := B.wrap64_id (by omega) (by omega)
  have wa : wrap64 a = a := B.wrap64_id (by omega) (by omega)
  have wb : wrap64 b = b := B.wrap64_id (by omega) (by omega)
  cases hs with
  | false =>
    have Hf := Lib.hid (show r = false from by rw [← hr]; exact brk_none hhs)
    clear hdv hhs hx4 hx1 hx2 hr e1 e2 e4 e5 e6 e7 HSa HSb Hsn Hsh hlo hhi hlob hhib hp31 hpp hpn hneg hdec hpl a1 b1 wa wb hn1s
    go_enter Tryz.func57, Tryz.ntmps57
    go_wp2_with fail
    refine (HT.out _).mono ?_
    rintro e w1 ⟨rfl, rfl⟩
    go_wp2_with fail
    refine (HD.out _).mono ?_
    rintro e w2 ⟨rfl, hd⟩
    go_wp2
    go_ret2
    exact ⟨by rw [Hf.out]; rfl, hd⟩
  | true =>
    have hB := (hr.symm.trans (brk_has hhs))
    rw [hx4, hx1, hx2] at hB
    rw [hx1] at e1 e5
    rw [hx2] at e2 e6
    rw [hx4] at e4 e7
    have Hf := Lib.hid (show r = false from by rw [hB]; simp [B.isLf, B.isWh])
    clear hdv hhs hx4 hx1 hx2 hr hf0 hf1 hB hlo hhi hlob hhib hp31 hpp hpn hpl a1 b1 a0 b0
    go_enter Tryz.func57, Tryz.ntmps57
    go_wp2_with fail
    refine (HT.out _).mono ?_
    rintro e w1 ⟨rfl, rfl⟩
    go_wp2_with fail
    refine (HD.out _).mono ?_
    rintro e w2 ⟨rfl, hd⟩
    go_wp2_with fail
    refine (HSa.out _).mono ?_
    rintro e w3 ⟨rfl, rfl⟩
    go_wp2_with fail
    refine (HSb.out _).mono ?_
    rintro e w3 ⟨rfl, rfl⟩
    go_wp2_with fail
    refine (Hsh.out _).mono ?_
    rintro e w3 ⟨rfl, rfl⟩
    go_wp2_with fail
    refine (Hsh.out _).mono ?_
    rintro e w3 ⟨rfl, rfl⟩
    go_wp2
    go_ret2
    exact ⟨by rw [Hf.out]; rfl, hd⟩
set_option maxRecDepth 100000 in
set_option maxHeartbeats 4000000 in
theorem rbr11 : RBreaks 11 := by
  intro fl n a b w hf0 hf1 hw
  have HT := Lib.hid (fun X => two_yes 11 n a b X hw (by decide) (by decide))
  obtain ⟨dv, hdv⟩ : ∃ dv, dv = (B.do_ 11 n a b).getD 0 := ⟨_, rfl⟩
  obtain ⟨hs, hhs⟩ : ∃ hs, B.has 11 n a b = hs := ⟨_, rfl⟩
  have HD := Lib.hid (fun X => rdo_any 11 n a b X hw (by decide) (by decide))
  rw [← hdv, hhs] at HD
  have q0 : decide (fl < 0) = false := by simp; omega
  have q7 : decide (7 < fl) = false := by simp; omega
  obtain ⟨e1, e2, e4, e5, e6, e7⟩ := flag_mods hf0 hf1
  obtain ⟨x4, hx4⟩ : ∃ x, decide (fl / 4 % 2 = 1) = x := ⟨_, rfl⟩
  obtain ⟨x1, hx1⟩ : ∃ x, decide (fl % 2 = 1) = x := ⟨_, rfl⟩
  obtain ⟨x2, hx2⟩ : ∃ x, decide (fl / 2 % 2 = 1) = x := ⟨_, rfl⟩
  obtain ⟨r, hr⟩ : ∃ r, B.brk 11 fl n a b = r := ⟨_, rfl⟩
  rw [hr]
  obtain ⟨n0, n1, a0, a1, b0, b1⟩ := hw
  have hpl := B.pw_le n1
  have hn1s : wrap64 (n - 1) = n - 1 := B.wrap64_id (by omega) (by omega)
  have HSa := Lib.hid (fun X => rsign_any n a X n0 n1 a0 (by omega))
  have HSb := Lib.hid (fun X => rsign_any n b X n0 n1 b0 (by omega))
  have Hsn := Lib.hid (fun X => rsize_any n X (by omega) n1)
  have Hsh := Lib.hid (fun X => rsize_any (n - 1) X (by omega) (by omega))
  have hlo := B.sg_lo (n := n) (a := a) (by omega) a0
  have hhi := B.sg_hi (n := n) (a := a) (by omega) a1
  have hlob := B.sg_lo (n := n) (a := b) (by omega) b0
  have hhib := B.sg_hi (n := n) (a := b) (by omega) b1
  have hp31 := B.pw_le31 (n := n - 1) (by omega)
  have hpp := B.pw_pos (n - 1)
  have hpn := B.pw_pos n
  have hneg : wrap64 (-B.pw (n - 1)) = -B.pw (n - 1) := B.wrap64_id (by omega) (by omega)
  have hdec : wrap64 (B.pw (n - 1) - 1) = B.pw (n - 1) - 1 := B.wrap64_id (by omega) (by omega)
  have wa : wrap64 a = a := B.wrap64_id (by omega) (by omega)
  have wb : wrap64 b = b := B.wrap64_id (by omega) (by omega)
  cases hs with
  | false =>
    have Hf := Lib.hid (show r = false from by rw [← hr]; exact brk_none hhs)
    clear hdv hhs hx4 hx1 hx2 hr e1 e2 e4 e5 e6 e7 HSa HSb Hsn Hsh hlo hhi hlob hhib hp31 hpp hpn hneg hdec hpl a1 b1 wa wb hn1s
    go_enter Tryz.func57, Tryz.ntmps57
    go_wp2_with fail
    refine (HT.out _).mono ?_
    rintro e w1 ⟨rfl, rfl⟩
    go_wp2_with fail
    refine (HD.out _).mono ?_
    rintro e w2 ⟨rfl, hd⟩
    go_wp2
    go_ret2
    exact ⟨by rw [Hf.out]; rfl, hd⟩
  | true =>
    have hB := (hr.symm.trans (brk_has hhs))
    rw [hx4, hx1, hx2] at hB
    rw [hx1] at e1 e5
    rw [hx2] at e2 e6
    rw [hx4] at e4 e7
    have hbn : b ≤ 31 := by
      by_cases hb : n ≤ b
      · unfold B.has at hhs; rw [B.do_11, if_pos hb] at hhs; cases hhs
      · omega
    have Hsb := Lib.hid (fun X => rsize_any b X b0 (by omega))
    have hpb := B.pw_pos b
    have hpb31 := B.pw_le31 hbn
    have hU : B.out 0 (B.pw n - 1) (B.wh 11 a b) = decide (B.pw n - 1 < a * B.pw b) := by show B.out 0 (B.pw n - 1) (a * B.pw b) = _; have h0 := Int.mul_nonneg a0 (show 0 ≤ B.pw b by omega); unfold B.out; rw [Bool.eq_iff_iff]; simp only [Bool.or_eq_true, decide_eq_true_eq]; omega
    have hS : B.out (-B.pw (n - 1)) (B.pw (n - 1) - 1) (B.wh 11 (B.sg n a) (if (11 : Int) = 11 then b else B.sg n b)) = (decide ((B.sg n a * B.pw b) < -B.pw (n - 1)) || decide (B.pw (n - 1) - 1 < (B.sg n a * B.pw b))) := rfl
    rw [hU, hS] at hB
    have hm1 : B.sg n a * B.pw b ≤ 2147483648 * B.pw b := Int.mul_le_mul_of_nonneg_right (by omega) (by omega)
    have hm2 : (-2147483648) * B.pw b ≤ B.sg n a * B.pw b := Int.mul_le_mul_of_nonneg_right (by omega) (by omega)
    have hww : wrap64 (B.sg n a * B.pw b) = B.sg n a * B.pw b := B.wrap64_id (by omega) (by omega)
    have hdn : wrap64 (B.pw n - 1) = B.pw n - 1 := B.wrap64_id (by omega) (by omega)
    have Hby := Lib.hid (fun X => rbeyond_any a (B.pw b) (B.pw n - 1) X a0 (by omega) (by omega) (by omega) (by omega))
    obtain ⟨u, hu⟩ : ∃ u, decide (B.pw n - 1 < a * B.pw b) = u := ⟨_, rfl⟩
    obtain ⟨sl, hsl⟩ : ∃ s, decide ((B.sg n a * B.pw b) < -B.pw (n - 1)) = s := ⟨_, rfl⟩
    obtain ⟨sh, hsh⟩ : ∃ s, decide (B.pw (n - 1) - 1 < (B.sg n a * B.pw b)) = s := ⟨_, rfl⟩
    rw [hu, hsl, hsh] at hB
    rw [hu] at Hby
    clear hU hS
    cases x1 with
    | false =>
      cases x2 with
      | false =>
        have Hf := Lib.hid (show r = false from by rw [hB]; simp [B.isLf, B.isWh])
        clear hm1 hm2 hbn hpb hpb31
        clear hdv hhs hx4 hx1 hx2 hr hf0 hf1 hB hlo hhi hlob hhib hp31 hpp hpn hpl a1 b1 a0 b0
        go_enter Tryz.func57, Tryz.ntmps57
        go_wp2_with fail
        refine (HT.out _).mono ?_
        rintro e w1 ⟨rfl, rfl⟩
        go_wp2_with fail
        refine (HD.out _).mono ?_
        rintro e w2 ⟨rfl, hd⟩
        go_wp2_with fail
        refine (HSa.out _).mono ?_
        rintro e w3 ⟨rfl, rfl⟩
        go_wp2_with fail
        refine (HSb.out _).mono ?_
        rintro e w3 ⟨rfl, rfl⟩
        go_wp2_with fail
        refine (Hsh.out _).mono ?_
        rintro e w3 ⟨rfl, rfl⟩
        go_wp2_with fail
        refine (Hsh.out _).mono ?_
        rintro e w3 ⟨rfl, rfl⟩
        go_wp2_with fail
        refine (Hsb.out _).mono ?_
        rintro e w3 ⟨rfl, rfl⟩
        go_wp2
        go_ret2
        exact ⟨by rw [Hf.out]; rfl, hd⟩
      | true =>
        cases sl with
        | true =>
          have Hf := Lib.hid (show r = true from by rw [hB]; simp [B.isLf, B.isWh])
          clear hm1 hm2 hbn hpb hpb31
          clear hdv hhs hx4 hx1 hx2 hr hf0 hf1 hB hlo hhi hlob hhib hp31 hpp hpn hpl a1 b1 a0 b0
          go_enter Tryz.func57, Tryz.ntmps57
          go_wp2_with fail
          refine (HT.out _).mono ?_
          rintro e w1 ⟨rfl, rfl⟩
          go_wp2_with fail
          refine (HD.out _).mono ?_
          rintro e w2 ⟨rfl, hd⟩
          go_wp2_with fail
          refine (HSa.out _).mono ?_
          rintro e w3 ⟨rfl, rfl⟩
          go_wp2_with fail
          refine (HSb.out _).mono ?_
          rintro e w3 ⟨rfl, rfl⟩
          go_wp2_with fail
          refine (Hsh.out _).mono ?_
          rintro e w3 ⟨rfl, rfl⟩
          go_wp2_with fail
          refine (Hsh.out _).mono ?_
          rintro e w3 ⟨rfl, rfl⟩
          go_wp2_with fail
          refine (Hsb.out _).mono ?_
          rintro e w3 ⟨rfl, rfl⟩
          go_wp2
          go_ret2
          exact ⟨by rw [Hf.out]; rfl, hd⟩
        | false =>
          have Hf := Lib.hid (show r = sh from by rw [hB]; simp [B.isLf, B.isWh])
          clear hm1 hm2 hbn hpb hpb31
          clear hdv hhs hx4 hx1 hx2 hr hf0 hf1 hB hlo hhi hlob hhib hp31 hpp hpn hpl a1 b1 a0 b0
          go_enter Tryz.func57, Tryz.ntmps57
          go_wp2_with fail
          refine (HT.out _).mono ?_
          rintro e w1 ⟨rfl, rfl⟩
          go_wp2_with fail
          refine (HD.out _).mono ?_
          rintro e w2 ⟨rfl, hd⟩
          go_wp2_with fail
          refine (HSa.out _).mono ?_
          rintro e w3 ⟨rfl, rfl⟩
          go_wp2_with fail
          refine (HSb.out _).mono ?_
          rintro e w3 ⟨rfl, rfl⟩
          go_wp2_with fail
          refine (Hsh.out _).mono ?_
          rintro e w3 ⟨rfl, rfl⟩
          go_wp2_with fail
          refine (Hsh.out _).mono ?_
          rintro e w3 ⟨rfl, rfl⟩
          go_wp2_with fail
          refine (Hsb.out _).mono ?_
          rintro e w3 ⟨rfl, rfl⟩
          go_wp2
          go_ret2
          exact ⟨by rw [Hf.out]; rfl, hd⟩
    | true =>
      cases u with
      | true =>
        have Hf := Lib.hid (show r = true from by rw [hB]; simp [B.isLf, B.isWh])
        clear hm1 hm2 hbn hpb hpb31
        clear hdv hhs hx4 hx1 hx2 hr hf0 hf1 hB hlo hhi hlob hhib hp31 hpp hpn hpl a1 b1 a0 b0
        go_enter Tryz.func57, Tryz.ntmps57
        go_wp2_with fail
        refine (HT.out _).mono ?_
        rintro e w1 ⟨rfl, rfl⟩
        go_wp2_with fail
        refine (HD.out _).mono ?_
        rintro e w2 ⟨rfl, hd⟩
        go_wp2_with fail
        refine (HSa.out _).mono ?_
        rintro e w3 ⟨rfl, rfl⟩
        go_wp2_with fail
        refine (HSb.out _).mono ?_
        rintro e w3 ⟨rfl, rfl⟩
        go_wp2_with fail
        refine (Hsh.out _).mono ?_
        rintro e w3 ⟨rfl, rfl⟩
        go_wp2_with fail
        refine (Hsh.out _).mono ?_
        rintro e w3 ⟨rfl, rfl⟩
        go_wp2_with fail
        refine (Hsb.out _).mono ?_
        rintro e w3 ⟨rfl, rfl⟩
        go_wp2_with fail
        refine (Hsn.out _).mono ?_
        rintro e w3 ⟨rfl, rfl⟩
        go_wp2_with fail
        refine (Hby.out _).mono ?_
        rintro e w3 ⟨rfl, rfl⟩
        go_wp2
        go_ret2
        exact ⟨by rw [Hf.out]; rfl, hd⟩
      | false =>
        cases x2 with
        | false =>
          have Hf := Lib.hid (show r = false from by rw [hB]; simp [B.isLf, B.isWh])
          clear hm1 hm2 hbn hpb hpb31
          clear hdv hhs hx4 hx1 hx2 hr hf0 hf1 hB hlo hhi hlob hhib hp31 hpp hpn hpl a1 b1 a0 b0
          go_enter Tryz.func57, Tryz.ntmps57
          go_wp2_with fail
          refine (HT.out _).mono ?_
          rintro e w1 ⟨rfl, rfl⟩
          go_wp2_with fail
          refine (HD.out _).mono ?_
          rintro e w2 ⟨rfl, hd⟩
          go_wp2_with fail
          refine (HSa.out _).mono ?_
          rintro e w3 ⟨rfl, rfl⟩
          go_wp2_with fail
          refine (HSb.out _).mono ?_
          rintro e w3 ⟨rfl, rfl⟩
          go_wp2_with fail
          refine (Hsh.out _).mono ?_
          rintro e w3 ⟨rfl, rfl⟩
          go_wp2_with fail
          refine (Hsh.out _).mono ?_
          rintro e w3 ⟨rfl, rfl⟩
          go_wp2_with fail
          refine (Hsb.out _).mono ?_
          rintro e w3 ⟨rfl, rfl⟩
          go_wp2_with fail
          refine (Hsn.out _).mono ?_
          rintro e w3 ⟨rfl, rfl⟩
          go_wp2_with fail
          refine (Hby.out _).mono ?_
          rintro e w3 ⟨rfl, rfl⟩
          go_wp2
          go_ret2
          exact ⟨by rw [Hf.out]; rfl, hd⟩
        | true =>
          cases sl with
          | true =>
            have Hf := Lib.hid (show r = true from by rw [hB]; simp [B.isLf, B.isWh])
            clear hm1 hm2 hbn hpb hpb31
            clear hdv hhs hx4 hx1 hx2 hr hf0 hf1 hB hlo hhi hlob hhib hp31 hpp hpn hpl a1 b1 a0 b0
            go_enter Tryz.func57, Tryz.ntmps57
            go_wp2_with fail
            refine (HT.out _).mono ?_
            rintro e w1 ⟨rfl, rfl⟩
            go_wp2_with fail
            refine (HD.out _).mono ?_
            rintro e w2 ⟨rfl, hd⟩
            go_wp2_with fail
            refine (HSa.out _).mono ?_
            rintro e w3 ⟨rfl, rfl⟩
            go_wp2_with fail
            refine (HSb.out _).mono ?_
            rintro e w3 ⟨rfl, rfl⟩
            go_wp2_with fail
            refine (Hsh.out _).mono ?_
            rintro e w3 ⟨rfl, rfl⟩
            go_wp2_with fail
            refine (Hsh.out _).mono ?_
            rintro e w3 ⟨rfl, rfl⟩
            go_wp2_with fail
            refine (Hsb.out _).mono ?_
            rintro e w3 ⟨rfl, rfl⟩
            go_wp2_with fail
            refine (Hsn.out _).mono ?_
            rintro e w3 ⟨rfl, rfl⟩
            go_wp2_with fail
            refine (Hby.out _).mono ?_
            rintro e w3 ⟨rfl, rfl⟩
            go_wp2
            go_ret2
            exact ⟨by rw [Hf.out]; rfl, hd⟩
          | false =>
            have Hf := Lib.hid (show r = sh from by rw [hB]; simp [B.isLf, B.isWh])
            clear hm1 hm2 hbn hpb hpb31
            clear hdv hhs hx4 hx1 hx2 hr hf0 hf1 hB hlo hhi hlob hhib hp31 hpp hpn hpl a1 b1 a0 b0
            go_enter Tryz.func57, Tryz.ntmps57
            go_wp2_with fail
            refine (HT.out _).mono ?_
            rintro e w1 ⟨rfl, rfl⟩
            go_wp2_with fail
            refine (HD.out _).mono ?_
            rintro e w2 ⟨rfl, hd⟩
            go_wp2_with fail
            refine (HSa.out _).mono ?_
            rintro e w3 ⟨rfl, rfl⟩
            go_wp2_with fail
            refine (HSb.out _).mono ?_
            rintro e w3 ⟨rfl, rfl⟩
            go_wp2_with fail
            refine (Hsh.out _).mono ?_
            rintro e w3 ⟨rfl, rfl⟩
            go_wp2_with fail
            refine (Hsh.out _).mono ?_
            rintro e w3 ⟨rfl, rfl⟩
            go_wp2_with fail
            refine (Hsb.out _).mono ?_
            rintro e w3 ⟨rfl, rfl⟩
            go_wp2_with fail
            refine (Hsn.out _).mono ?_
            rintro e w3 ⟨rfl, rfl⟩
            go_wp2_with fail
            refine (Hby.out _).mono ?_
            rintro e w3 ⟨rfl, rfl⟩
            go_wp2
            go_ret2
            exact ⟨by rw [Hf.out]; rfl, hd⟩
set_option maxRecDepth 100000 in
set_option maxHeartbeats 4000000 in
theorem rbr12 : RBreaks 12 := by
  intro fl n a b w hf0 hf1 hw
  have HT := Lib.hid (fun X => two_yes 12 n a b X hw (by decide) (by decide))
  obtain ⟨dv, hdv⟩ : ∃ dv, dv = (B.do_ 12 n a b).getD 0 := ⟨_, rfl⟩
  obtain ⟨hs, hhs⟩ : ∃ hs, B.has 12 n a b = hs := ⟨_, rfl⟩
  have HD := Lib.hid (fun X => rdo_any 12 n a b X hw (by decide) (by decide))
  rw [← hdv, hhs] at HD
  have q0 : decide (fl < 0) = false := by simp; omega
  have q7 : decide (7 < fl) = false := by simp; omega
  obtain ⟨e1, e2, e4, e5, e6, e7⟩ := flag_mods hf0 hf1
  obtain ⟨x4, hx4⟩ : ∃ x, decide (fl / 4 % 2 = 1) = x := ⟨_, rfl⟩
  obtain ⟨x1, hx1⟩ : ∃ x, decide (fl % 2 = 1) = x := ⟨_, rfl⟩
  obtain ⟨x2, hx2⟩ : ∃ x, decide (fl / 2 % 2 = 1) = x := ⟨_, rfl⟩
  obtain ⟨r, hr⟩ : ∃ r, B.brk 12 fl n a b = r := ⟨_, rfl⟩
  rw [hr]
  obtain ⟨n0, n1, a0, a1, b0, b1⟩ := hw
  have hpl := B.pw_le n1
  have hn1s : wrap64 (n - 1) = n - 1 := B.wrap64_id (by omega) (by omega)
  have HSa := Lib.hid (fun X => rsign_any n a X n0 n1 a0 (by omega))
  have HSb := Lib.hid (fun X => rsign_any n b X n0 n1 b0 (by omega))
  have Hsn := Lib.hid (fun X => rsize_any n X (by omega) n1)
  have Hsh := Lib.hid (fun X => rsize_any (n - 1) X (by omega) (by omega))
  have hlo := B.sg_lo (n := n) (a := a) (by omega) a0
  have hhi := B.sg_hi (n := n) (a := a) (by omega) a1
  have hlob := B.sg_lo (n := n) (a := b) (by omega) b0
  have hhib := B.sg_hi (n := n) (a := b) (by omega) b1
  have hp31 := B.pw_le31 (n := n - 1) (by omega)
  have hpp := B.pw_pos (n - 1)
  have hpn := B.pw_pos n
  have hneg : wrap64 (-B.pw (n - 1)) = -B.pw (n - 1) := B.wrap64_id (by omega) (by omega)
  have hdec : wrap64 (B.pw (n - 1) - 1) = B.pw (n - 1) - 1 := B.wrap64_id (by omega) (by omega)
  have wa : wrap64 a = a := B.wrap64_id (by omega) (by omega)
  have wb : wrap64 b = b := B.wrap64_id (by omega) (by omega)
  cases hs with
  | false =>
    have Hf := Lib.hid (show r = false from by rw [← hr]; exact brk_none hhs)
    clear hdv hhs hx4 hx1 hx2 hr e1 e2 e4 e5 e6 e7 HSa HSb Hsn Hsh hlo hhi hlob hhib hp31 hpp hpn hneg hdec hpl a1 b1 wa wb hn1s
    go_enter Tryz.func57, Tryz.ntmps57
    go_wp2_with fail
    refine (HT.out _).mono ?_
    rintro e w1 ⟨rfl, rfl⟩
    go_wp2_with fail
    refine (HD.out _).mono ?_
    rintro e w2 ⟨rfl, hd⟩
    go_wp2
    go_ret2
    exact ⟨by rw [Hf.out]; rfl, hd⟩
  | true =>
    have hB := (hr.symm.trans (brk_has hhs))
    rw [hx4, hx1, hx2] at hB
    rw [hx1] at e1 e5
    rw [hx2] at e2 e6
    rw [hx4] at e4 e7
    obtain ⟨l, hl⟩ : ∃ l, (a % B.pw b != 0) = l := ⟨_, rfl⟩
    have hlf : B.lf 12 n a b = l := by rw [← hl, Bool.eq_iff_iff]; simp [B.lf]
    have hbn : b < n := by
      by_cases hb : n ≤ b
      · unfold B.has at hhs; rw [B.do_12, if_pos hb] at hhs; cases hhs
      · omega
    have Hsb := Lib.hid (fun X => rsize_any b X b0 (by omega))
    have hpb := B.pw_pos b
    have hpb2 : (B.pw b == 0) = false := by simp; omega
    have hpb0 : B.pw b ≠ 0 := by omega
    have hmn := Int.emod_nonneg a (show B.pw b ≠ 0 by omega)
    have hmx := Int.emod_lt_of_pos a hpb
    have hpb31 := B.pw_le31 (n := b) (by omega)
    have htm : a.tmod (B.pw b) = a % B.pw b := Int.tmod_eq_emod_of_nonneg a0
    have hwm : wrap64 (a % B.pw b) = a % B.pw b := B.wrap64_id (by omega) (by omega)
    cases x4 with
    | false =>
      have Hf := Lib.hid (show r = false from by rw [hB]; simp [B.isLf, B.isWh])
      clear hlf hbn hpb hmn hmx hpb31
      clear hdv hhs hx4 hx1 hx2 hr hf0 hf1 hB hlo hhi hlob hhib hp31 hpp hpn hpl a1 b1 a0 b0
      go_enter Tryz.func57, Tryz.ntmps57
      go_wp2_with fail
      refine (HT.out _).mono ?_
      rintro e w1 ⟨rfl, rfl⟩
      go_wp2_with fail
      refine (HD.out _).mono ?_
      rintro e w2 ⟨rfl, hd⟩
      go_wp2_with fail
      refine (HSa.out _).mono ?_
      rintro e w3 ⟨rfl, rfl⟩
      go_wp2_with fail
      refine (HSb.out _).mono ?_
      rintro e w3 ⟨rfl, rfl⟩
      go_wp2_with fail
      refine (Hsh.out _).mono ?_
      rintro e w3 ⟨rfl, rfl⟩
      go_wp2_with fail
      refine (Hsh.out _).mono ?_
      rintro e w3 ⟨rfl, rfl⟩
      go_wp2
      go_ret2
      exact ⟨by rw [Hf.out]; rfl, hd⟩
    | true =>
      have Hf := Lib.hid (show r = l from by rw [hB, hlf]; simp [B.isLf, B.isWh])
      clear hlf hbn hpb hmn hmx hpb31
      clear hdv hhs hx4 hx1 hx2 hr hf0 hf1 hB hlo hhi hlob hhib hp31 hpp hpn hpl a1 b1 a0 b0
      go_enter Tryz.func57, Tryz.ntmps57
      go_wp2_with fail
      refine (HT.out _).mono ?_
      rintro e w1 ⟨rfl, rfl⟩
      go_wp2_with fail
      refine (HD.out _).mono ?_
      rintro e w2 ⟨rfl, hd⟩
      go_wp2_with fail
      refine (HSa.out _).mono ?_
      rintro e w3 ⟨rfl, rfl⟩
      go_wp2_with fail
      refine (HSb.out _).mono ?_
      rintro e w3 ⟨rfl, rfl⟩
      go_wp2_with fail
      refine (Hsh.out _).mono ?_
      rintro e w3 ⟨rfl, rfl⟩
      go_wp2_with fail
      refine (Hsh.out _).mono ?_
      rintro e w3 ⟨rfl, rfl⟩
      go_wp2_with fail
      refine (Hsb.out _).mono ?_
      rintro e w3 ⟨rfl, rfl⟩
      go_wp2
      go_ret2
      exact ⟨by rw [Hf.out]; rfl, hd⟩
set_option maxRecDepth 100000 in
set_option maxHeartbeats 4000000 in
theorem rbr13 : RBreaks 13 := by
  intro fl n a b w hf0 hf1 hw
  have HT := Lib.hid (fun X => two_yes 13 n a b X hw (by decide) (by decide))
  obtain ⟨dv, hdv⟩ : ∃ dv, dv = (B.do_ 13 n a b).getD 0 := ⟨_, rfl⟩
  obtain ⟨hs, hhs⟩ : ∃ hs, B.has 13 n a b = hs := ⟨_, rfl⟩
  have HD := Lib.hid (fun X => rdo_any 13 n a b X hw (by decide) (by decide))
  rw [← hdv, hhs] at HD
  have q0 : decide (fl < 0) = false := by simp; omega
  have q7 : decide (7 < fl) = false := by simp; omega
  obtain ⟨e1, e2, e4, e5, e6, e7⟩ := flag_mods hf0 hf1
  obtain ⟨x4, hx4⟩ : ∃ x, decide (fl / 4 % 2 = 1) = x := ⟨_, rfl⟩
  obtain ⟨x1, hx1⟩ : ∃ x, decide (fl % 2 = 1) = x := ⟨_, rfl⟩
  obtain ⟨x2, hx2⟩ : ∃ x, decide (fl / 2 % 2 = 1) = x := ⟨_, rfl⟩
  obtain ⟨r, hr⟩ : ∃ r, B.brk 13 fl n a b = r := ⟨_, rfl⟩
  rw [hr]
  obtain ⟨n0, n1, a0, a1, b0, b1⟩ := hw
  have hpl := B.pw_le n1
  have hn1s : wrap64 (n - 1) = n - 1 := B.wrap64_id (by omega) (by omega)
  have HSa := Lib.hid (fun X => rsign_any n a X n0 n1 a0 (by omega))
  have HSb := Lib.hid (fun X => rsign_any n b X n0 n1 b0 (by omega))
  have Hsn := Lib.hid (fun X => rsize_any n X (by omega) n1)
  have Hsh := Lib.hid (fun X => rsize_any (n - 1) X (by omega) (by omega))
  have hlo := B.sg_lo (n := n) (a := a) (by omega) a0
  have hhi := B.sg_hi (n := n) (a := a) (by omega) a1
  have hlob := B.sg_lo (n := n) (a := b) (by omega) b0
  have hhib := B.sg_hi (n := n) (a := b) (by omega) b1
  have hp31 := B.pw_le31 (n := n - 1) (by omega)
  have hpp := B.pw_pos (n - 1)
  have hpn := B.pw_pos n
  have hneg : wrap64 (-B.pw (n - 1)) = -B.pw (n - 1) := B.wrap64_id (by omega) (by omega)
  have hdec : wrap64 (B.pw (n - 1) - 1) = B.pw (n - 1) - 1 := B.wrap64_id (by omega) (by omega)
  have wa : wrap64 a = a := B.wrap64_id (by omega) (by omega)
  have wb : wrap64 b = b := B.wrap64_id (by omega) (by omega)
  cases hs with
  | false =>
    have Hf := Lib.hid (show r = false from by rw [← hr]; exact brk_none hhs)
    clear hdv hhs hx4 hx1 hx2 hr e1 e2 e4 e5 e6 e7 HSa HSb Hsn Hsh hlo hhi hlob hhib hp31 hpp hpn hneg hdec hpl a1 b1 wa wb hn1s
    go_enter Tryz.func57, Tryz.ntmps57
    go_wp2_with fail
    refine (HT.out _).mono ?_
    rintro e w1 ⟨rfl, rfl⟩
    go_wp2_with fail
    refine (HD.out _).mono ?_
    rintro e w2 ⟨rfl, hd⟩
    go_wp2
    go_ret2
    exact ⟨by rw [Hf.out]; rfl, hd⟩
  | true =>
    have hB := (hr.symm.trans (brk_has hhs))
    rw [hx4, hx1, hx2] at hB
    rw [hx1] at e1 e5
    rw [hx2] at e2 e6
    rw [hx4] at e4 e7
    obtain ⟨l, hl⟩ : ∃ l, (a % B.pw b != 0) = l := ⟨_, rfl⟩
    have hlf : B.lf 13 n a b = l := by rw [← hl, Bool.eq_iff_iff]; simp [B.lf]
    have hbn : b < n := by
      by_cases hb : n ≤ b
      · unfold B.has at hhs; rw [B.do_13, if_pos hb] at hhs; cases hhs
      · omega
    have Hsb := Lib.hid (fun X => rsize_any b X b0 (by omega))
    have hpb := B.pw_pos b
    have hpb2 : (B.pw b == 0) = false := by simp; omega
    have hpb0 : B.pw b ≠ 0 := by omega
    have hmn := Int.emod_nonneg a (show B.pw b ≠ 0 by omega)
    have hmx := Int.emod_lt_of_pos a hpb
    have hpb31 := B.pw_le31 (n := b) (by omega)
    have htm : a.tmod (B.pw b) = a % B.pw b := Int.tmod_eq_emod_of_nonneg a0
    have hwm : wrap64 (a % B.pw b) = a % B.pw b := B.wrap64_id (by omega) (by omega)
    cases x4 with
    | false =>
      have Hf := Lib.hid (show r = false from by rw [hB]; simp [B.isLf, B.isWh])
      clear hlf hbn hpb hmn hmx hpb31
      clear hdv hhs hx4 hx1 hx2 hr hf0 hf1 hB hlo hhi hlob hhib hp31 hpp hpn hpl a1 b1 a0 b0
      go_enter Tryz.func57, Tryz.ntmps57
      go_wp2_with fail
      refine (HT.out _).mono ?_
      rintro e w1 ⟨rfl, rfl⟩
      go_wp2_with fail
      refine (HD.out _).mono ?_
      rintro e w2 ⟨rfl, hd⟩
      go_wp2_with fail
      refine (HSa.out _).mono ?_
      rintro e w3 ⟨rfl, rfl⟩
      go_wp2_with fail
      refine (HSb.out _).mono ?_
      rintro e w3 ⟨rfl, rfl⟩
      go_wp2_with fail
      refine (Hsh.out _).mono ?_
      rintro e w3 ⟨rfl, rfl⟩
      go_wp2_with fail
      refine (Hsh.out _).mono ?_
      rintro e w3 ⟨rfl, rfl⟩
      go_wp2
      go_ret2
      exact ⟨by rw [Hf.out]; rfl, hd⟩
    | true =>
      have Hf := Lib.hid (show r = l from by rw [hB, hlf]; simp [B.isLf, B.isWh])
      clear hlf hbn hpb hmn hmx hpb31
      clear hdv hhs hx4 hx1 hx2 hr hf0 hf1 hB hlo hhi hlob hhib hp31 hpp hpn hpl a1 b1 a0 b0
      go_enter Tryz.func57, Tryz.ntmps57
      go_wp2_with fail
      refine (HT.out _).mono ?_
      rintro e w1 ⟨rfl, rfl⟩
      go_wp2_with fail
      refine (HD.out _).mono ?_
      rintro e w2 ⟨rfl, hd⟩
      go_wp2_with fail
      refine (HSa.out _).mono ?_
      rintro e w3 ⟨rfl, rfl⟩
      go_wp2_with fail
      refine (HSb.out _).mono ?_
      rintro e w3 ⟨rfl, rfl⟩
      go_wp2_with fail
      refine (Hsh.out _).mono ?_
      rintro e w3 ⟨rfl, rfl⟩
      go_wp2_with fail
      refine (Hsh.out _).mono ?_
      rintro e w3 ⟨rfl, rfl⟩
      go_wp2_with fail
      refine (Hsb.out _).mono ?_
      rintro e w3 ⟨rfl, rfl⟩
      go_wp2
      go_ret2
      exact ⟨by rw [Hf.out]; rfl, hd⟩
theorem rBreaks_ok (op fl n a b : Int) (w : World) (hf0 : 0 ≤ fl) (hf1 : fl ≤ 7) (ha : 0 ≤ a) (hb : 0 ≤ b) (hok : B.okOp op n a b = true) : Calls Tryz.prog 57 #[.int .i64 op, .int .i64 fl, .int .i64 n, .int .u32 a, .int .u32 b] w fun e w' =>
    e = .returned (.tuple #[.bool (B.brk op fl n a b), .int .i64 0]) ∧ Dr w w' := by
  have hw := okOp_wds hok ha hb
  have ho : 1 ≤ op ∧ op ≤ 13 := by
    unfold B.okOp at hok
    simp only [Bool.and_eq_true, decide_eq_true_eq] at hok
    exact hok.1.1
  rcases B.op_cases ho.1 ho.2 with rfl | rfl | rfl | rfl | rfl | rfl | rfl | rfl | rfl | rfl | rfl | rfl | rfl
  · exact rbr1 fl n a b w hf0 hf1 hw
  · exact rbr2 fl n a b w hf0 hf1 hw
  · exact rbr3 fl n a b w hf0 hf1 hw
  · exact rbr4 fl n a b w hf0 hf1 hw
  · exact rbr5 fl n a b w hf0 hf1 hw
  · exact rbr6 fl n a b w hf0 hf1 hw
  · exact rbr7 fl n a b w hf0 hf1 hw
  · exact rbr8 fl n a b w hf0 hf1 hw
  · exact rbr9 fl n a b w hf0 hf1 hw
  · exact rbr10 fl n a b w hf0 hf1 hw
  · exact rbr11 fl n a b w hf0 hf1 hw
  · exact rbr12 fl n a b w hf0 hf1 hw
  · exact rbr13 fl n a b w hf0 hf1 hw
end Go.Proofs.YtbiopedpceddeaaGreatDoor
