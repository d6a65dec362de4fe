/- Walks of the reference's layer of bits: shifts. -/
import Derived.Test.YtableoihgkmbjaaR2
namespace Go.Proofs.Ytableoihgkmbjaa
open Go.RowKit
set_option linter.unusedVariables false

theorem bitwise_far (op n a b : Int) (w : World) (h : B.Wds n a b) (ho : op = 11 ∨ op = 12 ∨ op = 13) (hb : n ≤ b) : Calls Try.prog 62 #[.int .i64 op, .int .i64 n, .int .u32 a, .int .u32 b] w fun e w' => e = .returned (.tuple #[.int .u32 0, .bool false]) ∧ Dr w w' := by
  obtain ⟨n0, n1, a0, a1, b0, b1⟩ := h
  have hl := B.pw_le n1
  have a2 : a < 4294967296 := by omega
  have b2 : b < 4294967296 := by omega
  clear a1 b1 hl
  rcases ho with rfl | rfl | rfl
  all_goals
    go_enter Try.func62, Try.ntmps62
    go_wp2
    go_ret2
    exact ⟨rfl, Dr.refl _⟩

theorem bitwise_lshr (n a b : Int) (w : World) (h : B.Wds n a b) (hb : b < n) : Calls Try.prog 62 #[.int .i64 12, .int .i64 n, .int .u32 a, .int .u32 b] w fun e w' => e = .returned (.tuple #[.int .u32 (a / B.pw b), .bool true]) ∧ Dr w w' := by
  obtain ⟨n0, n1, a0, a1, b0, b1⟩ := h
  have hl := B.pw_le n1
  have a2 : a < 4294967296 := by omega
  have b2 : b < 4294967296 := by omega
  have HD := Lib.hid (fun W => down_any a b W b0 (by omega) (by omega) (by omega))
  have hpos : 0 ≤ a / B.pw b ∧ a / B.pw b ≤ a := ⟨Int.ediv_nonneg a0 (by have := B.pw_pos b; omega), Int.ediv_le_self _ a0⟩
  clear a1 b1 hl
  have e : (2 : Int) ^ b.toNat = B.pw b := rfl
  rw [e] at HD
  clear e
  generalize a / B.pw b = z at *
  go_enter Try.func62, Try.ntmps62
  go_wp2_with fail
  refine (HD.out _).mono ?_
  rintro e w' ⟨rfl, rfl⟩
  go_wp2
  go_ret2
  exact ⟨ret_wb (by omega) rfl, Dr.refl _⟩

theorem bitwise_ashr (n a b : Int) (w : World) (h : B.Wds n a b) (hb : b < n) : Calls Try.prog 62 #[.int .i64 13, .int .i64 n, .int .u32 a, .int .u32 b] w fun e w' => e = .returned (.tuple #[.int .u32 (B.sg n a / B.pw b % B.pw n), .bool true]) ∧ Dr w w' := by
  obtain ⟨n0, n1, a0, a1, b0, b1⟩ := h
  have hl := B.pw_le n1
  have a2 : a < 4294967296 := by omega
  have b2 : b < 4294967296 := by omega
  have h31 := B.pw_le31 (show n - 1 ≤ 31 by omega)
  have hlo := B.sg_lo n0 a0
  have hhi := B.sg_hi n0 a1
  have HS := Lib.hid (fun W => rsign_any n a W n0 n1 a0 a2)
  have HD := Lib.hid (fun W => down_any (B.sg n a) b W b0 (by omega) (by omega) (by omega))
  have hbd : -2147483648 ≤ B.sg n a / B.pw b ∧ B.sg n a / B.pw b ≤ 2147483648 := by
    have hp := B.pw_pos b
    have h1 := Int.mul_ediv_self_le (x := B.sg n a) (k := B.pw b) (by omega)
    have h2 := Int.lt_mul_ediv_self_add (x := B.sg n a) hp
    constructor
    · rw [Int.le_ediv_iff_mul_le hp]
      have : -2147483648 * B.pw b ≤ -2147483648 * 1 := Int.mul_le_mul_of_nonpos_left (by omega) (by omega)
      omega
    · by_cases hneg : B.sg n a < 0
      · have := Int.ediv_neg_of_neg_of_pos hneg hp; omega
      · have := Int.ediv_le_self (B.pw b) (show 0 ≤ B.sg n a by omega); omega
  have HW := Lib.hid (fun W => wrap_any n (B.sg n a / B.pw b) W (by omega) n1 (by omega) (by omega))
  clear a1 b1 hl h31 hlo hhi
  have e : (2 : Int) ^ b.toNat = B.pw b := rfl
  rw [e] at HD
  clear e
  generalize B.sg n a / B.pw b = z at *
  go_enter Try.func62, Try.ntmps62
  go_wp2_with fail
  refine (HS.out _).mono ?_
  rintro e w' ⟨rfl, rfl⟩
  go_wp2_with fail
  refine (HD.out _).mono ?_
  rintro e w' ⟨rfl, rfl⟩
  go_wp2_with fail
  refine (HW.out _).mono ?_
  rintro e w' ⟨rfl, rfl⟩
  go_wp2
  go_ret2
  exact ⟨rfl, Dr.refl _⟩

set_option maxRecDepth 100000 in
set_option maxHeartbeats 1000000 in
theorem bitwise_shl (n a b : Int) (w : World) (h : B.Wds n a b) (hb : b < n) : Calls Try.prog 62 #[.int .i64 11, .int .i64 n, .int .u32 a, .int .u32 b] w fun e w' => e = .returned (.tuple #[.int .u32 (a * B.pw b % B.pw n), .bool true]) ∧ Dr w w' := by
  obtain ⟨n0, n1, a0, a1, b0, b1⟩ := h
  have hl := B.pw_le n1
  have a2 : a < 4294967296 := by omega
  have b2 : b < 4294967296 := by omega
  have hp := B.pw_pos n
  have hst : a = a * 2 ^ 0 % B.pw n := by rw [Int.pow_zero, Int.mul_one, Int.emod_eq_of_lt a0 a1]
  have HS := Lib.hid (fun W => rsize_any n W (by omega) n1)
  have hdbl : ∀ j, 2 * (a * 2 ^ j % B.pw n) % B.pw n = a * 2 ^ (j + 1) % B.pw n := fun j => B.dbl_step a (B.pw n) j
  have hb32 : b ≤ 32 := by omega
  have hfin : a * B.pw b % B.pw n = a * 2 ^ b.toNat % B.pw n := rfl
  rw [hfin]
  clear a1 b1 hfin
  obtain ⟨z, hz⟩ : ∃ z, z = B.pw n := ⟨_, rfl⟩
  rw [← hz] at HS hp hl hst hdbl ⊢
  clear hz
  obtain ⟨R, hR⟩ : ∃ R, R = a * 2 ^ b.toNat % z := ⟨_, rfl⟩
  rw [← hR]
  have HR := Lib.hid hR; clear hR
  have Hdbl := Lib.hid hdbl; clear hdbl
  have Hst := Lib.hid hst; clear hst
  go_enter Try.func62, Try.ntmps62
  go_wp2
  go_loop [16, 17] (fun y i => ∃ (j : Nat) (t : Int), (j : Int) ≤ b ∧ i = .int .i64 (j : Int) ∧ y = .int .i64 t ∧ 0 ≤ t ∧ t < 4294967296 ∧ Hid (t = a * 2 ^ j % z)) (fun _ i => b.toNat - (intOf i).toNat)
  case atStart => exact ⟨0, a, by omega, rfl, rfl, a0, a2, Hst.out⟩
  case round =>
    obtain ⟨j, t, hj, rfl, rfl, ht0, ht1, HT⟩ := hrel
    by_cases hlt : (j : Int) < b
    · have hr0 : 0 ≤ 2 * t % z := Int.emod_nonneg _ (by omega)
      have hr1 : 2 * t % z < z := Int.emod_lt_of_pos _ hp
      go_wp2_with fail
      refine (HS.out _).mono ?_
      rintro e w' ⟨rfl, rfl⟩
      go_wp2
      go_round
      case rel => exact ⟨j + 1, 2 * t % z, by omega, by go_num, rfl, hr0, by omega, by show _ = _; rw [HT.out, Hdbl.out]⟩
      case measure => simp [intOf]; omega
    · have hjb : j = b.toNat := by omega
      have Hjb := Lib.hid hjb; clear hjb
      go_wp2
      go_ret2
      exact ⟨ret_wb (by have h1 := HT.out; have h2 := HR.out; rw [Hjb.out] at h1; omega) rfl, Dr.refl _⟩
end Go.Proofs.Ytableoihgkmbjaa
