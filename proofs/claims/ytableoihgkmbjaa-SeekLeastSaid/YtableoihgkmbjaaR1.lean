/- Walks of the reference's layer of bits: widths, sizes, signs, wrapping. -/
import Derived.Test.YtableoihgkmbjaaB4
import Derived.Test.YtableoihgkmbjaaPlainB2
namespace Go.Proofs.Ytableoihgkmbjaa
open Go.RowKit
set_option linter.unusedVariables false

theorem rsize_any (n : Int) (w : World) (h0 : 0 ≤ n) (h1 : n ≤ 32) : Calls Try.prog 46 #[.int .i64 n] w fun e w' => e = .returned (.int .i64 (B.pw n)) ∧ w = w' := by
  go_enter Try.func46, Try.ntmps46
  go_wp2
  go_ret
  refine ⟨ret_int ?_, rfl⟩
  have e : (2 : Int) ^ n.toNat = B.pw n := rfl
  have hp := B.pw_pos n
  have hl := B.pw_le h1
  simp only [e]
  exact B.wrap64_id (by omega) (by omega)

theorem risWidth_yes (n : Int) (w : World) (h0 : 1 ≤ n) (h1 : n ≤ 32) : Calls Try.prog 45 #[.int .i64 n] w fun e w' => e = .returned (.bool true) ∧ w = w' := by
  go_enter Try.func45, Try.ntmps45
  go_wp2
  go_ret
  exact ⟨rfl, rfl⟩
theorem risWidth_no (n : Int) (w : World) (h : n < 1 ∨ 32 < n) : Calls Try.prog 45 #[.int .i64 n] w fun e w' => e = .returned (.bool false) ∧ w = w' := by
  rcases h with h | h
  · go_enter Try.func45, Try.ntmps45
    go_wp2
    go_ret
    exact ⟨rfl, rfl⟩
  · have h1 : 1 ≤ n := by omega
    have hd : decide (n ≤ 32) = false := by simp; omega
    go_enter Try.func45, Try.ntmps45
    go_wp2
    go_ret
    exact ⟨rfl, rfl⟩
theorem not_wd {n : Int} (h : B.isWd n = false) : n < 1 ∨ 32 < n := by
  have : ¬ (1 ≤ n ∧ n ≤ 32) := fun hc => by rw [B.isWd_iff.2 hc] at h; cases h
  omega
theorem risWidth_any (n : Int) (w : World) : Calls Try.prog 45 #[.int .i64 n] w fun e w' => e = .returned (.bool (B.isWd n)) ∧ w = w' := by
  cases h : B.isWd n
  · exact risWidth_no n w (not_wd h)
  · have := B.isWd_iff.1 h
    exact risWidth_yes n w this.1 this.2

theorem isWord_any (n a : Int) (w : World) (h0 : 0 ≤ a) (h1 : a < 4294967296) : Calls Try.prog 31 #[.int .i64 n, .int .u32 a] w fun e w' => e = .returned (.bool (B.isW n a)) ∧ w = w' := by
  have H1 := Lib.hid (risWidth_any n w)
  cases h : B.isWd n
  · have hw : B.isW n a = false := by unfold B.isW; rw [h]; rfl
    rw [h] at H1
    rw [hw]
    clear h hw
    go_enter Try.func31, Try.ntmps31
    go_wp2_with fail
    refine H1.out.mono ?_
    rintro e w' ⟨rfl, rfl⟩
    go_wp2
    go_ret
    exact ⟨rfl, rfl⟩
  · have hn := B.isWd_iff.1 h
    have hw : B.isW n a = decide (a < B.pw n) := by unfold B.isW; rw [h]; rfl
    rw [h] at H1
    rw [hw]
    have H2 := Lib.hid (fun W => rsize_any n W (by omega) hn.2)
    clear h hn hw
    go_enter Try.func31, Try.ntmps31
    go_wp2_with fail
    refine H1.out.mono ?_
    rintro e w' ⟨rfl, rfl⟩
    go_wp2_with fail
    refine (H2.out _).mono ?_
    rintro e w' ⟨rfl, rfl⟩
    go_wp2
    go_ret
    exact ⟨rfl, rfl⟩

theorem rsign_any (n x : Int) (w : World) (h0 : 1 ≤ n) (h1 : n ≤ 32) (h2 : 0 ≤ x) (h3 : x < 4294967296) : Calls Try.prog 58 #[.int .i64 n, .int .u32 x] w fun e w' => e = .returned (.int .i64 (B.sg n x)) ∧ w = w' := by
  have HA := Lib.hid (fun W => rsize_any (n - 1) W (by omega) (by omega))
  have HB := Lib.hid (fun W => rsize_any n W (by omega) h1)
  have hp := B.pw_pos n
  have hl := B.pw_le h1
  by_cases hc : B.pw (n - 1) ≤ x
  · have hs : B.sg n x = x - B.pw n := by unfold B.sg; rw [if_pos hc]
    rw [hs]
    clear hs
    generalize B.pw (n - 1) = y at HA hc
    generalize B.pw n = z at HB hp hl
    go_enter Try.func58, Try.ntmps58
    go_wp2_with fail
    refine (HA.out _).mono ?_
    rintro e w' ⟨rfl, rfl⟩
    go_wp2_with fail
    refine (HB.out _).mono ?_
    rintro e w' ⟨rfl, rfl⟩
    go_wp2
    go_ret
    exact ⟨rfl, rfl⟩
  · have hs : B.sg n x = x := by unfold B.sg; rw [if_neg hc]
    rw [hs]
    clear hs
    generalize B.pw (n - 1) = y at HA hc
    go_enter Try.func58, Try.ntmps58
    go_wp2_with fail
    refine (HA.out _).mono ?_
    rintro e w' ⟨rfl, rfl⟩
    go_wp2
    go_ret
    exact ⟨rfl, rfl⟩

theorem wrap_any (n x : Int) (w : World) (h0 : 0 ≤ n) (h1 : n ≤ 32) (h2 : -9223372036854775808 ≤ x) (h3 : x ≤ 9223372036854775807) : Calls Try.prog 61 #[.int .i64 n, .int .i64 x] w fun e w' => e = .returned (.int .u32 (x % B.pw n)) ∧ w = w' := by
  have HB := Lib.hid (fun W => rsize_any n W h0 h1)
  have hp := B.pw_pos n
  have hl := B.pw_le h1
  have hfix := B.tmod_fix x (B.pw n) hp
  have hlt := Int.emod_lt_of_pos x hp
  have hge := Int.emod_nonneg x (show B.pw n ≠ 0 by omega)
  generalize B.pw n = z at HB hp hl hfix hlt hge
  have hab : -z ≤ x.tmod z ∧ x.tmod z < z := ⟨by rw [← hfix] at hge; split at hge <;> omega, by rw [← hfix] at hlt; split at hlt <;> omega⟩
  by_cases hc : x.tmod z < 0
  · rw [if_pos hc] at hfix
    rw [← hfix]
    have Hfix := Lib.hid hfix; clear hfix hge hlt
    go_enter Try.func61, Try.ntmps61
    go_wp2_with fail
    refine (HB.out _).mono ?_
    rintro e w' ⟨rfl, rfl⟩
    go_wp2_with fail
    refine (HB.out _).mono ?_
    rintro e w' ⟨rfl, rfl⟩
    go_wp2
    go_ret
    exact ⟨ret_int (by omega), rfl⟩
  · rw [if_neg hc] at hfix
    rw [← hfix]
    have Hfix := Lib.hid hfix; clear hfix hge hlt
    go_enter Try.func61, Try.ntmps61
    go_wp2_with fail
    refine (HB.out _).mono ?_
    rintro e w' ⟨rfl, rfl⟩
    go_wp2
    go_ret
    exact ⟨ret_int (by omega), rfl⟩

set_option maxHeartbeats 400000 in
theorem down_any (x k : Int) (w : World) (hk : 0 ≤ k) (hk2 : k ≤ 64) (h2 : -4294967296 ≤ x) (h3 : x ≤ 4294967296) : Calls Try.prog 67 #[.int .i64 x, .int .i64 k] w fun e w' => e = .returned (.int .i64 (x / 2 ^ k.toNat)) ∧ w = w' := by
  obtain ⟨K, rfl⟩ : ∃ K : Nat, k = K := ⟨k.toNat, by omega⟩
  go_enter Try.func67, Try.ntmps67
  go_wp2
  go_loop [0, 5] (fun y i => ∃ (j : Nat) (z : Int), j ≤ K ∧ i = .int .i64 (j : Int) ∧ y = .int .i64 z ∧ -4294967296 ≤ z ∧ z ≤ 4294967296 ∧ Hid (z = x / 2 ^ j)) (fun _ i => K - (intOf i).toNat)
  case atStart => exact ⟨0, x, Nat.zero_le _, rfl, rfl, h2, h3, by show x = _; simp⟩
  case round =>
    obtain ⟨j, z, hj, rfl, rfl, hz1, hz2, HZ⟩ := hrel
    by_cases hlt : j < K
    · by_cases hneg : z < 0
      · have hstep := B.half_neg z
        go_wp2
        go_round
        case rel => exact ⟨j + 1, z / 2, by omega, by go_num, by rw [← hstep], by omega, by omega, by show _ = _; rw [HZ.out, B.half_step']⟩
        case measure => simp [intOf]; omega
      · go_wp2
        go_round
        case rel => exact ⟨j + 1, z / 2, by omega, by go_num, rfl, by omega, by omega, by show _ = _; rw [HZ.out, B.half_step']⟩
        case measure => simp [intOf]; omega
    · obtain rfl : j = K := by omega
      go_wp2
      go_ret
      exact ⟨ret_int (by rw [HZ.out]), rfl⟩
end Go.Proofs.Ytableoihgkmbjaa
