/- Merged: R1, R2, R3, R4, R5, R6. -/
import Derived.Test.YtbiopedpceddeaaGreatDoorN01
set_option linter.unusedVariables false
set_option linter.unusedSimpArgs false
section
namespace Go.Proofs.YtbiopedpceddeaaGreatDoor
open Go.RowKit
set_option linter.unusedVariables false

theorem rsize_any (n : Int) (w : World) (h0 : 0 ≤ n) (h1 : n ≤ 32) : Calls Tryz.prog 119 #[.int .i64 n] w fun e w' => e = .returned (.int .i64 (B.pw n)) ∧ w = w' := by
  go_enter Tryz.func119, Tryz.ntmps119
  go_wp2
  go_ret
  refine ⟨ret_int ?_, rfl⟩
  have e : (2 : Int) ^ n.toNat = B.pw n := rfl
  have hp := B.pw_pos n
  have hl := B.pw_le h1
  simp only [e]
  exact B.wrap64_id (by omega) (by omega)

theorem risWidth_yes (n : Int) (w : World) (h0 : 1 ≤ n) (h1 : n ≤ 32) : Calls Tryz.prog 161 #[.int .i64 n] w fun e w' => e = .returned (.bool true) ∧ w = w' := by
  go_enter Tryz.func161, Tryz.ntmps161
  go_wp2
  go_ret
  exact ⟨rfl, rfl⟩
theorem risWidth_no (n : Int) (w : World) (h : n < 1 ∨ 32 < n) : Calls Tryz.prog 161 #[.int .i64 n] w fun e w' => e = .returned (.bool false) ∧ w = w' := by
  rcases h with h | h
  · go_enter Tryz.func161, Tryz.ntmps161
    go_wp2
    go_ret
    exact ⟨rfl, rfl⟩
  · have h1 : 1 ≤ n := by omega
    have hd : decide (n ≤ 32) = false := by simp; omega
    go_enter Tryz.func161, Tryz.ntmps161
    go_wp2
    go_ret
    exact ⟨rfl, rfl⟩
theorem not_wd {n : Int} (h : B.isWd n = false) : n < 1 ∨ 32 < n := by
  have : ¬ (1 ≤ n ∧ n ≤ 32) := fun hc => by rw [B.isWd_iff.2 hc] at h; cases h
  omega
theorem risWidth_any (n : Int) (w : World) : Calls Tryz.prog 161 #[.int .i64 n] w fun e w' => e = .returned (.bool (B.isWd n)) ∧ w = w' := by
  cases h : B.isWd n
  · exact risWidth_no n w (not_wd h)
  · have := B.isWd_iff.1 h
    exact risWidth_yes n w this.1 this.2

theorem isWord_any (n a : Int) (w : World) (h0 : 0 ≤ a) (h1 : a < 4294967296) : Calls Tryz.prog 112 #[.int .i64 n, .int .u32 a] w fun e w' => e = .returned (.bool (B.isW n a)) ∧ w = w' := by
  have H1 := Lib.hid (risWidth_any n w)
  cases h : B.isWd n
  · have hw : B.isW n a = false := by unfold B.isW; rw [h]; rfl
    rw [h] at H1
    rw [hw]
    clear h hw
    go_enter Tryz.func112, Tryz.ntmps112
    go_wp2_with fail
    refine H1.out.mono ?_
    rintro e w' ⟨rfl, rfl⟩
    go_wp2
    go_ret
    exact ⟨rfl, rfl⟩
  · have hn := B.isWd_iff.1 h
    have hw : B.isW n a = decide (a < B.pw n) := by unfold B.isW; rw [h]; rfl
    rw [h] at H1
    rw [hw]
    have H2 := Lib.hid (fun W => rsize_any n W (by omega) hn.2)
    clear h hn hw
    go_enter Tryz.func112, Tryz.ntmps112
    go_wp2_with fail
    refine H1.out.mono ?_
    rintro e w' ⟨rfl, rfl⟩
    go_wp2_with fail
    refine (H2.out _).mono ?_
    rintro e w' ⟨rfl, rfl⟩
    go_wp2
    go_ret
    exact ⟨rfl, rfl⟩

theorem rsign_any (n x : Int) (w : World) (h0 : 1 ≤ n) (h1 : n ≤ 32) (h2 : 0 ≤ x) (h3 : x < 4294967296) : Calls Tryz.prog 118 #[.int .i64 n, .int .u32 x] w fun e w' => e = .returned (.int .i64 (B.sg n x)) ∧ w = w' := by
  have HA := Lib.hid (fun W => rsize_any (n - 1) W (by omega) (by omega))
  have HB := Lib.hid (fun W => rsize_any n W (by omega) h1)
  have hp := B.pw_pos n
  have hl := B.pw_le h1
  by_cases hc : B.pw (n - 1) ≤ x
  · have hs : B.sg n x = x - B.pw n := by unfold B.sg; rw [if_pos hc]
    rw [hs]
    clear hs
    generalize B.pw (n - 1) = y at HA hc
    generalize B.pw n = z at HB hp hl
    go_enter Tryz.func118, Tryz.ntmps118
    go_wp2_with fail
    refine (HA.out _).mono ?_
    rintro e w' ⟨rfl, rfl⟩
    go_wp2_with fail
    refine (HB.out _).mono ?_
    rintro e w' ⟨rfl, rfl⟩
    go_wp2
    go_ret
    exact ⟨rfl, rfl⟩
  · have hs : B.sg n x = x := by unfold B.sg; rw [if_neg hc]
    rw [hs]
    clear hs
    generalize B.pw (n - 1) = y at HA hc
    go_enter Tryz.func118, Tryz.ntmps118
    go_wp2_with fail
    refine (HA.out _).mono ?_
    rintro e w' ⟨rfl, rfl⟩
    go_wp2
    go_ret
    exact ⟨rfl, rfl⟩

theorem wrap_any (n x : Int) (w : World) (h0 : 0 ≤ n) (h1 : n ≤ 32) (h2 : -9223372036854775808 ≤ x) (h3 : x ≤ 9223372036854775807) : Calls Tryz.prog 164 #[.int .i64 n, .int .i64 x] w fun e w' => e = .returned (.int .u32 (x % B.pw n)) ∧ w = w' := by
  have HB := Lib.hid (fun W => rsize_any n W h0 h1)
  have hp := B.pw_pos n
  have hl := B.pw_le h1
  have hfix := B.tmod_fix x (B.pw n) hp
  have hlt := Int.emod_lt_of_pos x hp
  have hge := Int.emod_nonneg x (show B.pw n ≠ 0 by omega)
  generalize B.pw n = z at HB hp hl hfix hlt hge
  have hab : -z ≤ x.tmod z ∧ x.tmod z < z := ⟨by rw [← hfix] at hge; split at hge <;> omega, by rw [← hfix] at hlt; split at hlt <;> omega⟩
  by_cases hc : x.tmod z < 0
  · rw [if_pos hc] at hfix
    rw [← hfix]
    have Hfix := Lib.hid hfix; clear hfix hge hlt
    go_enter Tryz.func164, Tryz.ntmps164
    go_wp2_with fail
    refine (HB.out _).mono ?_
    rintro e w' ⟨rfl, rfl⟩
    go_wp2_with fail
    refine (HB.out _).mono ?_
    rintro e w' ⟨rfl, rfl⟩
    go_wp2
    go_ret
    exact ⟨ret_int (by omega), rfl⟩
  · rw [if_neg hc] at hfix
    rw [← hfix]
    have Hfix := Lib.hid hfix; clear hfix hge hlt
    go_enter Tryz.func164, Tryz.ntmps164
    go_wp2_with fail
    refine (HB.out _).mono ?_
    rintro e w' ⟨rfl, rfl⟩
    go_wp2
    go_ret
    exact ⟨ret_int (by omega), rfl⟩

set_option maxHeartbeats 400000 in
theorem down_any (x k : Int) (w : World) (hk : 0 ≤ k) (hk2 : k ≤ 64) (h2 : -4294967296 ≤ x) (h3 : x ≤ 4294967296) : Calls Tryz.prog 226 #[.int .i64 x, .int .i64 k] w fun e w' => e = .returned (.int .i64 (x / 2 ^ k.toNat)) ∧ w = w' := by
  obtain ⟨K, rfl⟩ : ∃ K : Nat, k = K := ⟨k.toNat, by omega⟩
  go_enter Tryz.func226, Tryz.ntmps226
  go_wp2
  go_loop [0, 5] (fun y i => ∃ (j : Nat) (z : Int), j ≤ K ∧ i = .int .i64 (j : Int) ∧ y = .int .i64 z ∧ -4294967296 ≤ z ∧ z ≤ 4294967296 ∧ Hid (z = x / 2 ^ j)) (fun _ i => K - (intOf i).toNat)
  case atStart => exact ⟨0, x, Nat.zero_le _, rfl, rfl, h2, h3, by show x = _; simp⟩
  case round =>
    obtain ⟨j, z, hj, rfl, rfl, hz1, hz2, HZ⟩ := hrel
    by_cases hlt : j < K
    · by_cases hneg : z < 0
      · have hstep := B.half_neg z
        go_wp2
        go_round
        case rel => exact ⟨j + 1, z / 2, by omega, by go_num, by rw [← hstep], by omega, by omega, by show _ = _; rw [HZ.out, B.half_step']⟩
        case measure => simp [intOf]; omega
      · go_wp2
        go_round
        case rel => exact ⟨j + 1, z / 2, by omega, by go_num, rfl, by omega, by omega, by show _ = _; rw [HZ.out, B.half_step']⟩
        case measure => simp [intOf]; omega
    · obtain rfl : j = K := by omega
      go_wp2
      go_ret
      exact ⟨ret_int (by rw [HZ.out]), rfl⟩
end Go.Proofs.YtbiopedpceddeaaGreatDoor
end
section
namespace Go.Proofs.YtbiopedpceddeaaGreatDoor
open Go.RowKit
set_option linter.unusedVariables false

theorem quiet_eq {P : Program} {f : FuncId} {args : Array Value} {w : World} {n : Nat} {v : Value}
    (h : Calls P f args (w.drewN n) fun e w' => e = .returned v ∧ w.drewN n = w') : Calls P f args (w.drewN n) fun e w'' => e = .returned v ∧ ∃ m, w'' = w.drewN m :=
  h.mono fun _ _ ⟨he, hm⟩ => ⟨he, n, hm.symm⟩

set_option maxRecDepth 100000 in
set_option maxHeartbeats 1000000 in
theorem bitwise_and (n a b : Int) (w : World) (h : B.Wds n a b) : Calls Tryz.prog 165 #[.int .i64 8, .int .i64 n, .int .u32 a, .int .u32 b] w fun e w' => e = .returned (.tuple #[.int .u32 ((a.toNat &&& b.toNat) : Int), .bool true]) ∧ Dr w w' := by
  obtain ⟨n0, n1, a0, a1, b0, b1⟩ := h
  have hl := B.pw_le n1
  have a2 : a < 4294967296 := by omega
  have b2 : b < 4294967296 := by omega
  have hfin : (a.toNat &&& b.toNat) % 2 ^ n.toNat = (a.toNat &&& b.toNat) := B.mod_eq (B.land_lt a0 a1)
  have hX : ((a.toNat &&& b.toNat) : Int) < 4294967296 := by have := B.land_lt (b := b) a0 a1; omega
  have hbit : ∀ j, B.bitN (a.toNat &&& b.toNat) j = B.bitN a.toNat j * B.bitN b.toNat j := fun j => B.bitN_and _ _ j
  generalize (a.toNat &&& b.toNat) = x at *
  have Hfin := Lib.hid hfin; clear hfin
  have Hbit := Lib.hid hbit; clear hbit
  clear a1 b1 hl
  obtain ⟨N, rfl⟩ : ∃ N : Nat, n = N := ⟨n.toNat, by omega⟩
  go_enter Tryz.func165, Tryz.ntmps165
  go_wp2
  go_loopw [10, 11] (fun y i wr => ∃ (j t : Nat), j ≤ N ∧ i = .int .i64 (j : Int) ∧ y = .int .i64 (t : Int) ∧ t < 4294967296 ∧ Dr w wr ∧ Hid (t = x % 2 ^ j)) (fun _ i _ => N - (intOf i).toNat)
  case atStart => exact ⟨0, 0, Nat.zero_le _, rfl, rfl, by omega, Dr.refl _, by show _ = _; simp [Nat.mod_one]⟩
  case round =>
    obtain ⟨j, t, hj, rfl, rfl, ht, hdr, HT⟩ := hrel
    by_cases hlt : j < N
    · have HS := Lib.hid (fun W => rsize_any j W (by omega) (by omega))
      have hp1 := B.pw_pos j
      have hp2 := B.pw_le31 (n := (j : Int)) (by omega)
      have hba := B.bit_int a j a0
      have hbb := B.bit_int b j b0
      have hpa : B.pw (j : Int) = 2 ^ j := rfl
      rw [← hpa] at hba hbb
      have hqa : (a / B.pw (j : Int)).tmod 2 = (B.bitN a.toNat j : Int) := by rw [Int.tmod_eq_emod_of_nonneg (Int.ediv_nonneg a0 (by omega)), hba]
      have hqb : (b / B.pw (j : Int)).tmod 2 = (B.bitN b.toNat j : Int) := by rw [Int.tmod_eq_emod_of_nonneg (Int.ediv_nonneg b0 (by omega)), hbb]
      have la := B.bitN_lt a.toNat j
      have lb := B.bitN_lt b.toNat j
      have hx := Hbit.out j
      have hpn : (B.pw (j : Int)) = ((2 ^ j : Nat) : Int) := by rw [hpa]; simp
      clear hba hbb hpa
      have Hpn := Lib.hid hpn; clear hpn
      have key : ∀ c : Nat, B.bitN x j = c → ((x % 2 ^ (j + 1) : Nat) : Int) = t + c * B.pw (j : Int) := by
        intro c hc
        rw [B.mod_succ, hc, Hpn.out, ← HT.out]
        simp
      have tlt : ∀ c : Nat, c < 2 → (t : Int) + c * B.pw (j : Int) < 9223372036854775807 := by
        intro c hc
        have : c = 0 ∨ c = 1 := by omega
        rcases this with rfl | rfl <;> simp <;> omega
      have Hkey := Lib.hid key; clear key
      have xlt : x % 2 ^ (j + 1) < 4294967296 := Nat.lt_of_le_of_lt (Nat.mod_le _ _) (by omega)
      have Htlt := Lib.hid tlt; clear tlt
      have Hxlt := Lib.hid xlt; clear xlt
      generalize B.bitN a.toNat j = P at hqa la hx
      generalize B.bitN b.toNat j = Q at hqb lb hx
      have hP : P = 0 ∨ P = 1 := by omega
      have hQ : Q = 0 ∨ Q = 1 := by omega
      clear la lb
      rcases hP with rfl | rfl <;> rcases hQ with rfl | rfl
      all_goals
        have hk := Hkey.out _ hx
        have Hk := Lib.hid hk; clear hk hx
        generalize B.pw (j : Int) = z at *
        go_wp2
        go_quiet ((go_at_call 119; exact quiet_eq (HS.out _)))
        go_wp2_with fail
        refine (HS.out _).mono ?_
        rintro e w' ⟨rfl, rfl⟩
        go_wp2
        go_roundw
        case rel => exact ⟨j + 1, x % 2 ^ (j + 1), by omega, by go_num, by have h9 := Hk.out; simp at h9 ⊢; omega, Hxlt.out, hdr.drewN _, rfl⟩
        case measure => simp [intOf]; omega
    · obtain rfl : j = N := by omega
      go_wp2
      go_ret2
      exact ⟨ret_wb (by have := HT.out; have h9 := Hfin.out; rw [Int.toNat_natCast] at h9; rw [this, h9]) rfl, hdr⟩

set_option maxRecDepth 100000 in
set_option maxHeartbeats 1000000 in
theorem bitwise_or (n a b : Int) (w : World) (h : B.Wds n a b) : Calls Tryz.prog 165 #[.int .i64 9, .int .i64 n, .int .u32 a, .int .u32 b] w fun e w' => e = .returned (.tuple #[.int .u32 ((a.toNat ||| b.toNat) : Int), .bool true]) ∧ Dr w w' := by
  obtain ⟨n0, n1, a0, a1, b0, b1⟩ := h
  have hl := B.pw_le n1
  have a2 : a < 4294967296 := by omega
  have b2 : b < 4294967296 := by omega
  have hfin : (a.toNat ||| b.toNat) % 2 ^ n.toNat = (a.toNat ||| b.toNat) := B.mod_eq (B.lor_lt a1 b1)
  have hX : ((a.toNat ||| b.toNat) : Int) < 4294967296 := by have := B.lor_lt a1 b1; omega
  have hbit : ∀ j, B.bitN (a.toNat ||| b.toNat) j = max (B.bitN a.toNat j) (B.bitN b.toNat j) := fun j => B.bitN_or _ _ j
  generalize (a.toNat ||| b.toNat) = x at *
  have Hfin := Lib.hid hfin; clear hfin
  have Hbit := Lib.hid hbit; clear hbit
  clear a1 b1 hl
  obtain ⟨N, rfl⟩ : ∃ N : Nat, n = N := ⟨n.toNat, by omega⟩
  go_enter Tryz.func165, Tryz.ntmps165
  go_wp2
  go_loopw [10, 11] (fun y i wr => ∃ (j t : Nat), j ≤ N ∧ i = .int .i64 (j : Int) ∧ y = .int .i64 (t : Int) ∧ t < 4294967296 ∧ Dr w wr ∧ Hid (t = x % 2 ^ j)) (fun _ i _ => N - (intOf i).toNat)
  case atStart => exact ⟨0, 0, Nat.zero_le _, rfl, rfl, by omega, Dr.refl _, by show _ = _; simp [Nat.mod_one]⟩
  case round =>
    obtain ⟨j, t, hj, rfl, rfl, ht, hdr, HT⟩ := hrel
    by_cases hlt : j < N
    · have HS := Lib.hid (fun W => rsize_any j W (by omega) (by omega))
      have hp1 := B.pw_pos j
      have hp2 := B.pw_le31 (n := (j : Int)) (by omega)
      have hba := B.bit_int a j a0
      have hbb := B.bit_int b j b0
      have hpa : B.pw (j : Int) = 2 ^ j := rfl
      rw [← hpa] at hba hbb
      have hqa : (a / B.pw (j : Int)).tmod 2 = (B.bitN a.toNat j : Int) := by rw [Int.tmod_eq_emod_of_nonneg (Int.ediv_nonneg a0 (by omega)), hba]
      have hqb : (b / B.pw (j : Int)).tmod 2 = (B.bitN b.toNat j : Int) := by rw [Int.tmod_eq_emod_of_nonneg (Int.ediv_nonneg b0 (by omega)), hbb]
      have la := B.bitN_lt a.toNat j
      have lb := B.bitN_lt b.toNat j
      have hx := Hbit.out j
      have hpn : (B.pw (j : Int)) = ((2 ^ j : Nat) : Int) := by rw [hpa]; simp
      clear hba hbb hpa
      have Hpn := Lib.hid hpn; clear hpn
      have key : ∀ c : Nat, B.bitN x j = c → ((x % 2 ^ (j + 1) : Nat) : Int) = t + c * B.pw (j : Int) := by
        intro c hc
        rw [B.mod_succ, hc, Hpn.out, ← HT.out]
        simp
      have tlt : ∀ c : Nat, c < 2 → (t : Int) + c * B.pw (j : Int) < 9223372036854775807 := by
        intro c hc
        have : c = 0 ∨ c = 1 := by omega
        rcases this with rfl | rfl <;> simp <;> omega
      have Hkey := Lib.hid key; clear key
      have xlt : x % 2 ^ (j + 1) < 4294967296 := Nat.lt_of_le_of_lt (Nat.mod_le _ _) (by omega)
      have Htlt := Lib.hid tlt; clear tlt
      have Hxlt := Lib.hid xlt; clear xlt
      generalize B.bitN a.toNat j = P at hqa la hx
      generalize B.bitN b.toNat j = Q at hqb lb hx
      have hP : P = 0 ∨ P = 1 := by omega
      have hQ : Q = 0 ∨ Q = 1 := by omega
      clear la lb
      rcases hP with rfl | rfl <;> rcases hQ with rfl | rfl
      all_goals
        have hk := Hkey.out _ hx
        have Hk := Lib.hid hk; clear hk hx
        generalize B.pw (j : Int) = z at *
        go_wp2
        go_quiet ((go_at_call 119; exact quiet_eq (HS.out _)))
        go_wp2_with fail
        refine (HS.out _).mono ?_
        rintro e w' ⟨rfl, rfl⟩
        go_wp2
        go_roundw
        case rel => exact ⟨j + 1, x % 2 ^ (j + 1), by omega, by go_num, by have h9 := Hk.out; simp at h9 ⊢; omega, Hxlt.out, hdr.drewN _, rfl⟩
        case measure => simp [intOf]; omega
    · obtain rfl : j = N := by omega
      go_wp2
      go_ret2
      exact ⟨ret_wb (by have := HT.out; have h9 := Hfin.out; rw [Int.toNat_natCast] at h9; rw [this, h9]) rfl, hdr⟩

set_option maxRecDepth 100000 in
set_option maxHeartbeats 1000000 in
theorem bitwise_xor (n a b : Int) (w : World) (h : B.Wds n a b) : Calls Tryz.prog 165 #[.int .i64 10, .int .i64 n, .int .u32 a, .int .u32 b] w fun e w' => e = .returned (.tuple #[.int .u32 ((a.toNat ^^^ b.toNat) : Int), .bool true]) ∧ Dr w w' := by
  obtain ⟨n0, n1, a0, a1, b0, b1⟩ := h
  have hl := B.pw_le n1
  have a2 : a < 4294967296 := by omega
  have b2 : b < 4294967296 := by omega
  have hfin : (a.toNat ^^^ b.toNat) % 2 ^ n.toNat = (a.toNat ^^^ b.toNat) := B.mod_eq (B.lxor_lt a1 b1)
  have hX : ((a.toNat ^^^ b.toNat) : Int) < 4294967296 := by have := B.lxor_lt a1 b1; omega
  have hbit : ∀ j, B.bitN (a.toNat ^^^ b.toNat) j = (B.bitN a.toNat j + B.bitN b.toNat j) % 2 := fun j => B.bitN_xor _ _ j
  generalize (a.toNat ^^^ b.toNat) = x at *
  have Hfin := Lib.hid hfin; clear hfin
  have Hbit := Lib.hid hbit; clear hbit
  clear a1 b1 hl
  obtain ⟨N, rfl⟩ : ∃ N : Nat, n = N := ⟨n.toNat, by omega⟩
  go_enter Tryz.func165, Tryz.ntmps165
  go_wp2
  go_loopw [10, 11] (fun y i wr => ∃ (j t : Nat), j ≤ N ∧ i = .int .i64 (j : Int) ∧ y = .int .i64 (t : Int) ∧ t < 4294967296 ∧ Dr w wr ∧ Hid (t = x % 2 ^ j)) (fun _ i _ => N - (intOf i).toNat)
  case atStart => exact ⟨0, 0, Nat.zero_le _, rfl, rfl, by omega, Dr.refl _, by show _ = _; simp [Nat.mod_one]⟩
  case round =>
    obtain ⟨j, t, hj, rfl, rfl, ht, hdr, HT⟩ := hrel
    by_cases hlt : j < N
    · have HS := Lib.hid (fun W => rsize_any j W (by omega) (by omega))
      have hp1 := B.pw_pos j
      have hp2 := B.pw_le31 (n := (j : Int)) (by omega)
      have hba := B.bit_int a j a0
      have hbb := B.bit_int b j b0
      have hpa : B.pw (j : Int) = 2 ^ j := rfl
      rw [← hpa] at hba hbb
      have hqa : (a / B.pw (j : Int)).tmod 2 = (B.bitN a.toNat j : Int) := by rw [Int.tmod_eq_emod_of_nonneg (Int.ediv_nonneg a0 (by omega)), hba]
      have hqb : (b / B.pw (j : Int)).tmod 2 = (B.bitN b.toNat j : Int) := by rw [Int.tmod_eq_emod_of_nonneg (Int.ediv_nonneg b0 (by omega)), hbb]
      have la := B.bitN_lt a.toNat j
      have lb := B.bitN_lt b.toNat j
      have hx := Hbit.out j
      have hpn : (B.pw (j : Int)) = ((2 ^ j : Nat) : Int) := by rw [hpa]; simp
      clear hba hbb hpa
      have Hpn := Lib.hid hpn; clear hpn
      have key : ∀ c : Nat, B.bitN x j = c → ((x % 2 ^ (j + 1) : Nat) : Int) = t + c * B.pw (j : Int) := by
        intro c hc
        rw [B.mod_succ, hc, Hpn.out, ← HT.out]
        simp
      have tlt : ∀ c : Nat, c < 2 → (t : Int) + c * B.pw (j : Int) < 9223372036854775807 := by
        intro c hc
        have : c = 0 ∨ c = 1 := by omega
        rcases this with rfl | rfl <;> simp <;> omega
      have Hkey := Lib.hid key; clear key
      have xlt : x % 2 ^ (j + 1) < 4294967296 := Nat.lt_of_le_of_lt (Nat.mod_le _ _) (by omega)
      have Htlt := Lib.hid tlt; clear tlt
      have Hxlt := Lib.hid xlt; clear xlt
      generalize B.bitN a.toNat j = P at hqa la hx
      generalize B.bitN b.toNat j = Q at hqb lb hx
      have hP : P = 0 ∨ P = 1 := by omega
      have hQ : Q = 0 ∨ Q = 1 := by omega
      clear la lb
      rcases hP with rfl | rfl <;> rcases hQ with rfl | rfl
      all_goals
        have hk := Hkey.out _ hx
        have Hk := Lib.hid hk; clear hk hx
        generalize B.pw (j : Int) = z at *
        go_wp2
        go_quiet ((go_at_call 119; exact quiet_eq (HS.out _)))
        go_wp2_with fail
        refine (HS.out _).mono ?_
        rintro e w' ⟨rfl, rfl⟩
        go_wp2
        go_roundw
        case rel => exact ⟨j + 1, x % 2 ^ (j + 1), by omega, by go_num, by have h9 := Hk.out; simp at h9 ⊢; omega, Hxlt.out, hdr.drewN _, rfl⟩
        case measure => simp [intOf]; omega
    · obtain rfl : j = N := by omega
      go_wp2
      go_ret2
      exact ⟨ret_wb (by have := HT.out; have h9 := Hfin.out; rw [Int.toNat_natCast] at h9; rw [this, h9]) rfl, hdr⟩

end Go.Proofs.YtbiopedpceddeaaGreatDoor
end
section
namespace Go.Proofs.YtbiopedpceddeaaGreatDoor
open Go.RowKit
set_option linter.unusedVariables false

theorem bitwise_far (op n a b : Int) (w : World) (h : B.Wds n a b) (ho : op = 11 ∨ op = 12 ∨ op = 13) (hb : n ≤ b) : Calls Tryz.prog 165 #[.int .i64 op, .int .i64 n, .int .u32 a, .int .u32 b] w fun e w' => e = .returned (.tuple #[.int .u32 0, .bool false]) ∧ Dr w w' := by
  obtain ⟨n0, n1, a0, a1, b0, b1⟩ := h
  have hl := B.pw_le n1
  have a2 : a < 4294967296 := by omega
  have b2 : b < 4294967296 := by omega
  clear a1 b1 hl
  rcases ho with rfl | rfl | rfl
  all_goals
    go_enter Tryz.func165, Tryz.ntmps165
    go_wp2
    go_ret2
    exact ⟨rfl, Dr.refl _⟩

theorem bitwise_lshr (n a b : Int) (w : World) (h : B.Wds n a b) (hb : b < n) : Calls Tryz.prog 165 #[.int .i64 12, .int .i64 n, .int .u32 a, .int .u32 b] w fun e w' => e = .returned (.tuple #[.int .u32 (a / B.pw b), .bool true]) ∧ Dr w w' := by
  obtain ⟨n0, n1, a0, a1, b0, b1⟩ := h
  have hl := B.pw_le n1
  have a2 : a < 4294967296 := by omega
  have b2 : b < 4294967296 := by omega
  have HD := Lib.hid (fun W => down_any a b W b0 (by omega) (by omega) (by omega))
  have hpos : 0 ≤ a / B.pw b ∧ a / B.pw b ≤ a := ⟨Int.ediv_nonneg a0 (by have := B.pw_pos b; omega), Int.ediv_le_self _ a0⟩
  clear a1 b1 hl
  have e : (2 : Int) ^ b.toNat = B.pw b := rfl
  rw [e] at HD
  clear e
  generalize a / B.pw b = z at *
  go_enter Tryz.func165, Tryz.ntmps165
  go_wp2_with fail
  refine (HD.out _).mono ?_
  rintro e w' ⟨rfl, rfl⟩
  go_wp2
  go_ret2
  exact ⟨ret_wb (by omega) rfl, Dr.refl _⟩

theorem bitwise_ashr (n a b : Int) (w : World) (h : B.Wds n a b) (hb : b < n) : Calls Tryz.prog 165 #[.int .i64 13, .int .i64 n, .int .u32 a, .int .u32 b] w fun e w' => e = .returned (.tuple #[.int .u32 (B.sg n a / B.pw b % B.pw n), .bool true]) ∧ Dr w w' := by
  obtain ⟨n0, n1, a0, a1, b0, b1⟩ := h
  have hl := B.pw_le n1
  have a2 : a < 4294967296 := by omega
  have b2 : b < 4294967296 := by omega
  have h31 := B.pw_le31 (show n - 1 ≤ 31 by omega)
  have hlo := B.sg_lo n0 a0
  have hhi := B.sg_hi n0 a1
  have HS := Lib.hid (fun W => rsign_any n a W n0 n1 a0 a2)
  have HD := Lib.hid (fun W => down_any (B.sg n a) b W b0 (by omega) (by omega) (by omega))
  have hbd : -2147483648 ≤ B.sg n a / B.pw b ∧ B.sg n a / B.pw b ≤ 2147483648 := by
    have hp := B.pw_pos b
    have h1 := Int.mul_ediv_self_le (x := B.sg n a) (k := B.pw b) (by omega)
    have h2 := Int.lt_mul_ediv_self_add (x := B.sg n a) hp
    constructor
    · rw [Int.le_ediv_iff_mul_le hp]
      have : -2147483648 * B.pw b ≤ -2147483648 * 1 := Int.mul_le_mul_of_nonpos_left (by omega) (by omega)
      omega
    · by_cases hneg : B.sg n a < 0
      · have := Int.ediv_neg_of_neg_of_pos hneg hp; omega
      · have := Int.ediv_le_self (B.pw b) (show 0 ≤ B.sg n a by omega); omega
  have HW := Lib.hid (fun W => wrap_any n (B.sg n a / B.pw b) W (by omega) n1 (by omega) (by omega))
  clear a1 b1 hl h31 hlo hhi
  have e : (2 : Int) ^ b.toNat = B.pw b := rfl
  rw [e] at HD
  clear e
  generalize B.sg n a / B.pw b = z at *
  go_enter Tryz.func165, Tryz.ntmps165
  go_wp2_with fail
  refine (HS.out _).mono ?_
  rintro e w' ⟨rfl, rfl⟩
  go_wp2_with fail
  refine (HD.out _).mono ?_
  rintro e w' ⟨rfl, rfl⟩
  go_wp2_with fail
  refine (HW.out _).mono ?_
  rintro e w' ⟨rfl, rfl⟩
  go_wp2
  go_ret2
  exact ⟨rfl, Dr.refl _⟩

set_option maxRecDepth 100000 in
set_option maxHeartbeats 1000000 in
theorem bitwise_shl (n a b : Int) (w : World) (h : B.Wds n a b) (hb : b < n) : Calls Tryz.prog 165 #[.int .i64 11, .int .i64 n, .int .u32 a, .int .u32 b] w fun e w' => e = .returned (.tuple #[.int .u32 (a * B.pw b % B.pw n), .bool true]) ∧ Dr w w' := by
  obtain ⟨n0, n1, a0, a1, b0, b1⟩ := h
  have hl := B.pw_le n1
  have a2 : a < 4294967296 := by omega
  have b2 : b < 4294967296 := by omega
  have hp := B.pw_pos n
  have hst : a = a * 2 ^ 0 % B.pw n := by rw [Int.pow_zero, Int.mul_one, Int.emod_eq_of_lt a0 a1]
  have HS := Lib.hid (fun W => rsize_any n W (by omega) n1)
  have hdbl : ∀ j, 2 * (a * 2 ^ j % B.pw n) % B.pw n = a * 2 ^ (j + 1) % B.pw n := fun j => B.dbl_step a (B.pw n) j
  have hb32 : b ≤ 32 := by omega
  have hfin : a * B.pw b % B.pw n = a * 2 ^ b.toNat % B.pw n := rfl
  rw [hfin]
  clear a1 b1 hfin
  obtain ⟨z, hz⟩ : ∃ z, z = B.pw n := ⟨_, rfl⟩
  rw [← hz] at HS hp hl hst hdbl ⊢
  clear hz
  obtain ⟨R, hR⟩ : ∃ R, R = a * 2 ^ b.toNat % z := ⟨_, rfl⟩
  rw [← hR]
  have HR := Lib.hid hR; clear hR
  have Hdbl := Lib.hid hdbl; clear hdbl
  have Hst := Lib.hid hst; clear hst
  go_enter Tryz.func165, Tryz.ntmps165
  go_wp2
  go_loop [16, 17] (fun y i => ∃ (j : Nat) (t : Int), (j : Int) ≤ b ∧ i = .int .i64 (j : Int) ∧ y = .int .i64 t ∧ 0 ≤ t ∧ t < 4294967296 ∧ Hid (t = a * 2 ^ j % z)) (fun _ i => b.toNat - (intOf i).toNat)
  case atStart => exact ⟨0, a, by omega, rfl, rfl, a0, a2, Hst.out⟩
  case round =>
    obtain ⟨j, t, hj, rfl, rfl, ht0, ht1, HT⟩ := hrel
    by_cases hlt : (j : Int) < b
    · have hr0 : 0 ≤ 2 * t % z := Int.emod_nonneg _ (by omega)
      have hr1 : 2 * t % z < z := Int.emod_lt_of_pos _ hp
      go_wp2_with fail
      refine (HS.out _).mono ?_
      rintro e w' ⟨rfl, rfl⟩
      go_wp2
      go_round
      case rel => exact ⟨j + 1, 2 * t % z, by omega, by go_num, rfl, hr0, by omega, by show _ = _; rw [HT.out, Hdbl.out]⟩
      case measure => simp [intOf]; omega
    · have hjb : j = b.toNat := by omega
      have Hjb := Lib.hid hjb; clear hjb
      go_wp2
      go_ret2
      exact ⟨ret_wb (by have h1 := HT.out; have h2 := HR.out; rw [Hjb.out] at h1; omega) rfl, Dr.refl _⟩
end Go.Proofs.YtbiopedpceddeaaGreatDoor
end
section
namespace Go.Proofs.YtbiopedpceddeaaGreatDoor
open Go.RowKit
set_option linter.unusedVariables false

/-- What the reference's 'do' answers for operation k. -/
def RDoes (k : Int) : Prop := ∀ (n a b : Int) (w : World), B.Wds n a b →
  Calls Tryz.prog 117 #[.int .i64 k, .int .i64 n, .int .u32 a, .int .u32 b] w fun e w' => e = .returned (.tuple #[.int .u32 ((B.do_ k n a b).getD 0), .bool (B.has k n a b)]) ∧ Dr w w'

theorem sg_bound {n a b : Int} (h : B.Wds n a b) : -2147483648 ≤ B.sg n a ∧ B.sg n a < 2147483648 ∧ -2147483648 ≤ B.sg n b ∧ B.sg n b < 2147483648 := by
  obtain ⟨n0, n1, a0, a1, b0, b1⟩ := h
  have h3 := B.pw_le31 (show n - 1 ≤ 31 by omega)
  have := B.sg_lo n0 a0
  have := B.sg_hi n0 a1
  have := B.sg_lo n0 b0
  have := B.sg_hi n0 b1
  omega

theorem rdoes1 : RDoes 1 := by
  intro n a b w h
  obtain ⟨n0, n1, a0, a1, b0, b1⟩ := h
  have hl := B.pw_le n1
  have a2 : a < 4294967296 := by omega
  have b2 : b < 4294967296 := by omega
  have HS := Lib.hid (fun W => rsign_any n a W n0 n1 a0 a2)
  have HT := Lib.hid (fun W => rsign_any n b W n0 n1 b0 b2)
  have HW := Lib.hid (fun W => wrap_any n (a + b) W (by omega) n1 (by omega) (by omega))
  have Hx := Lib.hid (B.do_1 n a b)
  clear a1 b1 hl
  generalize (a + b) % B.pw n = z at HW Hx
  go_enter Tryz.func117, Tryz.ntmps117
  go_wp2_with fail
  refine (HS.out _).mono ?_
  rintro e w' ⟨rfl, rfl⟩
  go_wp2_with fail
  refine (HT.out _).mono ?_
  rintro e w' ⟨rfl, rfl⟩
  go_wp2_with fail
  refine (HW.out _).mono ?_
  rintro e w' ⟨rfl, rfl⟩
  go_wp2
  go_ret2
  exact ⟨ret_wb (by rw [Hx.out]; rfl) (by rw [B.has, Hx.out]; rfl), Dr.refl _⟩

theorem rdoes2 : RDoes 2 := by
  intro n a b w h
  obtain ⟨n0, n1, a0, a1, b0, b1⟩ := h
  have hl := B.pw_le n1
  have a2 : a < 4294967296 := by omega
  have b2 : b < 4294967296 := by omega
  have HS := Lib.hid (fun W => rsign_any n a W n0 n1 a0 a2)
  have HT := Lib.hid (fun W => rsign_any n b W n0 n1 b0 b2)
  have HW := Lib.hid (fun W => wrap_any n (a - b) W (by omega) n1 (by omega) (by omega))
  have Hx := Lib.hid (B.do_2 n a b)
  clear a1 b1 hl
  generalize (a - b) % B.pw n = z at HW Hx
  go_enter Tryz.func117, Tryz.ntmps117
  go_wp2_with fail
  refine (HS.out _).mono ?_
  rintro e w' ⟨rfl, rfl⟩
  go_wp2_with fail
  refine (HT.out _).mono ?_
  rintro e w' ⟨rfl, rfl⟩
  go_wp2_with fail
  refine (HW.out _).mono ?_
  rintro e w' ⟨rfl, rfl⟩
  go_wp2
  go_ret2
  exact ⟨ret_wb (by rw [Hx.out]; rfl) (by rw [B.has, Hx.out]; rfl), Dr.refl _⟩

theorem mul_bound {x y : Int} (h1 : -2147483648 ≤ x) (h2 : x < 2147483648) (h3 : -2147483648 ≤ y) (h4 : y < 2147483648) : -4611686018427387904 ≤ x * y ∧ x * y ≤ 4611686018427387904 := by
  have h : (x * y).natAbs ≤ 2147483648 * 2147483648 := by
    rw [Int.natAbs_mul]
    exact Nat.mul_le_mul (by omega) (by omega)
  omega

theorem rdoes3 : RDoes 3 := by
  intro n a b w h
  have hbd := sg_bound h
  obtain ⟨n0, n1, a0, a1, b0, b1⟩ := h
  have hl := B.pw_le n1
  have a2 : a < 4294967296 := by omega
  have b2 : b < 4294967296 := by omega
  have hm := mul_bound hbd.1 hbd.2.1 hbd.2.2.1 hbd.2.2.2
  have HS := Lib.hid (fun W => rsign_any n a W n0 n1 a0 a2)
  have HT := Lib.hid (fun W => rsign_any n b W n0 n1 b0 b2)
  have HW := Lib.hid (fun W => wrap_any n (B.sg n a * B.sg n b) W (by omega) n1 (by omega) (by omega))
  have hmod : B.sg n a * B.sg n b % B.pw n = a * b % B.pw n := by rw [Int.mul_emod, B.sg_mod, B.sg_mod, ← Int.mul_emod]
  have hx := B.do_3 n a b
  rw [← hmod] at hx
  have Hx := Lib.hid hx; clear hx hmod
  clear a1 b1 hl hbd
  have hw : wrap64 (B.sg n a * B.sg n b) = B.sg n a * B.sg n b := B.wrap64_id (by omega) (by omega)
  clear hm
  generalize B.sg n a * B.sg n b % B.pw n = z at HW Hx
  go_enter Tryz.func117, Tryz.ntmps117
  go_wp2_with fail
  refine (HS.out _).mono ?_
  rintro e w' ⟨rfl, rfl⟩
  go_wp2_with fail
  refine (HT.out _).mono ?_
  rintro e w' ⟨rfl, rfl⟩
  go_wp2_with fail
  refine (HW.out _).mono ?_
  rintro e w' ⟨rfl, rfl⟩
  go_wp2
  go_ret2
  exact ⟨ret_wb (by rw [Hx.out]; rfl) (by rw [B.has, Hx.out]; rfl), Dr.refl _⟩

theorem rdoes4 : RDoes 4 := by
  intro n a b w h
  obtain ⟨n0, n1, a0, a1, b0, b1⟩ := h
  have hl := B.pw_le n1
  have a2 : a < 4294967296 := by omega
  have b2 : b < 4294967296 := by omega
  have HS := Lib.hid (fun W => rsign_any n a W n0 n1 a0 a2)
  have HT := Lib.hid (fun W => rsign_any n b W n0 n1 b0 b2)
  have hx := B.do_4 n a b
  by_cases hb : b = 0
  · rw [if_pos hb] at hx
    have hs : (b == 0) = true := by simpa using hb
    have Hx := Lib.hid hx; clear hx hb a1 b1 hl
    go_enter Tryz.func117, Tryz.ntmps117
    go_wp2_with fail
    refine (HS.out _).mono ?_
    rintro e w' ⟨rfl, rfl⟩
    go_wp2_with fail
    refine (HT.out _).mono ?_
    rintro e w' ⟨rfl, rfl⟩
    go_wp2
    go_ret2
    exact ⟨ret_wb (by rw [Hx.out]; rfl) (by rw [B.has, Hx.out]; rfl), Dr.refl _⟩
  · rw [if_neg hb] at hx
    have hs : (b == 0) = false := by simpa using hb
    have hb1 : 1 ≤ b := by omega
    have Hx := Lib.hid hx; clear hx hb a1 b1 hl
    go_enter Tryz.func117, Tryz.ntmps117
    go_wp2_with fail
    refine (HS.out _).mono ?_
    rintro e w' ⟨rfl, rfl⟩
    go_wp2_with fail
    refine (HT.out _).mono ?_
    rintro e w' ⟨rfl, rfl⟩
    go_wp2
    go_ret2
    exact ⟨ret_wb (by rw [Hx.out]; rfl) (by rw [B.has, Hx.out]; rfl), Dr.refl _⟩

theorem rdoes5 : RDoes 5 := by
  intro n a b w h
  obtain ⟨n0, n1, a0, a1, b0, b1⟩ := h
  have hl := B.pw_le n1
  have a2 : a < 4294967296 := by omega
  have b2 : b < 4294967296 := by omega
  have HS := Lib.hid (fun W => rsign_any n a W n0 n1 a0 a2)
  have HT := Lib.hid (fun W => rsign_any n b W n0 n1 b0 b2)
  have hx := B.do_5 n a b
  by_cases hb : b = 0
  · rw [if_pos hb] at hx
    have hs : (b == 0) = true := by simpa using hb
    have Hx := Lib.hid hx; clear hx hb a1 b1 hl
    go_enter Tryz.func117, Tryz.ntmps117
    go_wp2_with fail
    refine (HS.out _).mono ?_
    rintro e w' ⟨rfl, rfl⟩
    go_wp2_with fail
    refine (HT.out _).mono ?_
    rintro e w' ⟨rfl, rfl⟩
    go_wp2
    go_ret2
    exact ⟨ret_wb (by rw [Hx.out]; rfl) (by rw [B.has, Hx.out]; rfl), Dr.refl _⟩
  · rw [if_neg hb] at hx
    have hs : (b == 0) = false := by simpa using hb
    have hb1 : 1 ≤ b := by omega
    have hq0 : 0 ≤ a / b * b := Int.mul_nonneg (Int.ediv_nonneg a0 b0) b0
    have hq1 : a / b * b ≤ a := Int.ediv_mul_le a hb
    have he : a % b = a - a / b * b := by have := Int.mul_ediv_add_emod a b; rw [Int.mul_comm] at this; omega
    rw [he] at hx
    have hmodq : a / b * b % 4294967296 = a / b * b := Int.emod_eq_of_lt hq0 (by omega)
    have hmodr : (a - a / b * b) % 4294967296 = a - a / b * b := Int.emod_eq_of_lt (by omega) (by omega)
    have Hx := Lib.hid hx
    have Hm := Lib.hid hmodr; clear hx he hb a1 b1 hl hq0 hq1 hmodr
    go_enter Tryz.func117, Tryz.ntmps117
    go_wp2_with fail
    refine (HS.out _).mono ?_
    rintro e w' ⟨rfl, rfl⟩
    go_wp2_with fail
    refine (HT.out _).mono ?_
    rintro e w' ⟨rfl, rfl⟩
    go_wp2
    go_ret2
    exact ⟨ret_wb (by rw [Hx.out]; exact Hm.out) (by rw [B.has, Hx.out]; rfl), Dr.refl _⟩

/-- what '/' and '%' of signed values come to -/
theorem quot_facts {n a b : Int} (h : B.Wds n a b) (hq : ¬ (b = 0 ∨ (B.sg n a = -B.pw (n - 1) ∧ B.sg n b = -1))) :
    B.sg n b ≠ 0 ∧ -2147483648 ≤ (B.sg n a).tdiv (B.sg n b) ∧ (B.sg n a).tdiv (B.sg n b) ≤ 2147483648 ∧ -2147483648 ≤ (B.sg n a).tmod (B.sg n b) ∧ (B.sg n a).tmod (B.sg n b) ≤ 2147483648 ∧
    B.sg n a - (B.sg n a).tdiv (B.sg n b) * B.sg n b = (B.sg n a).tmod (B.sg n b) ∧ -4294967296 ≤ (B.sg n a).tdiv (B.sg n b) * B.sg n b ∧ (B.sg n a).tdiv (B.sg n b) * B.sg n b ≤ 4294967296 := by
  have hbd := sg_bound h
  obtain ⟨n0, n1, a0, a1, b0, b1⟩ := h
  have hz := B.sg_zero n0 b0 b1
  have bd := B.tdiv_bound (B.sg n a) (B.sg n b)
  have bm := B.tmod_bound (B.sg n a) (B.sg n b)
  have e : B.sg n a - (B.sg n a).tdiv (B.sg n b) * B.sg n b = (B.sg n a).tmod (B.sg n b) := by
    have := Int.mul_tdiv_add_tmod (B.sg n a) (B.sg n b)
    rw [Int.mul_comm] at this
    omega
  exact ⟨fun h => hq (.inl (hz.1 h)), by omega, by omega, by omega, by omega, e, by omega, by omega⟩

theorem rdoes6 : RDoes 6 := by
  intro n a b w h
  have h9 := h
  have hbd := sg_bound h
  obtain ⟨n0, n1, a0, a1, b0, b1⟩ := h
  have hl := B.pw_le n1
  have a2 : a < 4294967296 := by omega
  have b2 : b < 4294967296 := by omega
  have HS := Lib.hid (fun W => rsign_any n a W n0 n1 a0 a2)
  have HT := Lib.hid (fun W => rsign_any n b W n0 n1 b0 b2)
  have HZ := Lib.hid (fun W => rsize_any (n - 1) W (by omega) (by omega))
  have h3 := B.pw_le31 (show n - 1 ≤ 31 by omega)
  have h4 := B.pw_pos (n - 1)
  have hx := B.do_6 n a b
  by_cases hq : b = 0 ∨ (B.sg n a = -B.pw (n - 1) ∧ B.sg n b = -1)
  · rw [if_pos hq] at hx
    have Hx := Lib.hid hx; clear hx
    by_cases hb : b = 0
    · have hs : (b == 0) = true := by simpa using hb
      clear hq hb a1 b1 hl hbd h3 h4
      go_enter Tryz.func117, Tryz.ntmps117
      go_wp2_with fail
      refine (HS.out _).mono ?_
      rintro e w' ⟨rfl, rfl⟩
      go_wp2_with fail
      refine (HT.out _).mono ?_
      rintro e w' ⟨rfl, rfl⟩
      go_wp2
      go_ret2
      exact ⟨ret_wb (by rw [Hx.out]; rfl) (by rw [B.has, Hx.out]; rfl), Dr.refl _⟩
    · have hs : (b == 0) = false := by simpa using hb
      obtain ⟨q1, q2⟩ := hq.resolve_left hb
      have hs2 : (B.sg n b == -1) = true := by rw [q2]; rfl
      have hs3 : (B.sg n a == -B.pw (n - 1)) = true := by rw [q1]; simp
      clear hq hb a1 b1 hl q1 q2 hbd
      generalize B.pw (n - 1) = z at *
      go_enter Tryz.func117, Tryz.ntmps117
      go_wp2_with fail
      refine (HS.out _).mono ?_
      rintro e w' ⟨rfl, rfl⟩
      go_wp2_with fail
      refine (HT.out _).mono ?_
      rintro e w' ⟨rfl, rfl⟩
      go_wp2_with fail
      refine (HZ.out _).mono ?_
      rintro e w' ⟨rfl, rfl⟩
      go_wp2
      go_ret2
      exact ⟨ret_wb (by rw [Hx.out]; rfl) (by rw [B.has, Hx.out]; rfl), Dr.refl _⟩
  · rw [if_neg hq] at hx
    obtain ⟨f1, f2, f3, f4, f5, f6, f7, f8⟩ := quot_facts h9 hq
    have HW := Lib.hid (fun W => wrap_any n ((B.sg n a).tdiv (B.sg n b)) W (by omega) n1 (by omega) (by omega))
    have hs : (b == 0) = false := by simpa using fun h => hq (.inl h)
    have hz : (B.sg n b == 0) = false := by simpa using f1
    have hw : wrap64 ((B.sg n a).tdiv (B.sg n b)) = (B.sg n a).tdiv (B.sg n b) := B.wrap64_id (by omega) (by omega)
    have Hx := Lib.hid hx; clear hx
    have Hq := Lib.hid hq; clear hq a1 b1 hl h9 f2 f3 f4 f5 f6 f7 f8
    generalize (B.sg n a).tdiv (B.sg n b) % B.pw n = R at HW Hx
    by_cases hs3 : B.sg n a = -B.pw (n - 1)
    · have hs4 : (B.sg n b == -1) = false := by simpa using fun h => Hq.out (.inr ⟨hs3, h⟩)
      have hs5 : (B.sg n a == -B.pw (n - 1)) = true := by rw [hs3]; simp
      clear hs3 Hq hbd
      generalize B.pw (n - 1) = z at *
      go_enter Tryz.func117, Tryz.ntmps117
      go_wp2_with fail
      refine (HS.out _).mono ?_
      rintro e w' ⟨rfl, rfl⟩
      go_wp2_with fail
      refine (HT.out _).mono ?_
      rintro e w' ⟨rfl, rfl⟩
      go_wp2_with fail
      refine (HZ.out _).mono ?_
      rintro e w' ⟨rfl, rfl⟩
      go_wp2_with fail
      refine (HW.out _).mono ?_
      rintro e w' ⟨rfl, rfl⟩
      go_wp2
      go_ret2
      exact ⟨ret_wb (by rw [Hx.out]; rfl) (by rw [B.has, Hx.out]; rfl), Dr.refl _⟩
    · have hs5 : (B.sg n a == -B.pw (n - 1)) = false := by simpa using hs3
      clear hs3 Hq hbd
      generalize B.pw (n - 1) = z at *
      go_enter Tryz.func117, Tryz.ntmps117
      go_wp2_with fail
      refine (HS.out _).mono ?_
      rintro e w' ⟨rfl, rfl⟩
      go_wp2_with fail
      refine (HT.out _).mono ?_
      rintro e w' ⟨rfl, rfl⟩
      go_wp2_with fail
      refine (HZ.out _).mono ?_
      rintro e w' ⟨rfl, rfl⟩
      go_wp2_with fail
      refine (HW.out _).mono ?_
      rintro e w' ⟨rfl, rfl⟩
      go_wp2
      go_ret2
      exact ⟨ret_wb (by rw [Hx.out]; rfl) (by rw [B.has, Hx.out]; rfl), Dr.refl _⟩
end Go.Proofs.YtbiopedpceddeaaGreatDoor
end
section
namespace Go.Proofs.YtbiopedpceddeaaGreatDoor
open Go.RowKit
set_option linter.unusedVariables false

theorem rdoes7 : RDoes 7 := by
  intro n a b w h
  have h9 := h
  have hbd := sg_bound h
  obtain ⟨n0, n1, a0, a1, b0, b1⟩ := h
  have hl := B.pw_le n1
  have a2 : a < 4294967296 := by omega
  have b2 : b < 4294967296 := by omega
  have HS := Lib.hid (fun W => rsign_any n a W n0 n1 a0 a2)
  have HT := Lib.hid (fun W => rsign_any n b W n0 n1 b0 b2)
  have HZ := Lib.hid (fun W => rsize_any (n - 1) W (by omega) (by omega))
  have h3 := B.pw_le31 (show n - 1 ≤ 31 by omega)
  have h4 := B.pw_pos (n - 1)
  have hx := B.do_7 n a b
  by_cases hq : b = 0 ∨ (B.sg n a = -B.pw (n - 1) ∧ B.sg n b = -1)
  · rw [if_pos hq] at hx
    have Hx := Lib.hid hx; clear hx
    by_cases hb : b = 0
    · have hs : (b == 0) = true := by simpa using hb
      clear hq hb a1 b1 hl hbd h3 h4
      go_enter Tryz.func117, Tryz.ntmps117
      go_wp2_with fail
      refine (HS.out _).mono ?_
      rintro e w' ⟨rfl, rfl⟩
      go_wp2_with fail
      refine (HT.out _).mono ?_
      rintro e w' ⟨rfl, rfl⟩
      go_wp2
      go_ret2
      exact ⟨ret_wb (by rw [Hx.out]; rfl) (by rw [B.has, Hx.out]; rfl), Dr.refl _⟩
    · have hs : (b == 0) = false := by simpa using hb
      obtain ⟨q1, q2⟩ := hq.resolve_left hb
      have hs2 : (B.sg n b == -1) = true := by rw [q2]; rfl
      have hs3 : (B.sg n a == -B.pw (n - 1)) = true := by rw [q1]; simp
      clear hq hb a1 b1 hl q1 q2 hbd
      generalize B.pw (n - 1) = z at *
      go_enter Tryz.func117, Tryz.ntmps117
      go_wp2_with fail
      refine (HS.out _).mono ?_
      rintro e w' ⟨rfl, rfl⟩
      go_wp2_with fail
      refine (HT.out _).mono ?_
      rintro e w' ⟨rfl, rfl⟩
      go_wp2_with fail
      refine (HZ.out _).mono ?_
      rintro e w' ⟨rfl, rfl⟩
      go_wp2
      go_ret2
      exact ⟨ret_wb (by rw [Hx.out]; rfl) (by rw [B.has, Hx.out]; rfl), Dr.refl _⟩
  · rw [if_neg hq] at hx
    obtain ⟨f1, f2, f3, f4, f5, f6, f7, f8⟩ := quot_facts h9 hq
    have HW := Lib.hid (fun W => wrap_any n ((B.sg n a).tmod (B.sg n b)) W (by omega) n1 (by omega) (by omega))
    have hs : (b == 0) = false := by simpa using fun h => hq (.inl h)
    have hz : (B.sg n b == 0) = false := by simpa using f1
    have hw : wrap64 ((B.sg n a).tdiv (B.sg n b)) = (B.sg n a).tdiv (B.sg n b) := B.wrap64_id (by omega) (by omega)
    have Hx := Lib.hid hx; clear hx
    have Hq := Lib.hid hq; clear hq a1 b1 hl h9 f4 f5
    generalize (B.sg n a).tmod (B.sg n b) % B.pw n = R at HW Hx
    by_cases hs3 : B.sg n a = -B.pw (n - 1)
    · have hs4 : (B.sg n b == -1) = false := by simpa using fun h => Hq.out (.inr ⟨hs3, h⟩)
      have hs5 : (B.sg n a == -B.pw (n - 1)) = true := by rw [hs3]; simp
      clear hs3 Hq
      generalize B.pw (n - 1) = z at *
      go_enter Tryz.func117, Tryz.ntmps117
      go_wp2_with fail
      refine (HS.out _).mono ?_
      rintro e w' ⟨rfl, rfl⟩
      go_wp2_with fail
      refine (HT.out _).mono ?_
      rintro e w' ⟨rfl, rfl⟩
      go_wp2_with fail
      refine (HZ.out _).mono ?_
      rintro e w' ⟨rfl, rfl⟩
      go_wp2_with fail
      refine (HW.out _).mono ?_
      rintro e w' ⟨rfl, rfl⟩
      go_wp2
      go_ret2
      exact ⟨ret_wb (by rw [Hx.out]; rfl) (by rw [B.has, Hx.out]; rfl), Dr.refl _⟩
    · have hs5 : (B.sg n a == -B.pw (n - 1)) = false := by simpa using hs3
      clear hs3 Hq
      generalize B.pw (n - 1) = z at *
      go_enter Tryz.func117, Tryz.ntmps117
      go_wp2_with fail
      refine (HS.out _).mono ?_
      rintro e w' ⟨rfl, rfl⟩
      go_wp2_with fail
      refine (HT.out _).mono ?_
      rintro e w' ⟨rfl, rfl⟩
      go_wp2_with fail
      refine (HZ.out _).mono ?_
      rintro e w' ⟨rfl, rfl⟩
      go_wp2_with fail
      refine (HW.out _).mono ?_
      rintro e w' ⟨rfl, rfl⟩
      go_wp2
      go_ret2
      exact ⟨ret_wb (by rw [Hx.out]; rfl) (by rw [B.has, Hx.out]; rfl), Dr.refl _⟩

theorem rdoes8 : RDoes 8 := by
  intro n a b w h
  have h9 := h
  obtain ⟨n0, n1, a0, a1, b0, b1⟩ := h
  have hl := B.pw_le n1
  have a2 : a < 4294967296 := by omega
  have b2 : b < 4294967296 := by omega
  have HS := Lib.hid (fun W => rsign_any n a W n0 n1 a0 a2)
  have HT := Lib.hid (fun W => rsign_any n b W n0 n1 b0 b2)
  obtain ⟨z, ok, hz, hcon⟩ : ∃ z ok, B.do_ 8 n a b = (if ok then some z else none) ∧ ∀ W, Calls Tryz.prog 165 #[.int .i64 8, .int .i64 n, .int .u32 a, .int .u32 b] W fun e w' => e = .returned (.tuple #[.int .u32 (if ok then z else 0), .bool ok]) ∧ Dr W w' := by
    exact ⟨_, true, B.do_8 n a b, fun W => bitwise_and n a b W h9⟩
  have Hx := Lib.hid hz
  have HW := Lib.hid hcon; clear hz hcon h9 a1 b1 hl
  obtain ⟨Z, hZ⟩ : ∃ Z, Z = (if ok = true then z else 0) := ⟨_, rfl⟩
  rw [← hZ] at HW
  have HZ := Lib.hid hZ; clear hZ
  go_enter Tryz.func117, Tryz.ntmps117
  go_wp2_with fail
  refine (HS.out _).mono ?_
  rintro e w' ⟨rfl, rfl⟩
  go_wp2_with fail
  refine (HT.out _).mono ?_
  rintro e w' ⟨rfl, rfl⟩
  go_wp2_with fail
  refine (HW.out _).mono ?_
  rintro e w2 ⟨rfl, hd⟩
  go_wp2
  go_ret2
  exact ⟨ret_wb (by rw [Hx.out]; rw [HZ.out]; cases ok <;> rfl) (by rw [B.has, Hx.out]; cases ok <;> rfl), hd⟩

theorem rdoes9 : RDoes 9 := by
  intro n a b w h
  have h9 := h
  obtain ⟨n0, n1, a0, a1, b0, b1⟩ := h
  have hl := B.pw_le n1
  have a2 : a < 4294967296 := by omega
  have b2 : b < 4294967296 := by omega
  have HS := Lib.hid (fun W => rsign_any n a W n0 n1 a0 a2)
  have HT := Lib.hid (fun W => rsign_any n b W n0 n1 b0 b2)
  obtain ⟨z, ok, hz, hcon⟩ : ∃ z ok, B.do_ 9 n a b = (if ok then some z else none) ∧ ∀ W, Calls Tryz.prog 165 #[.int .i64 9, .int .i64 n, .int .u32 a, .int .u32 b] W fun e w' => e = .returned (.tuple #[.int .u32 (if ok then z else 0), .bool ok]) ∧ Dr W w' := by
    exact ⟨_, true, B.do_9 n a b, fun W => bitwise_or n a b W h9⟩
  have Hx := Lib.hid hz
  have HW := Lib.hid hcon; clear hz hcon h9 a1 b1 hl
  obtain ⟨Z, hZ⟩ : ∃ Z, Z = (if ok = true then z else 0) := ⟨_, rfl⟩
  rw [← hZ] at HW
  have HZ := Lib.hid hZ; clear hZ
  go_enter Tryz.func117, Tryz.ntmps117
  go_wp2_with fail
  refine (HS.out _).mono ?_
  rintro e w' ⟨rfl, rfl⟩
  go_wp2_with fail
  refine (HT.out _).mono ?_
  rintro e w' ⟨rfl, rfl⟩
  go_wp2_with fail
  refine (HW.out _).mono ?_
  rintro e w2 ⟨rfl, hd⟩
  go_wp2
  go_ret2
  exact ⟨ret_wb (by rw [Hx.out]; rw [HZ.out]; cases ok <;> rfl) (by rw [B.has, Hx.out]; cases ok <;> rfl), hd⟩

theorem rdoes10 : RDoes 10 := by
  intro n a b w h
  have h9 := h
  obtain ⟨n0, n1, a0, a1, b0, b1⟩ := h
  have hl := B.pw_le n1
  have a2 : a < 4294967296 := by omega
  have b2 : b < 4294967296 := by omega
  have HS := Lib.hid (fun W => rsign_any n a W n0 n1 a0 a2)
  have HT := Lib.hid (fun W => rsign_any n b W n0 n1 b0 b2)
  obtain ⟨z, ok, hz, hcon⟩ : ∃ z ok, B.do_ 10 n a b = (if ok then some z else none) ∧ ∀ W, Calls Tryz.prog 165 #[.int .i64 10, .int .i64 n, .int .u32 a, .int .u32 b] W fun e w' => e = .returned (.tuple #[.int .u32 (if ok then z else 0), .bool ok]) ∧ Dr W w' := by
    exact ⟨_, true, B.do_10 n a b, fun W => bitwise_xor n a b W h9⟩
  have Hx := Lib.hid hz
  have HW := Lib.hid hcon; clear hz hcon h9 a1 b1 hl
  obtain ⟨Z, hZ⟩ : ∃ Z, Z = (if ok = true then z else 0) := ⟨_, rfl⟩
  rw [← hZ] at HW
  have HZ := Lib.hid hZ; clear hZ
  go_enter Tryz.func117, Tryz.ntmps117
  go_wp2_with fail
  refine (HS.out _).mono ?_
  rintro e w' ⟨rfl, rfl⟩
  go_wp2_with fail
  refine (HT.out _).mono ?_
  rintro e w' ⟨rfl, rfl⟩
  go_wp2_with fail
  refine (HW.out _).mono ?_
  rintro e w2 ⟨rfl, hd⟩
  go_wp2
  go_ret2
  exact ⟨ret_wb (by rw [Hx.out]; rw [HZ.out]; cases ok <;> rfl) (by rw [B.has, Hx.out]; cases ok <;> rfl), hd⟩

theorem rdoes11 : RDoes 11 := by
  intro n a b w h
  have h9 := h
  obtain ⟨n0, n1, a0, a1, b0, b1⟩ := h
  have hl := B.pw_le n1
  have a2 : a < 4294967296 := by omega
  have b2 : b < 4294967296 := by omega
  have HS := Lib.hid (fun W => rsign_any n a W n0 n1 a0 a2)
  have HT := Lib.hid (fun W => rsign_any n b W n0 n1 b0 b2)
  obtain ⟨z, ok, hz, hcon⟩ : ∃ z ok, B.do_ 11 n a b = (if ok then some z else none) ∧ ∀ W, Calls Tryz.prog 165 #[.int .i64 11, .int .i64 n, .int .u32 a, .int .u32 b] W fun e w' => e = .returned (.tuple #[.int .u32 (if ok then z else 0), .bool ok]) ∧ Dr W w' := by
    by_cases hb : n ≤ b
    · exact ⟨0, false, by rw [B.do_11, if_pos hb]; rfl, fun W => bitwise_far 11 n a b W h9 (Or.inl rfl) hb⟩
    · exact ⟨_, true, by rw [B.do_11, if_neg hb]; rfl, fun W => bitwise_shl n a b W h9 (by omega)⟩
  have Hx := Lib.hid hz
  have HW := Lib.hid hcon; clear hz hcon h9 a1 b1 hl
  obtain ⟨Z, hZ⟩ : ∃ Z, Z = (if ok = true then z else 0) := ⟨_, rfl⟩
  rw [← hZ] at HW
  have HZ := Lib.hid hZ; clear hZ
  go_enter Tryz.func117, Tryz.ntmps117
  go_wp2_with fail
  refine (HS.out _).mono ?_
  rintro e w' ⟨rfl, rfl⟩
  go_wp2_with fail
  refine (HT.out _).mono ?_
  rintro e w' ⟨rfl, rfl⟩
  go_wp2_with fail
  refine (HW.out _).mono ?_
  rintro e w2 ⟨rfl, hd⟩
  go_wp2
  go_ret2
  exact ⟨ret_wb (by rw [Hx.out]; rw [HZ.out]; cases ok <;> rfl) (by rw [B.has, Hx.out]; cases ok <;> rfl), hd⟩

theorem rdoes12 : RDoes 12 := by
  intro n a b w h
  have h9 := h
  obtain ⟨n0, n1, a0, a1, b0, b1⟩ := h
  have hl := B.pw_le n1
  have a2 : a < 4294967296 := by omega
  have b2 : b < 4294967296 := by omega
  have HS := Lib.hid (fun W => rsign_any n a W n0 n1 a0 a2)
  have HT := Lib.hid (fun W => rsign_any n b W n0 n1 b0 b2)
  obtain ⟨z, ok, hz, hcon⟩ : ∃ z ok, B.do_ 12 n a b = (if ok then some z else none) ∧ ∀ W, Calls Tryz.prog 165 #[.int .i64 12, .int .i64 n, .int .u32 a, .int .u32 b] W fun e w' => e = .returned (.tuple #[.int .u32 (if ok then z else 0), .bool ok]) ∧ Dr W w' := by
    by_cases hb : n ≤ b
    · exact ⟨0, false, by rw [B.do_12, if_pos hb]; rfl, fun W => bitwise_far 12 n a b W h9 (Or.inr (Or.inl rfl)) hb⟩
    · exact ⟨_, true, by rw [B.do_12, if_neg hb]; rfl, fun W => bitwise_lshr n a b W h9 (by omega)⟩
  have Hx := Lib.hid hz
  have HW := Lib.hid hcon; clear hz hcon h9 a1 b1 hl
  obtain ⟨Z, hZ⟩ : ∃ Z, Z = (if ok = true then z else 0) := ⟨_, rfl⟩
  rw [← hZ] at HW
  have HZ := Lib.hid hZ; clear hZ
  go_enter Tryz.func117, Tryz.ntmps117
  go_wp2_with fail
  refine (HS.out _).mono ?_
  rintro e w' ⟨rfl, rfl⟩
  go_wp2_with fail
  refine (HT.out _).mono ?_
  rintro e w' ⟨rfl, rfl⟩
  go_wp2_with fail
  refine (HW.out _).mono ?_
  rintro e w2 ⟨rfl, hd⟩
  go_wp2
  go_ret2
  exact ⟨ret_wb (by rw [Hx.out]; rw [HZ.out]; cases ok <;> rfl) (by rw [B.has, Hx.out]; cases ok <;> rfl), hd⟩

theorem rdoes13 : RDoes 13 := by
  intro n a b w h
  have h9 := h
  obtain ⟨n0, n1, a0, a1, b0, b1⟩ := h
  have hl := B.pw_le n1
  have a2 : a < 4294967296 := by omega
  have b2 : b < 4294967296 := by omega
  have HS := Lib.hid (fun W => rsign_any n a W n0 n1 a0 a2)
  have HT := Lib.hid (fun W => rsign_any n b W n0 n1 b0 b2)
  obtain ⟨z, ok, hz, hcon⟩ : ∃ z ok, B.do_ 13 n a b = (if ok then some z else none) ∧ ∀ W, Calls Tryz.prog 165 #[.int .i64 13, .int .i64 n, .int .u32 a, .int .u32 b] W fun e w' => e = .returned (.tuple #[.int .u32 (if ok then z else 0), .bool ok]) ∧ Dr W w' := by
    by_cases hb : n ≤ b
    · exact ⟨0, false, by rw [B.do_13, if_pos hb]; rfl, fun W => bitwise_far 13 n a b W h9 (Or.inr (Or.inr rfl)) hb⟩
    · exact ⟨_, true, by rw [B.do_13, if_neg hb]; rfl, fun W => bitwise_ashr n a b W h9 (by omega)⟩
  have Hx := Lib.hid hz
  have HW := Lib.hid hcon; clear hz hcon h9 a1 b1 hl
  obtain ⟨Z, hZ⟩ : ∃ Z, Z = (if ok = true then z else 0) := ⟨_, rfl⟩
  rw [← hZ] at HW
  have HZ := Lib.hid hZ; clear hZ
  go_enter Tryz.func117, Tryz.ntmps117
  go_wp2_with fail
  refine (HS.out _).mono ?_
  rintro e w' ⟨rfl, rfl⟩
  go_wp2_with fail
  refine (HT.out _).mono ?_
  rintro e w' ⟨rfl, rfl⟩
  go_wp2_with fail
  refine (HW.out _).mono ?_
  rintro e w2 ⟨rfl, hd⟩
  go_wp2
  go_ret2
  exact ⟨ret_wb (by rw [Hx.out]; rw [HZ.out]; cases ok <;> rfl) (by rw [B.has, Hx.out]; cases ok <;> rfl), hd⟩

theorem rdo_any (op n a b : Int) (w : World) (h : B.Wds n a b) (h1 : 1 ≤ op) (h2 : op ≤ 13) :
    Calls Tryz.prog 117 #[.int .i64 op, .int .i64 n, .int .u32 a, .int .u32 b] w fun e w' => e = .returned (.tuple #[.int .u32 ((B.do_ op n a b).getD 0), .bool (B.has op n a b)]) ∧ Dr w w' := by
  rcases B.op_cases h1 h2 with rfl | rfl | rfl | rfl | rfl | rfl | rfl | rfl | rfl | rfl | rfl | rfl | rfl
  · exact rdoes1 n a b w h
  · exact rdoes2 n a b w h
  · exact rdoes3 n a b w h
  · exact rdoes4 n a b w h
  · exact rdoes5 n a b w h
  · exact rdoes6 n a b w h
  · exact rdoes7 n a b w h
  · exact rdoes8 n a b w h
  · exact rdoes9 n a b w h
  · exact rdoes10 n a b w h
  · exact rdoes11 n a b w h
  · exact rdoes12 n a b w h
  · exact rdoes13 n a b w h

theorem two_yes (op n a b : Int) (w : World) (h : B.Wds n a b) (h1 : 1 ≤ op) (h2 : op ≤ 13) : Calls Tryz.prog 116 #[.int .i64 op, .int .i64 n, .int .u32 a, .int .u32 b] w fun e w' => e = .returned (.int .i64 0) ∧ w = w' := by
  obtain ⟨n0, n1, a0, a1, b0, b1⟩ := h
  have hl := B.pw_le n1
  have wa : B.isW n a = true := B.isW_iff.2 ⟨n0, n1, a1⟩
  have wb : B.isW n b = true := B.isW_iff.2 ⟨n0, n1, b1⟩
  have HI := Lib.hid (fun W => risWidth_yes n W n0 n1)
  have ha := fun W => isWord_any n a W a0 (by omega)
  have hb := fun W => isWord_any n b W b0 (by omega)
  rw [wa] at ha
  rw [wb] at hb
  have HA := Lib.hid ha
  have HB := Lib.hid hb; clear ha hb wa wb a1 b1 hl
  go_enter Tryz.func116, Tryz.ntmps116
  go_wp2_with fail
  refine (HI.out _).mono ?_
  rintro e w' ⟨rfl, rfl⟩
  have hgt : decide (13 < op) = false := by simp; omega
  go_wp2_with fail
  refine (HA.out _).mono ?_
  rintro e w' ⟨rfl, rfl⟩
  go_wp2_with fail
  refine (HB.out _).mono ?_
  rintro e w' ⟨rfl, rfl⟩
  go_wp2
  go_ret
  exact ⟨rfl, rfl⟩

theorem two_no (op n a b : Int) (w : World) (ha : 0 ≤ a) (ha' : a < 4294967296) (hb : 0 ≤ b) (hb' : b < 4294967296) (h : B.okOp op n a b = false) : Calls Tryz.prog 116 #[.int .i64 op, .int .i64 n, .int .u32 a, .int .u32 b] w fun e w' => e = .returned (.int .i64 1) ∧ w = w' := by
  unfold B.okOp at h
  have HI := risWidth_any n w
  have HA := Lib.hid (fun W => isWord_any n a W ha ha')
  have HB := Lib.hid (fun W => isWord_any n b W hb hb')
  cases hn : B.isWd n
  · rw [hn] at HI
    have HI' := Lib.hid HI; clear HI h hn
    go_enter Tryz.func116, Tryz.ntmps116
    go_wp2_with fail
    refine HI'.out.mono ?_
    rintro e w' ⟨rfl, rfl⟩
    go_wp2
    go_ret
    exact ⟨rfl, rfl⟩
  rw [hn] at HI
  have HI' := Lib.hid HI; clear HI hn
  by_cases h1 : op < 1
  · clear h
    go_enter Tryz.func116, Tryz.ntmps116
    go_wp2_with fail
    refine HI'.out.mono ?_
    rintro e w' ⟨rfl, rfl⟩
    go_wp2
    go_ret
    exact ⟨rfl, rfl⟩
  have hd1 : decide (op < 1) = false := by simpa using h1
  by_cases h2 : 13 < op
  · clear h
    have h3 : 1 ≤ op := by omega
    go_enter Tryz.func116, Tryz.ntmps116
    go_wp2_with fail
    refine HI'.out.mono ?_
    rintro e w' ⟨rfl, rfl⟩
    go_wp2
    go_ret
    exact ⟨rfl, rfl⟩
  have h3 : 1 ≤ op := by omega
  have h4 : op ≤ 13 := by omega
  have hd2 : decide (13 < op) = false := by simpa using h2
  simp only [h3, h4, decide_true, Bool.true_and] at h
  cases hA : B.isW n a
  · have HA' := HA.out w
    rw [hA] at HA'
    have HA2 := Lib.hid HA'; clear HA' h hA
    go_enter Tryz.func116, Tryz.ntmps116
    go_wp2_with fail
    refine HI'.out.mono ?_
    rintro e w' ⟨rfl, rfl⟩
    go_wp2_with fail
    refine HA2.out.mono ?_
    rintro e w' ⟨rfl, rfl⟩
    go_wp2
    go_ret
    exact ⟨rfl, rfl⟩
  · have hB : B.isW n b = false := by rw [hA] at h; simpa using h
    have HA' := HA.out w
    rw [hA] at HA'
    have HA2 := Lib.hid HA'
    have HB' := HB.out w
    rw [hB] at HB'
    have HB2 := Lib.hid HB'; clear HA' HB' h hA hB
    go_enter Tryz.func116, Tryz.ntmps116
    go_wp2_with fail
    refine HI'.out.mono ?_
    rintro e w' ⟨rfl, rfl⟩
    go_wp2_with fail
    refine HA2.out.mono ?_
    rintro e w' ⟨rfl, rfl⟩
    go_wp2_with fail
    refine HB2.out.mono ?_
    rintro e w' ⟨rfl, rfl⟩
    go_wp2
    go_ret
    exact ⟨rfl, rfl⟩
end Go.Proofs.YtbiopedpceddeaaGreatDoor
end
section
namespace Go.Proofs.YtbiopedpceddeaaGreatDoor
open Go.RowKit
set_option linter.unusedVariables false
set_option linter.unusedSimpArgs false

set_option maxRecDepth 100000 in
set_option maxHeartbeats 8000000 in
theorem rtotal_none (op n a b : Int) (w : World) (h : B.Wds n a b) (ho : op = 4 ∨ op = 5 ∨ op = 6 ∨ op = 7 ∨ op = 11 ∨ op = 12 ∨ op = 13) (hx : B.do_ op n a b = none) : Calls Tryz.prog 115 #[.int .i64 op, .int .i64 n, .int .u32 a, .int .u32 b] w fun e w' =>
    e = .returned (.tuple #[.int .u32 (B.els op n a b), .int .i64 0]) ∧ Dr w w' := by
  have h1 : 1 ≤ op ∧ op ≤ 13 := by omega
  have ht := two_yes op n a b w h h1.1 h1.2
  have hd := rdo_any op n a b w h h1.1 h1.2
  rw [hx, show B.has op n a b = false by rw [B.has, hx]; rfl] at hd
  obtain ⟨n0, n1, a0, a1, b0, b1⟩ := h
  have hl := B.pw_le n1
  have hg := B.pw_ge2 n0
  have a2 : a < 4294967296 := by omega
  have b2 : b < 4294967296 := by omega
  have HT := Lib.hid ht
  have HD := Lib.hid hd
  have HZ := Lib.hid (fun W => rsize_any n W (by omega) n1)
  have HS := Lib.hid (fun W => rsign_any n a W n0 n1 a0 a2)
  clear ht hd hx h1 a1 b1
  have hels : ∀ z s : Int, z = B.pw n → s = B.sg n a → B.els op n a b = (if op = 4 then z - 1 else if op = 5 then a else if op = 6 then (if b ≠ 0 then a else if s < 0 then 1 else z - 1) else if op = 7 then (if b ≠ 0 then 0 else a) else if op = 13 then (if s < 0 then z - 1 else 0) else 0) := by
    rintro z s rfl rfl; rfl
  obtain ⟨z, hz⟩ : ∃ z, z = B.pw n := ⟨_, rfl⟩
  obtain ⟨s, hs⟩ : ∃ s, s = B.sg n a := ⟨_, rfl⟩
  rw [← hz] at HZ hl hg
  rw [← hs] at HS
  rw [hels z s hz hs]
  clear hels hz hs
  by_cases hb : b = 0
  · have hb0 : (b != 0) = false := by simpa using hb
    have Hb := Lib.hid hb; clear hb
    by_cases hsn : s < 0
    all_goals
      rcases ho with rfl | rfl | rfl | rfl | rfl | rfl | rfl
      all_goals
        go_enter Tryz.func115, Tryz.ntmps115
        go_wp2_with fail
        refine HT.out.mono ?_
        rintro e w' ⟨rfl, rfl⟩
        go_wp2_with fail
        refine HD.out.mono ?_
        rintro e w2 ⟨rfl, hdr⟩
        go_wp2_with fail
        refine (HZ.out _).mono ?_
        rintro e w' ⟨rfl, rfl⟩
        go_wp2_with fail
        refine (HS.out _).mono ?_
        rintro e w' ⟨rfl, rfl⟩
        go_wp2
        go_ret2
        exact ⟨ret_we (by have hb := Hb.out; simp [hb, hsn] <;> omega) rfl, hdr⟩
  · have hb0 : (b != 0) = true := by simpa using hb
    have Hb := Lib.hid hb; clear hb
    by_cases hsn : s < 0
    all_goals
      rcases ho with rfl | rfl | rfl | rfl | rfl | rfl | rfl
      all_goals
        go_enter Tryz.func115, Tryz.ntmps115
        go_wp2_with fail
        refine HT.out.mono ?_
        rintro e w' ⟨rfl, rfl⟩
        go_wp2_with fail
        refine HD.out.mono ?_
        rintro e w2 ⟨rfl, hdr⟩
        go_wp2_with fail
        refine (HZ.out _).mono ?_
        rintro e w' ⟨rfl, rfl⟩
        go_wp2_with fail
        refine (HS.out _).mono ?_
        rintro e w' ⟨rfl, rfl⟩
        go_wp2
        go_ret2
        exact ⟨ret_we (by have hb := Hb.out; simp [hb, hsn] <;> omega) rfl, hdr⟩

theorem rtotal_any (op n a b : Int) (w : World) (ha : 0 ≤ a) (ha' : a < 4294967296) (hb : 0 ≤ b) (hb' : b < 4294967296) : Calls Tryz.prog 115 #[.int .i64 op, .int .i64 n, .int .u32 a, .int .u32 b] w fun e w' =>
    e = .returned (.tuple #[.int .u32 (B.total op n a b).1, .int .i64 (B.total op n a b).2]) ∧ Dr w w' := by
  cases hok : B.okOp op n a b
  · have HT := Lib.hid (two_no op n a b w ha ha' hb hb' hok)
    have e : B.total op n a b = (0, 1) := by unfold B.total; rw [if_neg (by rw [hok]; simp)]
    rw [e]
    clear hok e
    go_enter Tryz.func115, Tryz.ntmps115
    go_wp2_with fail
    refine HT.out.mono ?_
    rintro e w' ⟨rfl, rfl⟩
    go_wp2
    go_ret2
    exact ⟨rfl, Dr.refl _⟩
  · have e : B.total op n a b = (B.full op n a b, 0) := by unfold B.total; rw [if_pos hok]
    rw [e]
    have hw : (1 ≤ op ∧ op ≤ 13) ∧ B.Wds n a b := by
      unfold B.okOp at hok
      simp only [Bool.and_eq_true, B.isW_iff, decide_eq_true_eq] at hok
      obtain ⟨⟨⟨o1, o2⟩, h1, h2, h3⟩, _, _, h4⟩ := hok
      exact ⟨⟨o1, o2⟩, h1, h2, ha, h3, hb, h4⟩
    obtain ⟨h1, hw⟩ := hw
    cases hx : B.do_ op n a b with
    | none =>
      have ho : op = 4 ∨ op = 5 ∨ op = 6 ∨ op = 7 ∨ op = 11 ∨ op = 12 ∨ op = 13 := by
        rcases B.op_cases h1.1 h1.2 with rfl | rfl | rfl | rfl | rfl | rfl | rfl | rfl | rfl | rfl | rfl | rfl | rfl
        · rw [B.do_1] at hx; cases hx
        · rw [B.do_2] at hx; cases hx
        · rw [B.do_3] at hx; cases hx
        · omega
        · omega
        · omega
        · omega
        · rw [B.do_8] at hx; cases hx
        · rw [B.do_9] at hx; cases hx
        · rw [B.do_10] at hx; cases hx
        · omega
        · omega
        · omega
      have ef : B.full op n a b = B.els op n a b := by rw [B.full, hx]; rfl
      rw [ef]
      exact rtotal_none op n a b w hw ho hx
    | some z =>
      have ht := two_yes op n a b w hw h1.1 h1.2
      have hd := rdo_any op n a b w hw h1.1 h1.2
      rw [hx, show B.has op n a b = true by rw [B.has, hx]; rfl] at hd
      have ef : B.full op n a b = z := by rw [B.full, hx]; rfl
      rw [ef]
      have HT := Lib.hid ht
      have HD := Lib.hid hd
      clear ht hd hx ef hw hok e
      go_enter Tryz.func115, Tryz.ntmps115
      go_wp2_with fail
      refine HT.out.mono ?_
      rintro e w' ⟨rfl, rfl⟩
      go_wp2_with fail
      refine HD.out.mono ?_
      rintro e w2 ⟨rfl, hdr⟩
      go_wp2
      go_ret2
      exact ⟨rfl, hdr⟩
end Go.Proofs.YtbiopedpceddeaaGreatDoor
end
