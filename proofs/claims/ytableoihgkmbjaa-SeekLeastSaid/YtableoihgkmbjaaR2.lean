/- Walks of the reference's layer of bits: bit by bit, and shifts. -/
import Derived.Test.YtableoihgkmbjaaR1
import Derived.Test.YtableoihgkmbjaaB2
namespace Go.Proofs.Ytableoihgkmbjaa
open Go.RowKit
set_option linter.unusedVariables false

theorem quiet_eq {P : Program} {f : FuncId} {args : Array Value} {w : World} {n : Nat} {v : Value}
    (h : Calls P f args (w.drewN n) fun e w' => e = .returned v ∧ w.drewN n = w') : Calls P f args (w.drewN n) fun e w'' => e = .returned v ∧ ∃ m, w'' = w.drewN m :=
  h.mono fun _ _ ⟨he, hm⟩ => ⟨he, n, hm.symm⟩

set_option maxRecDepth 100000 in
set_option maxHeartbeats 1000000 in
theorem bitwise_and (n a b : Int) (w : World) (h : B.Wds n a b) : Calls Try.prog 62 #[.int .i64 8, .int .i64 n, .int .u32 a, .int .u32 b] w fun e w' => e = .returned (.tuple #[.int .u32 ((a.toNat &&& b.toNat) : Int), .bool true]) ∧ Dr w w' := by
  obtain ⟨n0, n1, a0, a1, b0, b1⟩ := h
  have hl := B.pw_le n1
  have a2 : a < 4294967296 := by omega
  have b2 : b < 4294967296 := by omega
  have hfin : (a.toNat &&& b.toNat) % 2 ^ n.toNat = (a.toNat &&& b.toNat) := B.mod_eq (B.land_lt a0 a1)
  have hX : ((a.toNat &&& b.toNat) : Int) < 4294967296 := by have := B.land_lt (b := b) a0 a1; omega
  have hbit : ∀ j, B.bitN (a.toNat &&& b.toNat) j = B.bitN a.toNat j * B.bitN b.toNat j := fun j => B.bitN_and _ _ j
  generalize (a.toNat &&& b.toNat) = x at *
  have Hfin := Lib.hid hfin; clear hfin
  have Hbit := Lib.hid hbit; clear hbit
  clear a1 b1 hl
  obtain ⟨N, rfl⟩ : ∃ N : Nat, n = N := ⟨n.toNat, by omega⟩
  go_enter Try.func62, Try.ntmps62
  go_wp2
  go_loopw [10, 11] (fun y i wr => ∃ (j t : Nat), j ≤ N ∧ i = .int .i64 (j : Int) ∧ y = .int .i64 (t : Int) ∧ t < 4294967296 ∧ Dr w wr ∧ Hid (t = x % 2 ^ j)) (fun _ i _ => N - (intOf i).toNat)
  case atStart => exact ⟨0, 0, Nat.zero_le _, rfl, rfl, by omega, Dr.refl _, by show _ = _; simp [Nat.mod_one]⟩
  case round =>
    obtain ⟨j, t, hj, rfl, rfl, ht, hdr, HT⟩ := hrel
    by_cases hlt : j < N
    · have HS := Lib.hid (fun W => rsize_any j W (by omega) (by omega))
      have hp1 := B.pw_pos j
      have hp2 := B.pw_le31 (n := (j : Int)) (by omega)
      have hba := B.bit_int a j a0
      have hbb := B.bit_int b j b0
      have hpa : B.pw (j : Int) = 2 ^ j := rfl
      rw [← hpa] at hba hbb
      have hqa : (a / B.pw (j : Int)).tmod 2 = (B.bitN a.toNat j : Int) := by rw [Int.tmod_eq_emod_of_nonneg (Int.ediv_nonneg a0 (by omega)), hba]
      have hqb : (b / B.pw (j : Int)).tmod 2 = (B.bitN b.toNat j : Int) := by rw [Int.tmod_eq_emod_of_nonneg (Int.ediv_nonneg b0 (by omega)), hbb]
      have la := B.bitN_lt a.toNat j
      have lb := B.bitN_lt b.toNat j
      have hx := Hbit.out j
      have hpn : (B.pw (j : Int)) = ((2 ^ j : Nat) : Int) := by rw [hpa]; simp
      clear hba hbb hpa
      have Hpn := Lib.hid hpn; clear hpn
      have key : ∀ c : Nat, B.bitN x j = c → ((x % 2 ^ (j + 1) : Nat) : Int) = t + c * B.pw (j : Int) := by
        intro c hc
        rw [B.mod_succ, hc, Hpn.out, ← HT.out]
        simp
      have tlt : ∀ c : Nat, c < 2 → (t : Int) + c * B.pw (j : Int) < 9223372036854775807 := by
        intro c hc
        have : c = 0 ∨ c = 1 := by omega
        rcases this with rfl | rfl <;> simp <;> omega
      have Hkey := Lib.hid key; clear key
      have xlt : x % 2 ^ (j + 1) < 4294967296 := Nat.lt_of_le_of_lt (Nat.mod_le _ _) (by omega)
      have Htlt := Lib.hid tlt; clear tlt
      have Hxlt := Lib.hid xlt; clear xlt
      generalize B.bitN a.toNat j = P at hqa la hx
      generalize B.bitN b.toNat j = Q at hqb lb hx
      have hP : P = 0 ∨ P = 1 := by omega
      have hQ : Q = 0 ∨ Q = 1 := by omega
      clear la lb
      rcases hP with rfl | rfl <;> rcases hQ with rfl | rfl
      all_goals
        have hk := Hkey.out _ hx
        have Hk := Lib.hid hk; clear hk hx
        generalize B.pw (j : Int) = z at *
        go_wp2
        go_quiet ((go_at_call 46; exact quiet_eq (HS.out _)))
        go_wp2_with fail
        refine (HS.out _).mono ?_
        rintro e w' ⟨rfl, rfl⟩
        go_wp2
        go_roundw
        case rel => exact ⟨j + 1, x % 2 ^ (j + 1), by omega, by go_num, by have h9 := Hk.out; simp at h9 ⊢; omega, Hxlt.out, hdr.drewN _, rfl⟩
        case measure => simp [intOf]; omega
    · obtain rfl : j = N := by omega
      go_wp2
      go_ret2
      exact ⟨ret_wb (by have := HT.out; have h9 := Hfin.out; rw [Int.toNat_natCast] at h9; rw [this, h9]) rfl, hdr⟩

set_option maxRecDepth 100000 in
set_option maxHeartbeats 1000000 in
theorem bitwise_or (n a b : Int) (w : World) (h : B.Wds n a b) : Calls Try.prog 62 #[.int .i64 9, .int .i64 n, .int .u32 a, .int .u32 b] w fun e w' => e = .returned (.tuple #[.int .u32 ((a.toNat ||| b.toNat) : Int), .bool true]) ∧ Dr w w' := by
  obtain ⟨n0, n1, a0, a1, b0, b1⟩ := h
  have hl := B.pw_le n1
  have a2 : a < 4294967296 := by omega
  have b2 : b < 4294967296 := by omega
  have hfin : (a.toNat ||| b.toNat) % 2 ^ n.toNat = (a.toNat ||| b.toNat) := B.mod_eq (B.lor_lt a1 b1)
  have hX : ((a.toNat ||| b.toNat) : Int) < 4294967296 := by have := B.lor_lt a1 b1; omega
  have hbit : ∀ j, B.bitN (a.toNat ||| b.toNat) j = max (B.bitN a.toNat j) (B.bitN b.toNat j) := fun j => B.bitN_or _ _ j
  generalize (a.toNat ||| b.toNat) = x at *
  have Hfin := Lib.hid hfin; clear hfin
  have Hbit := Lib.hid hbit; clear hbit
  clear a1 b1 hl
  obtain ⟨N, rfl⟩ : ∃ N : Nat, n = N := ⟨n.toNat, by omega⟩
  go_enter Try.func62, Try.ntmps62
  go_wp2
  go_loopw [10, 11] (fun y i wr => ∃ (j t : Nat), j ≤ N ∧ i = .int .i64 (j : Int) ∧ y = .int .i64 (t : Int) ∧ t < 4294967296 ∧ Dr w wr ∧ Hid (t = x % 2 ^ j)) (fun _ i _ => N - (intOf i).toNat)
  case atStart => exact ⟨0, 0, Nat.zero_le _, rfl, rfl, by omega, Dr.refl _, by show _ = _; simp [Nat.mod_one]⟩
  case round =>
    obtain ⟨j, t, hj, rfl, rfl, ht, hdr, HT⟩ := hrel
    by_cases hlt : j < N
    · have HS := Lib.hid (fun W => rsize_any j W (by omega) (by omega))
      have hp1 := B.pw_pos j
      have hp2 := B.pw_le31 (n := (j : Int)) (by omega)
      have hba := B.bit_int a j a0
      have hbb := B.bit_int b j b0
      have hpa : B.pw (j : Int) = 2 ^ j := rfl
      rw [← hpa] at hba hbb
      have hqa : (a / B.pw (j : Int)).tmod 2 = (B.bitN a.toNat j : Int) := by rw [Int.tmod_eq_emod_of_nonneg (Int.ediv_nonneg a0 (by omega)), hba]
      have hqb : (b / B.pw (j : Int)).tmod 2 = (B.bitN b.toNat j : Int) := by rw [Int.tmod_eq_emod_of_nonneg (Int.ediv_nonneg b0 (by omega)), hbb]
      have la := B.bitN_lt a.toNat j
      have lb := B.bitN_lt b.toNat j
      have hx := Hbit.out j
      have hpn : (B.pw (j : Int)) = ((2 ^ j : Nat) : Int) := by rw [hpa]; simp
      clear hba hbb hpa
      have Hpn := Lib.hid hpn; clear hpn
      have key : ∀ c : Nat, B.bitN x j = c → ((x % 2 ^ (j + 1) : Nat) : Int) = t + c * B.pw (j : Int) := by
        intro c hc
        rw [B.mod_succ, hc, Hpn.out, ← HT.out]
        simp
      have tlt : ∀ c : Nat, c < 2 → (t : Int) + c * B.pw (j : Int) < 9223372036854775807 := by
        intro c hc
        have : c = 0 ∨ c = 1 := by omega
        rcases this with rfl | rfl <;> simp <;> omega
      have Hkey := Lib.hid key; clear key
      have xlt : x % 2 ^ (j + 1) < 4294967296 := Nat.lt_of_le_of_lt (Nat.mod_le _ _) (by omega)
      have Htlt := Lib.hid tlt; clear tlt
      have Hxlt := Lib.hid xlt; clear xlt
      generalize B.bitN a.toNat j = P at hqa la hx
      generalize B.bitN b.toNat j = Q at hqb lb hx
      have hP : P = 0 ∨ P = 1 := by omega
      have hQ : Q = 0 ∨ Q = 1 := by omega
      clear la lb
      rcases hP with rfl | rfl <;> rcases hQ with rfl | rfl
      all_goals
        have hk := Hkey.out _ hx
        have Hk := Lib.hid hk; clear hk hx
        generalize B.pw (j : Int) = z at *
        go_wp2
        go_quiet ((go_at_call 46; exact quiet_eq (HS.out _)))
        go_wp2_with fail
        refine (HS.out _).mono ?_
        rintro e w' ⟨rfl, rfl⟩
        go_wp2
        go_roundw
        case rel => exact ⟨j + 1, x % 2 ^ (j + 1), by omega, by go_num, by have h9 := Hk.out; simp at h9 ⊢; omega, Hxlt.out, hdr.drewN _, rfl⟩
        case measure => simp [intOf]; omega
    · obtain rfl : j = N := by omega
      go_wp2
      go_ret2
      exact ⟨ret_wb (by have := HT.out; have h9 := Hfin.out; rw [Int.toNat_natCast] at h9; rw [this, h9]) rfl, hdr⟩

set_option maxRecDepth 100000 in
set_option maxHeartbeats 1000000 in
theorem bitwise_xor (n a b : Int) (w : World) (h : B.Wds n a b) : Calls Try.prog 62 #[.int .i64 10, .int .i64 n, .int .u32 a, .int .u32 b] w fun e w' => e = .returned (.tuple #[.int .u32 ((a.toNat ^^^ b.toNat) : Int), .bool true]) ∧ Dr w w' := by
  obtain ⟨n0, n1, a0, a1, b0, b1⟩ := h
  have hl := B.pw_le n1
  have a2 : a < 4294967296 := by omega
  have b2 : b < 4294967296 := by omega
  have hfin : (a.toNat ^^^ b.toNat) % 2 ^ n.toNat = (a.toNat ^^^ b.toNat) := B.mod_eq (B.lxor_lt a1 b1)
  have hX : ((a.toNat ^^^ b.toNat) : Int) < 4294967296 := by have := B.lxor_lt a1 b1; omega
  have hbit : ∀ j, B.bitN (a.toNat ^^^ b.toNat) j = (B.bitN a.toNat j + B.bitN b.toNat j) % 2 := fun j => B.bitN_xor _ _ j
  generalize (a.toNat ^^^ b.toNat) = x at *
  have Hfin := Lib.hid hfin; clear hfin
  have Hbit := Lib.hid hbit; clear hbit
  clear a1 b1 hl
  obtain ⟨N, rfl⟩ : ∃ N : Nat, n = N := ⟨n.toNat, by omega⟩
  go_enter Try.func62, Try.ntmps62
  go_wp2
  go_loopw [10, 11] (fun y i wr => ∃ (j t : Nat), j ≤ N ∧ i = .int .i64 (j : Int) ∧ y = .int .i64 (t : Int) ∧ t < 4294967296 ∧ Dr w wr ∧ Hid (t = x % 2 ^ j)) (fun _ i _ => N - (intOf i).toNat)
  case atStart => exact ⟨0, 0, Nat.zero_le _, rfl, rfl, by omega, Dr.refl _, by show _ = _; simp [Nat.mod_one]⟩
  case round =>
    obtain ⟨j, t, hj, rfl, rfl, ht, hdr, HT⟩ := hrel
    by_cases hlt : j < N
    · have HS := Lib.hid (fun W => rsize_any j W (by omega) (by omega))
      have hp1 := B.pw_pos j
      have hp2 := B.pw_le31 (n := (j : Int)) (by omega)
      have hba := B.bit_int a j a0
      have hbb := B.bit_int b j b0
      have hpa : B.pw (j : Int) = 2 ^ j := rfl
      rw [← hpa] at hba hbb
      have hqa : (a / B.pw (j : Int)).tmod 2 = (B.bitN a.toNat j : Int) := by rw [Int.tmod_eq_emod_of_nonneg (Int.ediv_nonneg a0 (by omega)), hba]
      have hqb : (b / B.pw (j : Int)).tmod 2 = (B.bitN b.toNat j : Int) := by rw [Int.tmod_eq_emod_of_nonneg (Int.ediv_nonneg b0 (by omega)), hbb]
      have la := B.bitN_lt a.toNat j
      have lb := B.bitN_lt b.toNat j
      have hx := Hbit.out j
      have hpn : (B.pw (j : Int)) = ((2 ^ j : Nat) : Int) := by rw [hpa]; simp
      clear hba hbb hpa
      have Hpn := Lib.hid hpn; clear hpn
      have key : ∀ c : Nat, B.bitN x j = c → ((x % 2 ^ (j + 1) : Nat) : Int) = t + c * B.pw (j : Int) := by
        intro c hc
        rw [B.mod_succ, hc, Hpn.out, ← HT.out]
        simp
      have tlt : ∀ c : Nat, c < 2 → (t : Int) + c * B.pw (j : Int) < 9223372036854775807 := by
        intro c hc
        have : c = 0 ∨ c = 1 := by omega
        rcases this with rfl | rfl <;> simp <;> omega
      have Hkey := Lib.hid key; clear key
      have xlt : x % 2 ^ (j + 1) < 4294967296 := Nat.lt_of_le_of_lt (Nat.mod_le _ _) (by omega)
      have Htlt := Lib.hid tlt; clear tlt
      have Hxlt := Lib.hid xlt; clear xlt
      generalize B.bitN a.toNat j = P at hqa la hx
      generalize B.bitN b.toNat j = Q at hqb lb hx
      have hP : P = 0 ∨ P = 1 := by omega
      have hQ : Q = 0 ∨ Q = 1 := by omega
      clear la lb
      rcases hP with rfl | rfl <;> rcases hQ with rfl | rfl
      all_goals
        have hk := Hkey.out _ hx
        have Hk := Lib.hid hk; clear hk hx
        generalize B.pw (j : Int) = z at *
        go_wp2
        go_quiet ((go_at_call 46; exact quiet_eq (HS.out _)))
        go_wp2_with fail
        refine (HS.out _).mono ?_
        rintro e w' ⟨rfl, rfl⟩
        go_wp2
        go_roundw
        case rel => exact ⟨j + 1, x % 2 ^ (j + 1), by omega, by go_num, by have h9 := Hk.out; simp at h9 ⊢; omega, Hxlt.out, hdr.drewN _, rfl⟩
        case measure => simp [intOf]; omega
    · obtain rfl : j = N := by omega
      go_wp2
      go_ret2
      exact ⟨ret_wb (by have := HT.out; have h9 := Hfin.out; rw [Int.toNat_natCast] at h9; rw [this, h9]) rfl, hdr⟩

end Go.Proofs.Ytableoihgkmbjaa
