/- Walks of the program's layer of bits: widths, masks, signed values. -/
import Derived.Test.YtableoihgkmbjaaProg
import Derived.Test.YtableoihgkmbjaaBase
import Derived.Test.YtableoihgkmbjaaPlainB
import Derived.Laws.BitsAllLaws
import Derived.Laws.EntriesVeiled
namespace Go.Proofs.Ytableoihgkmbjaa
open Go.RowKit

theorem ret_bool {a b : Bool} (h : a = b) : Ending.returned (.bool a) = .returned (.bool b) := by rw [h]
theorem ret_int {k : IntKind} {a b : Int} (h : a = b) : Ending.returned (.int k a) = .returned (.int k b) := by rw [h]

namespace B
theorem pw_sub {n : Int} (h : 1 ≤ n) : (2 : Int) ^ (n.toNat - 1) = pw (n - 1) := by unfold pw; rw [show (n - 1).toNat = n.toNat - 1 by omega]
theorem wrap64_id {x : Int} (h : -9223372036854775808 ≤ x) (h' : x ≤ 9223372036854775807) : wrap64 x = x := IntWalk.wrap64_in x ⟨h, h'⟩
theorem and_mask {n x : Int} (hn : n ≤ 32) (h0 : 0 ≤ x) (h1 : x < 4294967296) : bits .and .u32 x (pw n - 1) = x % pw n := by
  have hp := pw_pos n
  have hl := pw_le hn
  rw [u32_and x (pw n - 1) h0 h1 (by omega) (by omega)]
  have e : (pw n - 1).toNat = 2 ^ n.toNat - 1 := by have := pw_nat n; omega
  rw [e, Nat.and_two_pow_sub_one_eq_mod]
  have h3 : ((x.toNat % 2 ^ n.toNat : Nat) : Int) = (x.toNat : Int) % ((2 ^ n.toNat : Nat) : Int) := Int.natCast_emod _ _
  rw [h3, ← pw_nat, Int.toNat_of_nonneg h0]
end B

theorem isWidth_yes (n : Int) (w : World) (h0 : 1 ≤ n) (h1 : n ≤ 32) : Calls Try.prog 53 #[.int .i64 n] w fun e w' => e = .returned (.bool true) ∧ w = w' := by
  go_enter Try.func53, Try.ntmps53
  go_wp2
  go_ret
  exact ⟨rfl, rfl⟩
theorem isWidth_no (n : Int) (w : World) (h : n < 1 ∨ 32 < n) : Calls Try.prog 53 #[.int .i64 n] w fun e w' => e = .returned (.bool false) ∧ w = w' := by
  rcases h with h | h
  · go_enter Try.func53, Try.ntmps53
    go_wp2
    go_ret
    exact ⟨rfl, rfl⟩
  · have h1 : 1 ≤ n := by omega
    have hd : decide (n ≤ 32) = false := by simp; omega
    go_enter Try.func53, Try.ntmps53
    go_wp2
    go_ret
    exact ⟨rfl, rfl⟩
theorem isWidth_any (n : Int) (w : World) : Calls Try.prog 53 #[.int .i64 n] w fun e w' => e = .returned (.bool (B.isWd n)) ∧ w = w' := by
  cases h : B.isWd n
  · exact isWidth_no n w (by have : ¬ (1 ≤ n ∧ n ≤ 32) := fun hc => by rw [B.isWd_iff.2 hc] at h; cases h
                             omega)
  · have := B.isWd_iff.1 h
    exact isWidth_yes n w this.1 this.2

theorem mask_any (n : Int) (w : World) (h0 : 0 ≤ n) (h1 : n ≤ 32) : Calls Try.prog 54 #[.int .i64 n] w fun e w' => e = .returned (.int .u32 (B.pw n - 1)) ∧ w = w' := by
  go_enter Try.func54, Try.ntmps54
  go_wp2
  go_ret
  refine ⟨ret_int ?_, rfl⟩
  have e : (2 : Int) ^ n.toNat = B.pw n := rfl
  have hp := B.pw_pos n
  have hl := B.pw_le h1
  rw [e, IntKind.wrap_u64, IntKind.wrap_u64]
  omega

theorem Mask_any (n : Int) (w : World) : Calls Try.prog 41 #[.int .i64 n] w fun e w' => e = .returned (.tuple #[.int .u32 (if B.isWd n then B.pw n - 1 else 0), .int .i64 (if B.isWd n then 0 else 1)]) ∧ w = w' := by
  have H1 := Lib.hid (isWidth_any n w)
  cases h : B.isWd n
  · rw [h] at H1
    have Hh := Lib.hid h; clear h
    go_enter Try.func41, Try.ntmps41
    go_wp2_with fail
    refine H1.out.mono ?_
    rintro e w' ⟨rfl, rfl⟩
    go_wp2
    go_ret2
    exact ⟨rfl, rfl⟩
  · have hn := B.isWd_iff.1 h
    rw [h] at H1
    have H2 := Lib.hid (mask_any n w (by omega) hn.2)
    have Hh := Lib.hid h; clear h hn
    go_enter Try.func41, Try.ntmps41
    go_wp2_with fail
    refine H1.out.mono ?_
    rintro e w' ⟨rfl, rfl⟩
    go_wp2_with fail
    refine H2.out.mono ?_
    rintro e w' ⟨rfl, rfl⟩
    go_wp2
    go_ret2
    exact ⟨rfl, rfl⟩

theorem signed_any (n x : Int) (w : World) (h0 : 1 ≤ n) (h1 : n ≤ 32) (h2 : 0 ≤ x) (h3 : x < B.pw n) : Calls Try.prog 80 #[.int .i64 n, .int .u32 x] w fun e w' => e = .returned (.int .i64 (B.sg n x)) ∧ w = w' := by
  have hp := B.pw_succ h0
  have hq := B.pw_pos (n - 1)
  have hl := B.pw_le h1
  have e1 := B.pw_sub h0
  have e2 : (2 : Int) ^ n.toNat = B.pw n := rfl
  by_cases hc : B.pw (n - 1) ≤ x
  · have ht : (x / 2 ^ (n.toNat - 1) == 1) = true := by
      rw [e1]
      have : x / B.pw (n - 1) = 1 := by
        have h4 : x = B.pw (n - 1) * 1 + (x - B.pw (n - 1)) := by omega
        rw [h4, Int.mul_comm, Int.mul_add_ediv_right _ _ (by omega), Int.ediv_eq_zero_of_lt (by omega) (by omega)]; rfl
      rw [this]; rfl
    have h4 : x < 4294967296 := by omega
    have Hc := Lib.hid (⟨hp, hq, hl, e2, hc, h3⟩ : _ ∧ _ ∧ _ ∧ _ ∧ _ ∧ _); clear hp hq hl e1 e2 hc h3
    go_enter Try.func80, Try.ntmps80
    go_wp2
    go_ret
    refine ⟨ret_int ?_, rfl⟩
    obtain ⟨hp, hq, hl, e2, hc, h3⟩ := Hc.out
    rw [e2, B.wrap64_id (x := B.pw n) (by omega) (by omega), B.wrap64_id (by omega) (by omega), B.sg, if_pos hc]
  · have ht : (x / 2 ^ (n.toNat - 1) == 1) = false := by
      rw [e1, Int.ediv_eq_zero_of_lt h2 (by omega)]; rfl
    have h4 : x < 4294967296 := by omega
    have Hc := Lib.hid (Int.not_le.2 (Int.not_le.1 hc)); clear hp hq hl e1 e2 hc h3
    go_enter Try.func80, Try.ntmps80
    go_wp2
    go_ret
    exact ⟨ret_int (by rw [B.sg, if_neg (by have := Hc.out; omega)]), rfl⟩

theorem sign_any (n x : Int) (w : World) (h0 : 1 ≤ n) (h1 : n ≤ 32) (h2 : 0 ≤ x) (h3 : x < B.pw n) : Calls Try.prog 92 #[.int .i64 n, .int .u32 x] w fun e w' => e = .returned (.int .u32 (if B.sg n x < 0 then B.pw n - 1 else 0)) ∧ w = w' := by
  have H1 := Lib.hid (signed_any n x w h0 h1 h2 h3)
  have H2 := Lib.hid (mask_any n w (by omega) h1)
  clear h3
  by_cases hc : B.sg n x < 0
  · go_enter Try.func92, Try.ntmps92
    go_wp2_with fail
    refine H1.out.mono ?_
    rintro e w' ⟨rfl, rfl⟩
    go_wp2_with fail
    refine H2.out.mono ?_
    rintro e w' ⟨rfl, rfl⟩
    go_wp2
    go_ret
    exact ⟨rfl, rfl⟩
  · go_enter Try.func92, Try.ntmps92
    go_wp2_with fail
    refine H1.out.mono ?_
    rintro e w' ⟨rfl, rfl⟩
    go_wp2
    go_ret
    exact ⟨rfl, rfl⟩
end Go.Proofs.Ytableoihgkmbjaa
