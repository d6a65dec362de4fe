/- Plain words of the layer of bits, as the reference reckons them: bit by bit; no program. -/
import Derived.Test.YtableoihgkmbjaaPlainB
namespace Go.Proofs.Ytableoihgkmbjaa.B

theorem tmod_fix (x m : Int) (hm : 0 < m) : (if x.tmod m < 0 then x.tmod m + m else x.tmod m) = x % m := by
  have h := Int.tmod_eq_emod (a := x) (b := m)
  have h0 := Int.emod_nonneg x (show m ≠ 0 by omega)
  have h1 := Int.emod_lt_of_pos x hm
  have hn : (m.natAbs : Int) = m := by omega
  by_cases hx : 0 ≤ x ∨ m ∣ x
  · rw [if_pos hx] at h
    rw [h, if_neg (by omega)]; omega
  · rw [if_neg hx] at h
    rw [h, if_pos (by omega)]; omega

/-- a step of dividing by 2, rounding down -/
theorem half_neg (x : Int) : -((1 - x) / 2) = x / 2 := by omega
theorem half_step (x : Int) (k : Nat) : x / 2 / 2 ^ k = x / 2 ^ (k + 1) := by
  rw [Int.pow_succ, Int.mul_comm, ← Int.ediv_ediv_of_nonneg (by decide)]
theorem half_step' (x : Int) (k : Nat) : x / 2 ^ k / 2 = x / 2 ^ (k + 1) := by
  rw [Int.pow_succ, ← Int.ediv_ediv_of_nonneg (Int.pow_nonneg (by decide))]

def bitN (x i : Nat) : Nat := x / 2 ^ i % 2
theorem bitN_lt (x i : Nat) : bitN x i < 2 := Nat.mod_lt _ (by decide)
theorem bitN_test (x i : Nat) : bitN x i = if x.testBit i then 1 else 0 := by
  unfold bitN
  rw [Nat.testBit_eq_decide_div_mod_eq]
  have : x / 2 ^ i % 2 = 0 ∨ x / 2 ^ i % 2 = 1 := by omega
  rcases this with h | h <;> simp [h]
theorem mod_succ (x i : Nat) : x % 2 ^ (i + 1) = x % 2 ^ i + bitN x i * 2 ^ i := by
  unfold bitN
  rw [Nat.pow_succ, Nat.mod_mul, Nat.mul_comm (2 ^ i)]
theorem bitN_and (a b i : Nat) : bitN (a &&& b) i = bitN a i * bitN b i := by
  simp only [bitN_test, Nat.testBit_and]
  cases a.testBit i <;> cases b.testBit i <;> rfl
theorem bitN_or (a b i : Nat) : bitN (a ||| b) i = max (bitN a i) (bitN b i) := by
  simp only [bitN_test, Nat.testBit_or]
  cases a.testBit i <;> cases b.testBit i <;> rfl
theorem bitN_xor (a b i : Nat) : bitN (a ^^^ b) i = (bitN a i + bitN b i) % 2 := by
  simp only [bitN_test, Nat.testBit_xor]
  cases a.testBit i <;> cases b.testBit i <;> rfl
/-- the bit as whole numbers reckon it -/
theorem bit_int (x : Int) (i : Nat) (h : 0 ≤ x) : x / 2 ^ i % 2 = (bitN x.toNat i : Int) := by
  unfold bitN
  obtain ⟨X, rfl⟩ := Int.eq_ofNat_of_zero_le h
  simp
theorem mod_eq {x : Nat} {n : Int} (h : (x : Int) < pw n) : x % 2 ^ n.toNat = x := by
  rw [pw_nat] at h
  exact Nat.mod_eq_of_lt (by omega)

/-- doubling modulo m, k times -/
theorem dbl_step (a m : Int) (k : Nat) : 2 * (a * 2 ^ k % m) % m = a * 2 ^ (k + 1) % m := by
  rw [Int.pow_succ, ← Int.mul_assoc, Int.mul_comm 2, Int.mul_emod, Int.emod_emod, ← Int.mul_emod]
end Go.Proofs.Ytableoihgkmbjaa.B
