/- Walks of the reference's layer of bits: what each operation does; Total. -/
import Derived.Test.YtableoihgkmbjaaR3
import Derived.Test.YtableoihgkmbjaaB7
namespace Go.Proofs.Ytableoihgkmbjaa
open Go.RowKit
set_option linter.unusedVariables false

/-- What the reference's 'do' answers for operation k. -/
def RDoes (k : Int) : Prop := ∀ (n a b : Int) (w : World), B.Wds n a b →
  Calls Try.prog 57 #[.int .i64 k, .int .i64 n, .int .u32 a, .int .u32 b] w fun e w' => e = .returned (.tuple #[.int .u32 ((B.do_ k n a b).getD 0), .bool (B.has k n a b)]) ∧ Dr w w'

theorem sg_bound {n a b : Int} (h : B.Wds n a b) : -2147483648 ≤ B.sg n a ∧ B.sg n a < 2147483648 ∧ -2147483648 ≤ B.sg n b ∧ B.sg n b < 2147483648 := by
  obtain ⟨n0, n1, a0, a1, b0, b1⟩ := h
  have h3 := B.pw_le31 (show n - 1 ≤ 31 by omega)
  have := B.sg_lo n0 a0
  have := B.sg_hi n0 a1
  have := B.sg_lo n0 b0
  have := B.sg_hi n0 b1
  omega

theorem rdoes1 : RDoes 1 := by
  intro n a b w h
  obtain ⟨n0, n1, a0, a1, b0, b1⟩ := h
  have hl := B.pw_le n1
  have a2 : a < 4294967296 := by omega
  have b2 : b < 4294967296 := by omega
  have HS := Lib.hid (fun W => rsign_any n a W n0 n1 a0 a2)
  have HT := Lib.hid (fun W => rsign_any n b W n0 n1 b0 b2)
  have HW := Lib.hid (fun W => wrap_any n (a + b) W (by omega) n1 (by omega) (by omega))
  have Hx := Lib.hid (B.do_1 n a b)
  clear a1 b1 hl
  generalize (a + b) % B.pw n = z at HW Hx
  go_enter Try.func57, Try.ntmps57
  go_wp2_with fail
  refine (HS.out _).mono ?_
  rintro e w' ⟨rfl, rfl⟩
  go_wp2_with fail
  refine (HT.out _).mono ?_
  rintro e w' ⟨rfl, rfl⟩
  go_wp2_with fail
  refine (HW.out _).mono ?_
  rintro e w' ⟨rfl, rfl⟩
  go_wp2
  go_ret2
  exact ⟨ret_wb (by rw [Hx.out]; rfl) (by rw [B.has, Hx.out]; rfl), Dr.refl _⟩

theorem rdoes2 : RDoes 2 := by
  intro n a b w h
  obtain ⟨n0, n1, a0, a1, b0, b1⟩ := h
  have hl := B.pw_le n1
  have a2 : a < 4294967296 := by omega
  have b2 : b < 4294967296 := by omega
  have HS := Lib.hid (fun W => rsign_any n a W n0 n1 a0 a2)
  have HT := Lib.hid (fun W => rsign_any n b W n0 n1 b0 b2)
  have HW := Lib.hid (fun W => wrap_any n (a - b) W (by omega) n1 (by omega) (by omega))
  have Hx := Lib.hid (B.do_2 n a b)
  clear a1 b1 hl
  generalize (a - b) % B.pw n = z at HW Hx
  go_enter Try.func57, Try.ntmps57
  go_wp2_with fail
  refine (HS.out _).mono ?_
  rintro e w' ⟨rfl, rfl⟩
  go_wp2_with fail
  refine (HT.out _).mono ?_
  rintro e w' ⟨rfl, rfl⟩
  go_wp2_with fail
  refine (HW.out _).mono ?_
  rintro e w' ⟨rfl, rfl⟩
  go_wp2
  go_ret2
  exact ⟨ret_wb (by rw [Hx.out]; rfl) (by rw [B.has, Hx.out]; rfl), Dr.refl _⟩

theorem mul_bound {x y : Int} (h1 : -2147483648 ≤ x) (h2 : x < 2147483648) (h3 : -2147483648 ≤ y) (h4 : y < 2147483648) : -4611686018427387904 ≤ x * y ∧ x * y ≤ 4611686018427387904 := by
  have h : (x * y).natAbs ≤ 2147483648 * 2147483648 := by
    rw [Int.natAbs_mul]
    exact Nat.mul_le_mul (by omega) (by omega)
  omega

theorem rdoes3 : RDoes 3 := by
  intro n a b w h
  have hbd := sg_bound h
  obtain ⟨n0, n1, a0, a1, b0, b1⟩ := h
  have hl := B.pw_le n1
  have a2 : a < 4294967296 := by omega
  have b2 : b < 4294967296 := by omega
  have hm := mul_bound hbd.1 hbd.2.1 hbd.2.2.1 hbd.2.2.2
  have HS := Lib.hid (fun W => rsign_any n a W n0 n1 a0 a2)
  have HT := Lib.hid (fun W => rsign_any n b W n0 n1 b0 b2)
  have HW := Lib.hid (fun W => wrap_any n (B.sg n a * B.sg n b) W (by omega) n1 (by omega) (by omega))
  have hmod : B.sg n a * B.sg n b % B.pw n = a * b % B.pw n := by rw [Int.mul_emod, B.sg_mod, B.sg_mod, ← Int.mul_emod]
  have hx := B.do_3 n a b
  rw [← hmod] at hx
  have Hx := Lib.hid hx; clear hx hmod
  clear a1 b1 hl hbd
  have hw : wrap64 (B.sg n a * B.sg n b) = B.sg n a * B.sg n b := B.wrap64_id (by omega) (by omega)
  clear hm
  generalize B.sg n a * B.sg n b % B.pw n = z at HW Hx
  go_enter Try.func57, Try.ntmps57
  go_wp2_with fail
  refine (HS.out _).mono ?_
  rintro e w' ⟨rfl, rfl⟩
  go_wp2_with fail
  refine (HT.out _).mono ?_
  rintro e w' ⟨rfl, rfl⟩
  go_wp2_with fail
  refine (HW.out _).mono ?_
  rintro e w' ⟨rfl, rfl⟩
  go_wp2
  go_ret2
  exact ⟨ret_wb (by rw [Hx.out]; rfl) (by rw [B.has, Hx.out]; rfl), Dr.refl _⟩

theorem rdoes4 : RDoes 4 := by
  intro n a b w h
  obtain ⟨n0, n1, a0, a1, b0, b1⟩ := h
  have hl := B.pw_le n1
  have a2 : a < 4294967296 := by omega
  have b2 : b < 4294967296 := by omega
  have HS := Lib.hid (fun W => rsign_any n a W n0 n1 a0 a2)
  have HT := Lib.hid (fun W => rsign_any n b W n0 n1 b0 b2)
  have hx := B.do_4 n a b
  by_cases hb : b = 0
  · rw [if_pos hb] at hx
    have hs : (b == 0) = true := by simpa using hb
    have Hx := Lib.hid hx; clear hx hb a1 b1 hl
    go_enter Try.func57, Try.ntmps57
    go_wp2_with fail
    refine (HS.out _).mono ?_
    rintro e w' ⟨rfl, rfl⟩
    go_wp2_with fail
    refine (HT.out _).mono ?_
    rintro e w' ⟨rfl, rfl⟩
    go_wp2
    go_ret2
    exact ⟨ret_wb (by rw [Hx.out]; rfl) (by rw [B.has, Hx.out]; rfl), Dr.refl _⟩
  · rw [if_neg hb] at hx
    have hs : (b == 0) = false := by simpa using hb
    have hb1 : 1 ≤ b := by omega
    have Hx := Lib.hid hx; clear hx hb a1 b1 hl
    go_enter Try.func57, Try.ntmps57
    go_wp2_with fail
    refine (HS.out _).mono ?_
    rintro e w' ⟨rfl, rfl⟩
    go_wp2_with fail
    refine (HT.out _).mono ?_
    rintro e w' ⟨rfl, rfl⟩
    go_wp2
    go_ret2
    exact ⟨ret_wb (by rw [Hx.out]; rfl) (by rw [B.has, Hx.out]; rfl), Dr.refl _⟩

theorem rdoes5 : RDoes 5 := by
  intro n a b w h
  obtain ⟨n0, n1, a0, a1, b0, b1⟩ := h
  have hl := B.pw_le n1
  have a2 : a < 4294967296 := by omega
  have b2 : b < 4294967296 := by omega
  have HS := Lib.hid (fun W => rsign_any n a W n0 n1 a0 a2)
  have HT := Lib.hid (fun W => rsign_any n b W n0 n1 b0 b2)
  have hx := B.do_5 n a b
  by_cases hb : b = 0
  · rw [if_pos hb] at hx
    have hs : (b == 0) = true := by simpa using hb
    have Hx := Lib.hid hx; clear hx hb a1 b1 hl
    go_enter Try.func57, Try.ntmps57
    go_wp2_with fail
    refine (HS.out _).mono ?_
    rintro e w' ⟨rfl, rfl⟩
    go_wp2_with fail
    refine (HT.out _).mono ?_
    rintro e w' ⟨rfl, rfl⟩
    go_wp2
    go_ret2
    exact ⟨ret_wb (by rw [Hx.out]; rfl) (by rw [B.has, Hx.out]; rfl), Dr.refl _⟩
  · rw [if_neg hb] at hx
    have hs : (b == 0) = false := by simpa using hb
    have hb1 : 1 ≤ b := by omega
    have hq0 : 0 ≤ a / b * b := Int.mul_nonneg (Int.ediv_nonneg a0 b0) b0
    have hq1 : a / b * b ≤ a := Int.ediv_mul_le a hb
    have he : a % b = a - a / b * b := by have := Int.mul_ediv_add_emod a b; rw [Int.mul_comm] at this; omega
    rw [he] at hx
    have hmodq : a / b * b % 4294967296 = a / b * b := Int.emod_eq_of_lt hq0 (by omega)
    have hmodr : (a - a / b * b) % 4294967296 = a - a / b * b := Int.emod_eq_of_lt (by omega) (by omega)
    have Hx := Lib.hid hx
    have Hm := Lib.hid hmodr; clear hx he hb a1 b1 hl hq0 hq1 hmodr
    go_enter Try.func57, Try.ntmps57
    go_wp2_with fail
    refine (HS.out _).mono ?_
    rintro e w' ⟨rfl, rfl⟩
    go_wp2_with fail
    refine (HT.out _).mono ?_
    rintro e w' ⟨rfl, rfl⟩
    go_wp2
    go_ret2
    exact ⟨ret_wb (by rw [Hx.out]; exact Hm.out) (by rw [B.has, Hx.out]; rfl), Dr.refl _⟩

/-- what '/' and '%' of signed values come to -/
theorem quot_facts {n a b : Int} (h : B.Wds n a b) (hq : ¬ (b = 0 ∨ (B.sg n a = -B.pw (n - 1) ∧ B.sg n b = -1))) :
    B.sg n b ≠ 0 ∧ -2147483648 ≤ (B.sg n a).tdiv (B.sg n b) ∧ (B.sg n a).tdiv (B.sg n b) ≤ 2147483648 ∧ -2147483648 ≤ (B.sg n a).tmod (B.sg n b) ∧ (B.sg n a).tmod (B.sg n b) ≤ 2147483648 ∧
    B.sg n a - (B.sg n a).tdiv (B.sg n b) * B.sg n b = (B.sg n a).tmod (B.sg n b) ∧ -4294967296 ≤ (B.sg n a).tdiv (B.sg n b) * B.sg n b ∧ (B.sg n a).tdiv (B.sg n b) * B.sg n b ≤ 4294967296 := by
  have hbd := sg_bound h
  obtain ⟨n0, n1, a0, a1, b0, b1⟩ := h
  have hz := B.sg_zero n0 b0 b1
  have bd := B.tdiv_bound (B.sg n a) (B.sg n b)
  have bm := B.tmod_bound (B.sg n a) (B.sg n b)
  have e : B.sg n a - (B.sg n a).tdiv (B.sg n b) * B.sg n b = (B.sg n a).tmod (B.sg n b) := by
    have := Int.mul_tdiv_add_tmod (B.sg n a) (B.sg n b)
    rw [Int.mul_comm] at this
    omega
  exact ⟨fun h => hq (.inl (hz.1 h)), by omega, by omega, by omega, by omega, e, by omega, by omega⟩

theorem rdoes6 : RDoes 6 := by
  intro n a b w h
  have h9 := h
  have hbd := sg_bound h
  obtain ⟨n0, n1, a0, a1, b0, b1⟩ := h
  have hl := B.pw_le n1
  have a2 : a < 4294967296 := by omega
  have b2 : b < 4294967296 := by omega
  have HS := Lib.hid (fun W => rsign_any n a W n0 n1 a0 a2)
  have HT := Lib.hid (fun W => rsign_any n b W n0 n1 b0 b2)
  have HZ := Lib.hid (fun W => rsize_any (n - 1) W (by omega) (by omega))
  have h3 := B.pw_le31 (show n - 1 ≤ 31 by omega)
  have h4 := B.pw_pos (n - 1)
  have hx := B.do_6 n a b
  by_cases hq : b = 0 ∨ (B.sg n a = -B.pw (n - 1) ∧ B.sg n b = -1)
  · rw [if_pos hq] at hx
    have Hx := Lib.hid hx; clear hx
    by_cases hb : b = 0
    · have hs : (b == 0) = true := by simpa using hb
      clear hq hb a1 b1 hl hbd h3 h4
      go_enter Try.func57, Try.ntmps57
      go_wp2_with fail
      refine (HS.out _).mono ?_
      rintro e w' ⟨rfl, rfl⟩
      go_wp2_with fail
      refine (HT.out _).mono ?_
      rintro e w' ⟨rfl, rfl⟩
      go_wp2
      go_ret2
      exact ⟨ret_wb (by rw [Hx.out]; rfl) (by rw [B.has, Hx.out]; rfl), Dr.refl _⟩
    · have hs : (b == 0) = false := by simpa using hb
      obtain ⟨q1, q2⟩ := hq.resolve_left hb
      have hs2 : (B.sg n b == -1) = true := by rw [q2]; rfl
      have hs3 : (B.sg n a == -B.pw (n - 1)) = true := by rw [q1]; simp
      clear hq hb a1 b1 hl q1 q2 hbd
      generalize B.pw (n - 1) = z at *
      go_enter Try.func57, Try.ntmps57
      go_wp2_with fail
      refine (HS.out _).mono ?_
      rintro e w' ⟨rfl, rfl⟩
      go_wp2_with fail
      refine (HT.out _).mono ?_
      rintro e w' ⟨rfl, rfl⟩
      go_wp2_with fail
      refine (HZ.out _).mono ?_
      rintro e w' ⟨rfl, rfl⟩
      go_wp2
      go_ret2
      exact ⟨ret_wb (by rw [Hx.out]; rfl) (by rw [B.has, Hx.out]; rfl), Dr.refl _⟩
  · rw [if_neg hq] at hx
    obtain ⟨f1, f2, f3, f4, f5, f6, f7, f8⟩ := quot_facts h9 hq
    have HW := Lib.hid (fun W => wrap_any n ((B.sg n a).tdiv (B.sg n b)) W (by omega) n1 (by omega) (by omega))
    have hs : (b == 0) = false := by simpa using fun h => hq (.inl h)
    have hz : (B.sg n b == 0) = false := by simpa using f1
    have hw : wrap64 ((B.sg n a).tdiv (B.sg n b)) = (B.sg n a).tdiv (B.sg n b) := B.wrap64_id (by omega) (by omega)
    have Hx := Lib.hid hx; clear hx
    have Hq := Lib.hid hq; clear hq a1 b1 hl h9 f2 f3 f4 f5 f6 f7 f8
    generalize (B.sg n a).tdiv (B.sg n b) % B.pw n = R at HW Hx
    by_cases hs3 : B.sg n a = -B.pw (n - 1)
    · have hs4 : (B.sg n b == -1) = false := by simpa using fun h => Hq.out (.inr ⟨hs3, h⟩)
      have hs5 : (B.sg n a == -B.pw (n - 1)) = true := by rw [hs3]; simp
      clear hs3 Hq hbd
      generalize B.pw (n - 1) = z at *
      go_enter Try.func57, Try.ntmps57
      go_wp2_with fail
      refine (HS.out _).mono ?_
      rintro e w' ⟨rfl, rfl⟩
      go_wp2_with fail
      refine (HT.out _).mono ?_
      rintro e w' ⟨rfl, rfl⟩
      go_wp2_with fail
      refine (HZ.out _).mono ?_
      rintro e w' ⟨rfl, rfl⟩
      go_wp2_with fail
      refine (HW.out _).mono ?_
      rintro e w' ⟨rfl, rfl⟩
      go_wp2
      go_ret2
      exact ⟨ret_wb (by rw [Hx.out]; rfl) (by rw [B.has, Hx.out]; rfl), Dr.refl _⟩
    · have hs5 : (B.sg n a == -B.pw (n - 1)) = false := by simpa using hs3
      clear hs3 Hq hbd
      generalize B.pw (n - 1) = z at *
      go_enter Try.func57, Try.ntmps57
      go_wp2_with fail
      refine (HS.out _).mono ?_
      rintro e w' ⟨rfl, rfl⟩
      go_wp2_with fail
      refine (HT.out _).mono ?_
      rintro e w' ⟨rfl, rfl⟩
      go_wp2_with fail
      refine (HZ.out _).mono ?_
      rintro e w' ⟨rfl, rfl⟩
      go_wp2_with fail
      refine (HW.out _).mono ?_
      rintro e w' ⟨rfl, rfl⟩
      go_wp2
      go_ret2
      exact ⟨ret_wb (by rw [Hx.out]; rfl) (by rw [B.has, Hx.out]; rfl), Dr.refl _⟩
end Go.Proofs.Ytableoihgkmbjaa
