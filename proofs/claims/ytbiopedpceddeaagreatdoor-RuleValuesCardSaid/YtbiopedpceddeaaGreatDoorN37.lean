/- Walks of the program's layer of bits: results without a limit, and what is left over. -/
import Derived.Test.YtbiopedpceddeaaGreatDoorN36
import Derived.Test.YtbiopedpceddeaaGreatDoorN01
import Derived.Laws.Bits64b
set_option linter.unusedVariables false
set_option linter.unusedSimpArgs false
namespace Go.Proofs.YtbiopedpceddeaaGreatDoor
open Go.RowKit Go.Maps Go.Shelf
set_option linter.unusedVariables false
set_option linter.unusedSimpArgs false

/-- what is asked of the function that tells the result without a limit -/
def WholeAt (k : Int) (g : Nat) : Prop := ∀ (x y : Int) (W : World), (-4294967295 ≤ x ∧ x ≤ 4294967295) → (-4294967295 ≤ y ∧ y ≤ 4294967295) → (k = 11 → 0 ≤ y ∧ y ≤ 31) →
  Calls Tryz.prog g #[.int .i64 x, .int .i64 y] W fun e w' => e = .returned (.int .i64 (B.whP k x y)) ∧ W = w'
/-- what is asked of the function that tells whether something is left -/
def LeftAt (k : Int) (g : Nat) : Prop := ∀ (n a b : Int) (W : World), B.Wds n a b → (B.do_ k n a b).isSome = true →
  Calls Tryz.prog g #[.int .i64 n, .int .u32 a, .int .u32 b] W fun e w' => e = .returned (.bool (B.lf k n a b)) ∧ Dr W w'
def Ent (g : Nat) : Prop := ∀ args w, (callFunc g args).run Tryz.prog w = .ok (.enter g args) w
/-- the two functions beside the first one -/
def WL (k : Int) (v1 v2 : Value) : Prop :=
  ((B.isWh k = true ∧ ∃ g, v1 = .func (.func g) #[] #[] ∧ Ent g ∧ WholeAt k g) ∨ (B.isWh k = false ∧ v1 = .nilFunc)) ∧
  ((B.isLf k = true ∧ ∃ g, v2 = .func (.func g) #[] #[] ∧ Ent g ∧ LeftAt k g) ∨ (B.isLf k = false ∧ v2 = .nilFunc))

theorem whole1 : WholeAt 1 199 := by
  intro x y W hx hy _
  obtain ⟨x0, x1⟩ := hx
  obtain ⟨y0, y1⟩ := hy
  have e : wrap64 (x + y) = x + y := B.wrap64_id (by omega) (by omega)
  go_enter Tryz.func199, Tryz.ntmps199
  go_wp2
  go_ret
  exact ⟨rfl, rfl⟩
theorem whole2 : WholeAt 2 201 := by
  intro x y W hx hy _
  obtain ⟨x0, x1⟩ := hx
  obtain ⟨y0, y1⟩ := hy
  have e : wrap64 (x - y) = x - y := B.wrap64_id (by omega) (by omega)
  go_enter Tryz.func201, Tryz.ntmps201
  go_wp2
  go_ret
  exact ⟨rfl, rfl⟩
theorem whole11 : WholeAt 11 218 := by
  intro x y W hx hy hs
  have hb := B.wh_bound (op := 11) (.inr (.inr rfl)) ⟨by omega, hx.2⟩ ⟨by omega, hy.2⟩ hs
  obtain ⟨s0, s1⟩ := hs rfl
  obtain ⟨r, hr⟩ : ∃ r, r = B.wh 11 x y := ⟨_, rfl⟩
  rw [← hr] at hb
  have hr2 : r = x * B.pw y := hr
  have Hr := Lib.hid hr
  clear hr
  go_enter Tryz.func218, Tryz.ntmps218
  go_wp2
  go_ret
  exact ⟨ret_int (a := wrap64 (x * 2 ^ y.toNat)) (by rw [show B.whP 11 x y = r from Hr.out.symm, hr2]; exact B.wrap64_id (show -9223372036854775808 ≤ x * B.pw y from by rw [← hr2]; exact hb.1) (show x * B.pw y ≤ 9223372036854775807 from by rw [← hr2]; exact hb.2)), rfl⟩
theorem left4 : LeftAt 4 207 := by
  intro n a b W h hd
  obtain ⟨n0, n1, a0, a1, b0, b1⟩ := h
  have hl := B.pw_le n1
  have hb : b ≠ 0 := by rintro rfl; rw [B.do_4, if_pos rfl] at hd; cases hd
  have hs : (b == 0) = false := by simpa using hb
  have a2 : a < 4294967296 := by omega
  have b2 : b < 4294967296 := by omega
  have hb1 : 1 ≤ b := by omega
  have e : (a % b != 0) = B.lf 4 n a b := by rw [Bool.eq_iff_iff]; simp [B.lf]
  have E := Lib.hid e
  clear hd hl a1 b1 e
  go_enter Tryz.func207, Tryz.ntmps207
  go_wp2
  go_ret
  exact ⟨ret_bool E.out, Dr.refl _⟩
theorem ret_uu {a a' b b' : Int} (h : a = a') (h' : b = b') : Ending.returned (.tuple #[.int .u64 a, .int .u64 b]) = .returned (.tuple #[.int .u64 a', .int .u64 b']) := by rw [h, h']
theorem and64 {x : Int} (h0 : 0 ≤ x) (h1 : x ≤ 4294967295) : bits .and .u64 x 4294967295 = x := by
  obtain ⟨n, rfl⟩ : ∃ n : Nat, x = n := ⟨x.toNat, by omega⟩
  have h := bits_and_u64_nat n 4294967295 (by omega) (by omega)
  have e : n &&& 4294967295 = n % 4294967296 := Nat.and_two_pow_sub_one_eq_mod n 32
  rw [e] at h
  exact h.trans (by omega)
theorem wrap64u {x : Int} (h0 : 0 ≤ x) (h1 : x < 18446744073709551616) : IntKind.u64.wrap x = x := by rw [IntKind.wrap_u64]; omega
theorem mul64_small (x y : Int) (W : World) (hx : 0 ≤ x ∧ x ≤ 4294967295) (hy : 0 ≤ y ∧ y ≤ 4294967295) :
    Calls Tryz.prog 204 #[.int .u64 x, .int .u64 y] W fun e w' => e = .returned (.tuple #[.int .u64 0, .int .u64 (x * y)]) ∧ W = w' := by
  obtain ⟨x0, x1⟩ := hx
  obtain ⟨y0, y1⟩ := hy
  have hp0 : 0 ≤ x * y := Int.mul_nonneg x0 y0
  have hp1 : x * y ≤ 4294967295 * 4294967295 := Int.mul_le_mul x1 y1 y0 (by omega)
  have ex : x / 4294967296 = 0 := by omega
  have ey : y / 4294967296 = 0 := by omega
  have ax := and64 x0 x1
  have ay := and64 y0 y1
  have wp := wrap64u hp0 (by omega)
  have ap := and64 (x := x * y / 4294967296) (by omega) (by omega)
  have wq := wrap64u (x := x * y / 4294967296) (by omega) (by omega)
  have ez : x * y / 4294967296 / 4294967296 = 0 := by omega
  have w0 : IntKind.u64.wrap 0 = 0 := rfl
  go_enter Tryz.func204, Tryz.ntmps204
  go_wp2
  go_ret2
  refine ⟨ret_uu ?_ rfl, rfl⟩
  simp only [ex, ey, ax, ay, wp, ap, wq, ez, w0, Int.zero_mul, Int.mul_zero, Int.zero_add, Int.add_zero]
theorem whp3 {x y X Y : Int} (hX : X = x ∨ X = -x) (hY : Y = y ∨ Y = -y) (hx : 0 ≤ X) (hy : 0 ≤ Y) : B.whP 3 x y = if 4611686018427387904 ≤ X * Y then 4611686018427387904 else x * y := by
  have h1 : (x.natAbs : Int) = X := by omega
  have h2 : (y.natAbs : Int) = Y := by omega
  unfold B.whP
  rw [if_pos rfl, Int.natAbs_mul, Int.natCast_mul, h1, h2]
  try rfl
theorem whole3 : WholeAt 3 203 := by
  intro x y W hx hy _
  obtain ⟨x0, x1⟩ := hx
  obtain ⟨y0, y1⟩ := hy
  rcases Int.lt_or_le x 0 with sx | sx
  · rcases Int.lt_or_le y 0 with sy | sy
    · have hm := whp3 (x := x) (y := y) (X := (-x)) (Y := (-y)) (by omega) (by omega) (by omega) (by omega)
      have HM := Lib.hid (mul64_small (-x) (-y) W ⟨by omega, by omega⟩ ⟨by omega, by omega⟩)
      by_cases hp : 4611686018427387904 ≤ (-x) * (-y)
      · have hd : decide (4611686018427387904 ≤ (-x) * (-y)) = true := by simpa using hp
        rw [if_pos hp] at hm
        have Hm := Lib.hid hm
        clear hm hp
        go_enter Tryz.func203, Tryz.ntmps203
        go_wp2_with fail
        all_goals first
          | (exfalso; omega)
          | ((with_reducible refine HM.out.mono ?_)
             rintro e w1 ⟨rfl, rfl⟩
             go_wp2
             go_ret
             exact ⟨ret_int Hm.out.symm, rfl⟩)
      · have hd : decide (4611686018427387904 ≤ (-x) * (-y)) = false := by simpa using hp
        rw [if_neg hp] at hm
        have hw : wrap64 (x * y) = x * y := B.wrap64_id (by have h1 := Int.neg_mul x y; have h2 := Int.mul_neg x y; have h3 := Int.neg_mul_neg x y; have h4 := Int.mul_nonneg (a := (-x)) (b := (-y)) (by omega) (by omega); omega) (by have h1 := Int.neg_mul x y; have h2 := Int.mul_neg x y; have h3 := Int.neg_mul_neg x y; have h4 := Int.mul_nonneg (a := (-x)) (b := (-y)) (by omega) (by omega); omega)
        have Hm := Lib.hid hm
        clear hm hp
        go_enter Tryz.func203, Tryz.ntmps203
        go_wp2_with fail
        all_goals first
          | (exfalso; omega)
          | ((with_reducible refine HM.out.mono ?_)
             rintro e w1 ⟨rfl, rfl⟩
             go_wp2
             go_ret
             exact ⟨ret_int (hw.trans Hm.out.symm), rfl⟩)
    · have hm := whp3 (x := x) (y := y) (X := (-x)) (Y := y) (by omega) (by omega) (by omega) (by omega)
      have HM := Lib.hid (mul64_small (-x) y W ⟨by omega, by omega⟩ ⟨by omega, by omega⟩)
      by_cases hp : 4611686018427387904 ≤ (-x) * y
      · have hd : decide (4611686018427387904 ≤ (-x) * y) = true := by simpa using hp
        rw [if_pos hp] at hm
        have Hm := Lib.hid hm
        clear hm hp
        go_enter Tryz.func203, Tryz.ntmps203
        go_wp2_with fail
        all_goals first
          | (exfalso; omega)
          | ((with_reducible refine HM.out.mono ?_)
             rintro e w1 ⟨rfl, rfl⟩
             go_wp2
             go_ret
             exact ⟨ret_int Hm.out.symm, rfl⟩)
      · have hd : decide (4611686018427387904 ≤ (-x) * y) = false := by simpa using hp
        rw [if_neg hp] at hm
        have hw : wrap64 (x * y) = x * y := B.wrap64_id (by have h1 := Int.neg_mul x y; have h2 := Int.mul_neg x y; have h3 := Int.neg_mul_neg x y; have h4 := Int.mul_nonneg (a := (-x)) (b := y) (by omega) (by omega); omega) (by have h1 := Int.neg_mul x y; have h2 := Int.mul_neg x y; have h3 := Int.neg_mul_neg x y; have h4 := Int.mul_nonneg (a := (-x)) (b := y) (by omega) (by omega); omega)
        have Hm := Lib.hid hm
        clear hm hp
        go_enter Tryz.func203, Tryz.ntmps203
        go_wp2_with fail
        all_goals first
          | (exfalso; omega)
          | ((with_reducible refine HM.out.mono ?_)
             rintro e w1 ⟨rfl, rfl⟩
             go_wp2
             go_ret
             exact ⟨ret_int (hw.trans Hm.out.symm), rfl⟩)
  · rcases Int.lt_or_le y 0 with sy | sy
    · have hm := whp3 (x := x) (y := y) (X := x) (Y := (-y)) (by omega) (by omega) (by omega) (by omega)
      have HM := Lib.hid (mul64_small x (-y) W ⟨by omega, by omega⟩ ⟨by omega, by omega⟩)
      by_cases hp : 4611686018427387904 ≤ x * (-y)
      · have hd : decide (4611686018427387904 ≤ x * (-y)) = true := by simpa using hp
        rw [if_pos hp] at hm
        have Hm := Lib.hid hm
        clear hm hp
        go_enter Tryz.func203, Tryz.ntmps203
        go_wp2_with fail
        all_goals first
          | (exfalso; omega)
          | ((with_reducible refine HM.out.mono ?_)
             rintro e w1 ⟨rfl, rfl⟩
             go_wp2
             go_ret
             exact ⟨ret_int Hm.out.symm, rfl⟩)
      · have hd : decide (4611686018427387904 ≤ x * (-y)) = false := by simpa using hp
        rw [if_neg hp] at hm
        have hw : wrap64 (x * y) = x * y := B.wrap64_id (by have h1 := Int.neg_mul x y; have h2 := Int.mul_neg x y; have h3 := Int.neg_mul_neg x y; have h4 := Int.mul_nonneg (a := x) (b := (-y)) (by omega) (by omega); omega) (by have h1 := Int.neg_mul x y; have h2 := Int.mul_neg x y; have h3 := Int.neg_mul_neg x y; have h4 := Int.mul_nonneg (a := x) (b := (-y)) (by omega) (by omega); omega)
        have Hm := Lib.hid hm
        clear hm hp
        go_enter Tryz.func203, Tryz.ntmps203
        go_wp2_with fail
        all_goals first
          | (exfalso; omega)
          | ((with_reducible refine HM.out.mono ?_)
             rintro e w1 ⟨rfl, rfl⟩
             go_wp2
             go_ret
             exact ⟨ret_int (hw.trans Hm.out.symm), rfl⟩)
    · have hm := whp3 (x := x) (y := y) (X := x) (Y := y) (by omega) (by omega) (by omega) (by omega)
      have HM := Lib.hid (mul64_small x y W ⟨by omega, by omega⟩ ⟨by omega, by omega⟩)
      by_cases hp : 4611686018427387904 ≤ x * y
      · have hd : decide (4611686018427387904 ≤ x * y) = true := by simpa using hp
        rw [if_pos hp] at hm
        have Hm := Lib.hid hm
        clear hm hp
        go_enter Tryz.func203, Tryz.ntmps203
        go_wp2_with fail
        all_goals first
          | (exfalso; omega)
          | ((with_reducible refine HM.out.mono ?_)
             rintro e w1 ⟨rfl, rfl⟩
             go_wp2
             go_ret
             exact ⟨ret_int Hm.out.symm, rfl⟩)
      · have hd : decide (4611686018427387904 ≤ x * y) = false := by simpa using hp
        rw [if_neg hp] at hm
        have hw : wrap64 (x * y) = x * y := B.wrap64_id (by have h1 := Int.neg_mul x y; have h2 := Int.mul_neg x y; have h3 := Int.neg_mul_neg x y; have h4 := Int.mul_nonneg (a := x) (b := y) (by omega) (by omega); omega) (by have h1 := Int.neg_mul x y; have h2 := Int.mul_neg x y; have h3 := Int.neg_mul_neg x y; have h4 := Int.mul_nonneg (a := x) (b := y) (by omega) (by omega); omega)
        have Hm := Lib.hid hm
        clear hm hp
        go_enter Tryz.func203, Tryz.ntmps203
        go_wp2_with fail
        all_goals first
          | (exfalso; omega)
          | ((with_reducible refine HM.out.mono ?_)
             rintro e w1 ⟨rfl, rfl⟩
             go_wp2
             go_ret
             exact ⟨ret_int (hw.trans Hm.out.symm), rfl⟩)
theorem left6 : LeftAt 6 211 := by
  intro n a b W h hd
  have hq : ¬ (b = 0 ∨ (B.sg n a = -B.pw (n - 1) ∧ B.sg n b = -1)) := fun h2 => by rw [B.do_6, if_pos h2] at hd; cases hd
  have HQ := Lib.hid (quotient_some n a b W h hq)
  have E := Lib.hid (show ((B.sg n a).tmod (B.sg n b) != 0) = B.lf 6 n a b from by rw [Bool.eq_iff_iff]; simp [B.lf])
  clear hd hq h
  go_enter Tryz.func211, Tryz.ntmps211
  go_wp2_with fail
  (with_reducible refine HQ.out.mono ?_)
  rintro e w1 ⟨rfl, hd1⟩
  go_wp2
  go_ret
  exact ⟨ret_bool E.out, hd1⟩
theorem lf_sh {a b : Int} (ha : 0 ≤ a) (ha2 : a < 4294967296) : (a / 2 ^ b.toNat * 2 ^ b.toNat % 4294967296 != a) = decide (a % B.pw b ≠ 0) := by
  have h := Int.mul_ediv_add_emod a (B.pw b)
  have h2 := Int.emod_nonneg a (show B.pw b ≠ 0 from by have := B.pw_pos b; omega)
  rw [Int.mul_comm] at h
  show (a / B.pw b * B.pw b % 4294967296 != a) = decide (a % B.pw b ≠ 0)
  have h3 : 0 ≤ a / B.pw b * B.pw b := Int.mul_nonneg (Int.ediv_nonneg ha (by have := B.pw_pos b; omega)) (by have := B.pw_pos b; omega)
  rw [Bool.eq_iff_iff]
  simp only [bne_iff_ne, ne_eq, decide_eq_true_eq]
  omega
theorem left12 : LeftAt 12 220 := by
  intro n a b W h hd
  obtain ⟨n0, n1, a0, a1, b0, b1⟩ := h
  have hl := B.pw_le n1
  have hbn : b < n := by
    by_cases hb : n ≤ b
    · rw [B.do_12, if_pos hb] at hd; cases hd
    · omega
  have a2 : a < 4294967296 := by omega
  have b2 : b ≤ 31 := by omega
  have E := Lib.hid (lf_sh (b := b) a0 a2)
  clear hd hl a1 b1
  go_enter Tryz.func220, Tryz.ntmps220
  go_wp2
  go_ret
  exact ⟨ret_bool E.out, Dr.refl _⟩
theorem left13 : LeftAt 13 223 := by
  intro n a b W h hd
  obtain ⟨n0, n1, a0, a1, b0, b1⟩ := h
  have hl := B.pw_le n1
  have hbn : b < n := by
    by_cases hb : n ≤ b
    · rw [B.do_13, if_pos hb] at hd; cases hd
    · omega
  have a2 : a < 4294967296 := by omega
  have b2 : b ≤ 31 := by omega
  have E := Lib.hid (lf_sh (b := b) a0 a2)
  clear hd hl a1 b1
  go_enter Tryz.func223, Tryz.ntmps223
  go_wp2
  go_ret
  exact ⟨ret_bool E.out, Dr.refl _⟩
theorem wl1 : WL 1 (.func (.func 199) #[] #[]) (.nilFunc) := ⟨.inl ⟨rfl, _, rfl, enters_of Tryz.func199 (by kernel_rfl) rfl, whole1⟩, .inr ⟨rfl, rfl⟩⟩
theorem wl2 : WL 2 (.func (.func 201) #[] #[]) (.nilFunc) := ⟨.inl ⟨rfl, _, rfl, enters_of Tryz.func201 (by kernel_rfl) rfl, whole2⟩, .inr ⟨rfl, rfl⟩⟩
theorem wl3 : WL 3 (.func (.func 203) #[] #[]) (.nilFunc) := ⟨.inl ⟨rfl, _, rfl, enters_of Tryz.func203 (by kernel_rfl) rfl, whole3⟩, .inr ⟨rfl, rfl⟩⟩
theorem wl4 : WL 4 (.nilFunc) (.func (.func 207) #[] #[]) := ⟨.inr ⟨rfl, rfl⟩, .inl ⟨rfl, _, rfl, enters_of Tryz.func207 (by kernel_rfl) rfl, left4⟩⟩
theorem wl5 : WL 5 (.nilFunc) (.nilFunc) := ⟨.inr ⟨rfl, rfl⟩, .inr ⟨rfl, rfl⟩⟩
theorem wl6 : WL 6 (.nilFunc) (.func (.func 211) #[] #[]) := ⟨.inr ⟨rfl, rfl⟩, .inl ⟨rfl, _, rfl, enters_of Tryz.func211 (by kernel_rfl) rfl, left6⟩⟩
theorem wl7 : WL 7 (.nilFunc) (.nilFunc) := ⟨.inr ⟨rfl, rfl⟩, .inr ⟨rfl, rfl⟩⟩
theorem wl8 : WL 8 (.nilFunc) (.nilFunc) := ⟨.inr ⟨rfl, rfl⟩, .inr ⟨rfl, rfl⟩⟩
theorem wl9 : WL 9 (.nilFunc) (.nilFunc) := ⟨.inr ⟨rfl, rfl⟩, .inr ⟨rfl, rfl⟩⟩
theorem wl10 : WL 10 (.nilFunc) (.nilFunc) := ⟨.inr ⟨rfl, rfl⟩, .inr ⟨rfl, rfl⟩⟩
theorem wl11 : WL 11 (.func (.func 218) #[] #[]) (.nilFunc) := ⟨.inl ⟨rfl, _, rfl, enters_of Tryz.func218 (by kernel_rfl) rfl, whole11⟩, .inr ⟨rfl, rfl⟩⟩
theorem wl12 : WL 12 (.nilFunc) (.func (.func 220) #[] #[]) := ⟨.inr ⟨rfl, rfl⟩, .inl ⟨rfl, _, rfl, enters_of Tryz.func220 (by kernel_rfl) rfl, left12⟩⟩
theorem wl13 : WL 13 (.nilFunc) (.func (.func 223) #[] #[]) := ⟨.inr ⟨rfl, rfl⟩, .inl ⟨rfl, _, rfl, enters_of Tryz.func223 (by kernel_rfl) rfl, left13⟩⟩
end Go.Proofs.YtbiopedpceddeaaGreatDoor
