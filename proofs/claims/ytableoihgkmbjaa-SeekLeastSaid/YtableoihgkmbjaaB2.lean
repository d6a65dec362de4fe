/- Walks of the program's layer of bits: what each operation does. -/
import Derived.Test.YtableoihgkmbjaaB1
namespace Go.Proofs.Ytableoihgkmbjaa
open Go.RowKit
set_option linter.unusedVariables false

namespace B
def has (op n a b : Int) : Bool := (do_ op n a b).isSome
structure Wds (n a b : Int) : Prop where
  n0 : 1 ≤ n
  n1 : n ≤ 32
  a0 : 0 ≤ a
  a1 : a < pw n
  b0 : 0 ≤ b
  b1 : b < pw n
/-- a quotient is within -2^(n-1) .. 2^(n-1) - 1 -/
theorem tdiv_bound (x y : Int) : -x.natAbs ≤ x.tdiv y ∧ x.tdiv y ≤ x.natAbs := by
  have h : (x.tdiv y).natAbs ≤ x.natAbs := by rw [Int.natAbs_tdiv]; exact Nat.div_le_self _ _
  omega
theorem tmod_bound (x y : Int) : -x.natAbs ≤ x.tmod y ∧ x.tmod y ≤ x.natAbs := by
  have h : (x.tmod y).natAbs ≤ x.natAbs := by rw [Int.natAbs_tmod]; exact Nat.mod_le _ _
  omega
theorem mask_mod {n : Int} (x : Int) (hn : n ≤ 32) : bits .and .u32 (x % 4294967296) (pw n - 1) = x % pw n := by
  rw [and_mask hn (Int.emod_nonneg _ (by decide)) (Int.emod_lt_of_pos _ (by decide)), mod_mod _ hn]
end B

theorem ret_iib {a a' b b' : Int} {c : Bool} (h : a = a') (h' : b = b') : Ending.returned (.tuple #[.int .i64 a, .int .i64 b, .bool c]) = .returned (.tuple #[.int .i64 a', .int .i64 b', .bool c]) := by rw [h, h']
theorem ret_wb {a a' : Int} {c c' : Bool} (h : a = a') (h' : c = c') : Ending.returned (.tuple #[.int .u32 a, .bool c]) = .returned (.tuple #[.int .u32 a', .bool c']) := by rw [h, h']

theorem quotient_none (n a b : Int) (w : World) (h : B.Wds n a b) (hq : b = 0 ∨ (B.sg n a = -B.pw (n - 1) ∧ B.sg n b = -1)) :
    Calls Try.prog 79 #[.int .i64 n, .int .u32 a, .int .u32 b] w fun e w' => e = .returned (.tuple #[.int .i64 0, .int .i64 0, .bool false]) ∧ w = w' := by
  obtain ⟨n0, n1, a0, a1, b0, b1⟩ := h
  have H1 := Lib.hid (signed_any n a w n0 n1 a0 a1)
  have H2 := Lib.hid (signed_any n b w n0 n1 b0 b1)
  have hz := B.sg_zero n0 b0 b1
  have h3 := B.pw_le31 (show n - 1 ≤ 31 by omega)
  have h4 := B.pw_pos (n - 1)
  have e2 : (2 : Int) ^ (n.toNat - 1) = B.pw (n - 1) := B.pw_sub n0
  by_cases hb : b = 0
  · have hs : (B.sg n b == 0) = true := by rw [hz.2 hb]; rfl
    clear hq hz h3 h4 e2 hb a1 b1
    go_enter Try.func79, Try.ntmps79
    go_wp2_with fail
    refine H1.out.mono ?_
    rintro e w' ⟨rfl, rfl⟩
    go_wp2_with fail
    refine H2.out.mono ?_
    rintro e w' ⟨rfl, rfl⟩
    go_wp2
    go_ret3
    exact ⟨rfl, rfl⟩
  · obtain ⟨q1, q2⟩ := hq.resolve_left hb
    clear hq hz hb a1 b1
    have hs : (B.sg n b == 0) = false := by rw [q2]; rfl
    have hs2 : (B.sg n b == -1) = true := by rw [q2]; rfl
    have hs3 : (B.sg n a == wrap64 (-wrap64 (2 ^ (n.toNat - 1)))) = true := by
      rw [e2, B.wrap64_id (x := B.pw (n - 1)) (by omega) (by omega), B.wrap64_id (by omega) (by omega), q1]; simp
    clear q1 q2 h3 h4 e2
    go_enter Try.func79, Try.ntmps79
    go_wp2_with fail
    refine H1.out.mono ?_
    rintro e w' ⟨rfl, rfl⟩
    go_wp2_with fail
    refine H2.out.mono ?_
    rintro e w' ⟨rfl, rfl⟩
    go_wp2
    go_ret3
    exact ⟨rfl, rfl⟩

theorem quotient_some (n a b : Int) (w : World) (h : B.Wds n a b) (hq : ¬ (b = 0 ∨ (B.sg n a = -B.pw (n - 1) ∧ B.sg n b = -1))) :
    Calls Try.prog 79 #[.int .i64 n, .int .u32 a, .int .u32 b] w fun e w' => e = .returned (.tuple #[.int .i64 ((B.sg n a).tdiv (B.sg n b)), .int .i64 ((B.sg n a).tmod (B.sg n b)), .bool true]) ∧ Dr w w' := by
  obtain ⟨n0, n1, a0, a1, b0, b1⟩ := h
  have H1 := Lib.hid (signed_any n a w n0 n1 a0 a1)
  have H2 := Lib.hid (signed_any n b w n0 n1 b0 b1)
  have hz := B.sg_zero n0 b0 b1
  have h3 := B.pw_le31 (show n - 1 ≤ 31 by omega)
  have h4 := B.pw_pos (n - 1)
  have hlo := B.sg_lo n0 a0
  have hhi := B.sg_hi n0 a1
  have e2 : (2 : Int) ^ (n.toNat - 1) = B.pw (n - 1) := B.pw_sub n0
  have hb : b ≠ 0 := fun h => hq (.inl h)
  have hne : B.sg n b ≠ 0 := fun h => hb (hz.1 h)
  have hs : (B.sg n b == 0) = false := by simpa using hne
  have bd := B.tdiv_bound (B.sg n a) (B.sg n b)
  have bm := B.tmod_bound (B.sg n a) (B.sg n b)
  have ed : wrap64 ((B.sg n a).tdiv (B.sg n b)) = (B.sg n a).tdiv (B.sg n b) := B.wrap64_id (by omega) (by omega)
  have em : wrap64 ((B.sg n a).tmod (B.sg n b)) = (B.sg n a).tmod (B.sg n b) := B.wrap64_id (by omega) (by omega)
  by_cases hb1 : B.sg n b = -1
  · have hs2 : (B.sg n b == -1) = true := by rw [hb1]; rfl
    have hs3 : (B.sg n a == wrap64 (-wrap64 (2 ^ (n.toNat - 1)))) = false := by
      rw [e2, B.wrap64_id (x := B.pw (n - 1)) (by omega) (by omega), B.wrap64_id (by omega) (by omega)]
      have : B.sg n a ≠ -B.pw (n - 1) := fun h => hq (.inr ⟨h, hb1⟩)
      simpa using this
    clear hq hz hb a1 b1 hb1 e2 h3 h4 hlo hhi bd bm em
    have Hd := Lib.hid ed; clear ed
    go_enter Try.func79, Try.ntmps79
    go_wp2_with fail
    refine H1.out.mono ?_
    rintro e w' ⟨rfl, rfl⟩
    go_wp2_with fail
    refine H2.out.mono ?_
    rintro e w' ⟨rfl, rfl⟩
    go_wp2
    go_quiet (fail)
    go_wp2
    go_ret3
    exact ⟨ret_iib Hd.out rfl, ⟨_, rfl⟩⟩
  · have hs2 : (B.sg n b == -1) = false := by simpa using hb1
    clear hq hz hb a1 b1 hb1 e2 h3 h4 hlo hhi bd bm em
    have Hd := Lib.hid ed; clear ed
    go_enter Try.func79, Try.ntmps79
    go_wp2_with fail
    refine H1.out.mono ?_
    rintro e w' ⟨rfl, rfl⟩
    go_wp2_with fail
    refine H2.out.mono ?_
    rintro e w' ⟨rfl, rfl⟩
    go_wp2
    go_quiet (fail)
    go_wp2
    go_ret3
    exact ⟨ret_iib Hd.out rfl, ⟨_, rfl⟩⟩

/-- What is asked of the function that does operation k on words. -/
def DoesAt (k : Int) (f : Nat) (caps : Array Value) (w : World) : Prop := ∀ n a b : Int, B.Wds n a b →
  Calls Try.prog f (#[.int .i64 n, .int .u32 a, .int .u32 b] ++ caps) w fun e w' => e = .returned (.tuple #[.int .u32 (B.full k n a b), .bool (B.has k n a b)]) ∧ Dr w w'

theorem wraps_do (k : Int) (g B0 : Nat) (w : World) (eg : ∀ args w, (callFunc g args).run Try.prog w = .ok (.enter g args) w) (x : Int → Int → Int) (hc : w.cell? ⟨B0, 0, none⟩ = some (.func (.func g) #[] #[]))
    (hg : ∀ a b : Int, Calls Try.prog g #[.int .u32 a, .int .u32 b] w fun e w' => e = .returned (.int .u32 (x a b % 4294967296)) ∧ w = w') (hx : ∀ n a b, B.do_ k n a b = some (x a b % B.pw n)) : DoesAt k 94 #[.pointer (some ⟨B0, 0, none⟩)] w := by
  intro n a b h
  obtain ⟨n0, n1, a0, a1, b0, b1⟩ := h
  have H1 := Lib.hid (hg a b); clear hg
  have H2 := Lib.hid (mask_any n w (by omega) n1)
  have Hx := Lib.hid (hx n a b); clear hx
  show Calls Try.prog _ #[.int .i64 n, .int .u32 a, .int .u32 b, .pointer (some ⟨B0, 0, none⟩)] w _
  have He := B.mask_mod (x a b) n1
  have HE := Lib.hid He; clear He a1 b1
  generalize x a b % 4294967296 = y at H1 HE
  generalize B.pw n - 1 = z at H2 HE
  go_enter Try.func94, Try.ntmps94
  go_wp2_with fail
  refine H1.out.mono ?_
  rintro e w' ⟨rfl, rfl⟩
  go_wp2_with fail
  refine H2.out.mono ?_
  rintro e w' ⟨rfl, rfl⟩
  go_wp2
  go_ret2
  exact ⟨ret_wb (by rw [B.full, Hx.out, HE.out]; rfl) (by rw [B.has, Hx.out]; rfl), Dr.refl _⟩

theorem plain_do (k : Int) (g B0 : Nat) (w : World) (eg : ∀ args w, (callFunc g args).run Try.prog w = .ok (.enter g args) w) (x : Int → Int → Int) (hc : w.cell? ⟨B0, 0, none⟩ = some (.func (.func g) #[] #[]))
    (hg : ∀ a b : Int, 0 ≤ a → a < 4294967296 → 0 ≤ b → b < 4294967296 → Calls Try.prog g #[.int .u32 a, .int .u32 b] w fun e w' => e = .returned (.int .u32 (x a b)) ∧ w = w') (hx : ∀ n a b, B.do_ k n a b = some (x a b)) : DoesAt k 95 #[.pointer (some ⟨B0, 0, none⟩)] w := by
  intro n a b h
  obtain ⟨n0, n1, a0, a1, b0, b1⟩ := h
  have hl := B.pw_le n1
  have H1 := Lib.hid (hg a b a0 (by omega) b0 (by omega)); clear hg hl
  have Hx := Lib.hid (hx n a b); clear hx
  show Calls Try.prog _ #[.int .i64 n, .int .u32 a, .int .u32 b, .pointer (some ⟨B0, 0, none⟩)] w _
  clear a1 b1
  generalize x a b = y at H1 Hx
  go_enter Try.func95, Try.ntmps95
  go_wp2_with fail
  refine H1.out.mono ?_
  rintro e w' ⟨rfl, rfl⟩
  go_wp2
  go_ret2
  exact ⟨ret_wb (by rw [B.full, Hx.out]; rfl) (by rw [B.has, Hx.out]; rfl), Dr.refl _⟩

theorem small1_any (a b : Int) (w : World) : Calls Try.prog 70 #[.int .u32 a, .int .u32 b] w fun e w' => e = .returned (.int .u32 ((a + b) % 4294967296)) ∧ w = w' := by
  go_enter Try.func70, Try.ntmps70
  go_wp2
  go_ret
  exact ⟨rfl, rfl⟩
theorem small2_any (a b : Int) (w : World) : Calls Try.prog 72 #[.int .u32 a, .int .u32 b] w fun e w' => e = .returned (.int .u32 ((a - b) % 4294967296)) ∧ w = w' := by
  go_enter Try.func72, Try.ntmps72
  go_wp2
  go_ret
  exact ⟨rfl, rfl⟩
theorem small3_any (a b : Int) (w : World) : Calls Try.prog 74 #[.int .u32 a, .int .u32 b] w fun e w' => e = .returned (.int .u32 ((a * b) % 4294967296)) ∧ w = w' := by
  go_enter Try.func74, Try.ntmps74
  go_wp2
  go_ret
  exact ⟨rfl, rfl⟩
theorem small8_any (a b : Int) (w : World) (a0 : 0 ≤ a) (a1 : a < 4294967296) (b0 : 0 ≤ b) (b1 : b < 4294967296) : Calls Try.prog 84 #[.int .u32 a, .int .u32 b] w fun e w' => e = .returned (.int .u32 (((a.toNat &&& b.toNat : Nat) : Int))) ∧ w = w' := by
  go_enter Try.func84, Try.ntmps84
  go_wp2
  go_ret
  exact ⟨ret_int (u32_and a b a0 a1 b0 b1), rfl⟩
theorem small9_any (a b : Int) (w : World) (a0 : 0 ≤ a) (a1 : a < 4294967296) (b0 : 0 ≤ b) (b1 : b < 4294967296) : Calls Try.prog 85 #[.int .u32 a, .int .u32 b] w fun e w' => e = .returned (.int .u32 (((a.toNat ||| b.toNat : Nat) : Int))) ∧ w = w' := by
  go_enter Try.func85, Try.ntmps85
  go_wp2
  go_ret
  exact ⟨ret_int (u32_or a b a0 a1 b0 b1), rfl⟩
theorem small10_any (a b : Int) (w : World) (a0 : 0 ≤ a) (a1 : a < 4294967296) (b0 : 0 ≤ b) (b1 : b < 4294967296) : Calls Try.prog 86 #[.int .u32 a, .int .u32 b] w fun e w' => e = .returned (.int .u32 (((a.toNat ^^^ b.toNat : Nat) : Int))) ∧ w = w' := by
  go_enter Try.func86, Try.ntmps86
  go_wp2
  go_ret
  exact ⟨ret_int (u32_xor a b a0 a1 b0 b1), rfl⟩
end Go.Proofs.Ytableoihgkmbjaa
