/- Widening and cutting a word: both sides. -/
import Derived.Test.YtableoihgkmbjaaGreatT13
namespace Go.Proofs.YtableoihgkmbjaaGreat
open Go.RowKit
set_option linter.unusedVariables false
set_option linter.unusedSimpArgs false

namespace T
/-- a word of n bits, turned to a word of m bits -/
def ext (k n m x : Int) : Int := if k = 16 then x else if k = 17 then B.sg n x % B.pw m else x % B.pw m
structure ExtOk (k n m x : Int) : Prop where
  n0 : 1 ≤ n
  n1 : n ≤ 32
  m0 : 1 ≤ m
  m1 : m ≤ 32
  x0 : 0 ≤ x
  x1 : x < B.pw n
  kk : (k = 16 ∧ n < m) ∨ (k = 17 ∧ n < m) ∨ (k = 18 ∧ m < n)
end T

theorem ret_w0 {a a' : Int} (h : a = a') : Ending.returned (.tuple #[.int .u32 a, .int .i64 0]) = .returned (.tuple #[.int .u32 a', .int .i64 0]) := by rw [h]

set_option maxRecDepth 100000 in
set_option maxHeartbeats 4000000 in
theorem pExtend_any (k n m x : Int) (W : World) (h : T.ExtOk k n m x) :
    Calls Tryz.prog 100 #[.int .i64 k, .int .i64 n, .int .i64 m, .int .u32 x] W fun e w' => e = .returned (.tuple #[.int .u32 (T.ext k n m x), .int .i64 0]) ∧ Below W.heap.size W w' := by
  obtain ⟨hn0, hn1, hm0, hm1, hx0, hx1, hk⟩ := h
  have hl := B.pw_le hn1
  have hT : SlAt (IntR .u32) (W.alloc (.cells #[.int .u32 x] 39)) (some ⟨W.heap.size, 0, none⟩) 1 [x] :=
    (OwnAt.of_new (s := 1) W #[.int .u32 x] 1 rfl (by simp [maxLen])).slInts
  have hF := fits_any n _ 1 1 [x] _ hT
  have hfit : (B.isWd n && [x].all fun x => decide (x < B.pw n)) = true := by
    rw [B.isWd_iff.2 ⟨hn0, hn1⟩]; simp [hx1]
  rw [hfit] at hF
  have HF := Lib.hid hF
  have HW := Lib.hid (fun W' => by have := isWidth_any m W'; rw [B.isWd_iff.2 ⟨hm0, hm1⟩] at this; exact this)
  have HA := Lib.hid (fun W' => signed_any n x W' hn0 hn1 hx0 hx1)
  have HM := Lib.hid (fun W' => mask_any m W' (by omega) hm1)
  have HBl := Lib.hid (show Below W.heap.size W (W.alloc (.cells #[.int .u32 x] 39)) from (Below.refl _ _).alloc (Nat.le_refl _) _)
  have hx9 : x < 4294967296 := by omega
  have Hb := Lib.hid (B.mask_mod (B.sg n x) hm1)
  have Hd := Lib.hid (B.and_mask (n := m) (x := x) hm1 hx0 hx9)
  clear hT hF hfit hx1 hl
  rcases hk with ⟨rfl, hnm⟩ | ⟨rfl, hnm⟩ | ⟨rfl, hnm⟩
  all_goals
    go_enter Tryz.func100, Tryz.ntmps100
    go_wp2_with (first | (go_at_call 42; (with_reducible refine (HW.out _).mono ?_); rintro e w1 ⟨rfl, rfl⟩) | (go_at_call 91; (with_reducible refine HF.out.mono ?_); rintro e w2 ⟨rfl, rfl⟩) | (go_at_call 114; (with_reducible refine (HA.out _).mono ?_); rintro e w3 ⟨rfl, rfl⟩) | (go_at_call 43; (with_reducible refine (HM.out _).mono ?_); rintro e w4 ⟨rfl, rfl⟩) | fail)
    go_ret2
  · exact ⟨rfl, HBl.out⟩
  · refine ⟨ret_w0 ?_, HBl.out⟩
    simp only [T.ext, if_pos, if_neg, reduceIte, Int.reduceEq]
    first | exact Hb.out | (rw [IntKind.wrap_u64]; exact Hb.out) | (have := Hb.out; simpa using this)
  · refine ⟨ret_w0 ?_, HBl.out⟩
    simp only [T.ext, if_pos, if_neg, reduceIte, Int.reduceEq]
    exact Hd.out

set_option maxRecDepth 100000 in
set_option maxHeartbeats 4000000 in
theorem rExtend_any (k n m x : Int) (W : World) (h : T.ExtOk k n m x) :
    Calls Tryz.prog 56 #[.int .i64 k, .int .i64 n, .int .i64 m, .int .u32 x] W fun e w' => e = .returned (.tuple #[.int .u32 (T.ext k n m x), .int .i64 0]) ∧ W = w' := by
  obtain ⟨hn0, hn1, hm0, hm1, hx0, hx1, hk⟩ := h
  have hl := B.pw_le hn1
  have hx9 : x < 4294967296 := by omega
  have hwx : B.isW n x = true := by unfold B.isW; rw [B.isWd_iff.2 ⟨hn0, hn1⟩]; simp [hx1]
  have HX := Lib.hid (fun W' => by have := isWord_any n x W' hx0 hx9; rw [hwx] at this; exact this)
  have HW := Lib.hid (fun W' => by have := risWidth_any m W'; rw [B.isWd_iff.2 ⟨hm0, hm1⟩] at this; exact this)
  have HA := Lib.hid (fun W' => rsign_any n x W' hn0 hn1 hx0 hx9)
  have hs : -9223372036854775808 ≤ B.sg n x ∧ B.sg n x ≤ 9223372036854775807 := by
    have := B.pw_pos n
    unfold B.sg; split <;> omega
  have HC := Lib.hid (fun W' => wrap_any m (B.sg n x) W' (by omega) hm1 hs.1 hs.2)
  have HD := Lib.hid (fun W' => wrap_any m x W' (by omega) hm1 (by omega) (by omega))
  have hm : n < m → x % B.pw m = x := by
    intro hnm
    refine Int.emod_eq_of_lt hx0 ?_
    have : B.pw n ≤ B.pw m := by
      rw [B.pw_nat, B.pw_nat]
      exact Int.ofNat_le.2 (Nat.pow_le_pow_right (by decide) (by omega))
    omega
  have Hm := Lib.hid hm
  obtain ⟨r, hr⟩ : ∃ r, r = T.ext k n m x := ⟨_, rfl⟩
  rw [← hr]
  unfold T.ext at hr
  generalize B.sg n x = sx at HA HC hr
  have Hr := Lib.hid hr
  clear hwx hx1 hl hs hm hr
  rcases hk with ⟨rfl, hnm⟩ | ⟨rfl, hnm⟩ | ⟨rfl, hnm⟩
  all_goals
    go_enter Tryz.func56, Tryz.ntmps56
    go_wp2_with (first | (go_at_call 71; (with_reducible refine (HW.out _).mono ?_); rintro e w1 ⟨rfl, rfl⟩) | (go_at_call 54; (with_reducible refine (HX.out _).mono ?_); rintro e w2 ⟨rfl, rfl⟩) | (go_at_call 75; (with_reducible refine (HA.out _).mono ?_); rintro e w3 ⟨rfl, rfl⟩) | (go_at_call 76; (with_reducible refine (HC.out _).mono ?_); rintro e w4 ⟨rfl, rfl⟩) | (go_at_call 76; (with_reducible refine (HD.out _).mono ?_); rintro e w5 ⟨rfl, rfl⟩) | fail)
    go_ret2
  · exact ⟨ret_w0 (by rw [Hr.out, Hm.out hnm]; simp), rfl⟩
  · exact ⟨ret_w0 (by rw [Hr.out]; simp), rfl⟩
  · exact ⟨ret_w0 (by rw [Hr.out]; simp), rfl⟩
end Go.Proofs.YtableoihgkmbjaaGreat
