/- Comparing words: the reference. -/
import Derived.Test.YtableoihgkmbjaaGreatT12
namespace Go.Proofs.YtableoihgkmbjaaGreat
open Go.RowKit
set_option linter.unusedVariables false
set_option linter.unusedSimpArgs false

namespace T
/-- whether a predicate holds of two numbers -/
def cmpI (p x y : Int) : Bool :=
  if p = 0 then decide (x = y) else if p = 1 then !decide (x = y) else if p = 2 ∨ p = 6 then decide (x < y) else if p = 3 ∨ p = 7 then decide (x ≤ y) else if p = 4 ∨ p = 8 then decide (y < x) else decide (y ≤ x)

theorem cmp_hi {p n a b : Int} (h0 : 6 ≤ p) (h1 : p ≤ 9) : cmp p n a b = cmpI p (B.sg n a) (B.sg n b) := by
  have hp : p = 6 ∨ p = 7 ∨ p = 8 ∨ p = 9 := by omega
  rcases hp with rfl | rfl | rfl | rfl <;> simp [cmp, cmpI]
theorem cmp_lo {p n a b : Int} (h0 : 0 ≤ p) (h1 : p < 6) : cmp p n a b = cmpI p a b := by
  have hp : p = 0 ∨ p = 1 ∨ p = 2 ∨ p = 3 ∨ p = 4 ∨ p = 5 := by omega
  rcases hp with rfl | rfl | rfl | rfl | rfl | rfl <;> simp [cmp, cmpI]
end T

theorem ret_b1 {a b : Bool} (h : a = b) : Ending.returned (.bool a) = .returned (.bool b) := by rw [h]

theorem rispred_any (p : Int) (h0 : 0 ≤ p) (h1 : p ≤ 9) (W : World) : Calls Tryz.prog 73 #[.int .i64 p] W fun e w' => e = .returned (.bool true) ∧ W = w' := by
  go_enter Tryz.func73, Tryz.ntmps73
  go_wp2
  go_ret
  exact ⟨rfl, rfl⟩

set_option maxRecDepth 100000 in
set_option maxHeartbeats 4000000 in
theorem rcompare_any (p x y : Int) (W : World) (hp0 : 0 ≤ p) (hp1 : p ≤ 9) :
    Calls Tryz.prog 74 #[.int .i64 p, .int .i64 x, .int .i64 y] W fun e w' => e = .returned (.bool (T.cmpI p x y)) ∧ W = w' := by
  obtain ⟨r, hr⟩ : ∃ r, r = T.cmpI p x y := ⟨_, rfl⟩
  rw [← hr]
  have hp : p = 0 ∨ p = 1 ∨ p = 2 ∨ p = 3 ∨ p = 4 ∨ p = 5 ∨ p = 6 ∨ p = 7 ∨ p = 8 ∨ p = 9 := by omega
  rcases hp with rfl | rfl | rfl | rfl | rfl | rfl | rfl | rfl | rfl | rfl
  all_goals
    have Hr := Lib.hid hr
    clear hr hp0 hp1
    go_enter Tryz.func74, Tryz.ntmps74
    go_wp2
    go_ret
    exact ⟨ret_b1 (by rw [Hr.out]; by_cases hxy : x = y <;> simp [T.cmpI, dec_eq, hxy]), rfl⟩

set_option maxRecDepth 100000 in
set_option maxHeartbeats 4000000 in
theorem rCompare_any (p n a b : Int) (W : World) (hp0 : 0 ≤ p) (hp1 : p ≤ 9) (hn0 : 1 ≤ n) (hn1 : n ≤ 32) (ha0 : 0 ≤ a) (ha1 : a < B.pw n) (hb0 : 0 ≤ b) (hb1 : b < B.pw n) :
    Calls Tryz.prog 55 #[.int .i64 p, .int .i64 n, .int .u32 a, .int .u32 b] W fun e w' => e = .returned (.tuple #[.bool (T.cmp p n a b), .int .i64 0]) ∧ W = w' := by
  have hl := B.pw_le hn1
  have ha9 : a < 4294967296 := by omega
  have hb9 : b < 4294967296 := by omega
  have HP := Lib.hid (fun W' => rispred_any p hp0 hp1 W')
  have hwa : B.isW n a = true := by unfold B.isW; rw [B.isWd_iff.2 ⟨hn0, hn1⟩]; simp [ha1]
  have hwb : B.isW n b = true := by unfold B.isW; rw [B.isWd_iff.2 ⟨hn0, hn1⟩]; simp [hb1]
  have HWA := Lib.hid (fun W' => by have := isWord_any n a W' ha0 ha9; rw [hwa] at this; exact this)
  have HWB := Lib.hid (fun W' => by have := isWord_any n b W' hb0 hb9; rw [hwb] at this; exact this)
  have HA := Lib.hid (fun W' => rsign_any n a W' hn0 hn1 ha0 ha9)
  have HB := Lib.hid (fun W' => rsign_any n b W' hn0 hn1 hb0 hb9)
  obtain ⟨r, hr⟩ : ∃ r, r = T.cmp p n a b := ⟨_, rfl⟩
  rw [← hr]
  clear hwa hwb ha1 hb1 hl
  by_cases hc : 6 ≤ p
  · rw [T.cmp_hi hc hp1] at hr
    have HC := Lib.hid (fun W' => by have := rcompare_any p (B.sg n a) (B.sg n b) W' hp0 hp1; rw [← hr] at this; exact this)
    generalize B.sg n a = sa at HA HC hr
    generalize B.sg n b = sb at HB HC hr
    have Hr := Lib.hid hr
    clear hr
    go_enter Tryz.func55, Tryz.ntmps55
    go_wp2_with (first | (go_at_call 73; (with_reducible refine (HP.out _).mono ?_); rintro e w1 ⟨rfl, rfl⟩) | (go_at_call 54; (with_reducible refine (HWA.out _).mono ?_); rintro e w2 ⟨rfl, rfl⟩) | (go_at_call 54; (with_reducible refine (HWB.out _).mono ?_); rintro e w2 ⟨rfl, rfl⟩) | (go_at_call 75; (with_reducible refine (HA.out _).mono ?_); rintro e w3 ⟨rfl, rfl⟩) | (go_at_call 75; (with_reducible refine (HB.out _).mono ?_); rintro e w4 ⟨rfl, rfl⟩) | (go_at_call 74; (with_reducible refine (HC.out _).mono ?_); rintro e w5 ⟨rfl, rfl⟩) | fail)
    go_ret2
    exact ⟨rfl, rfl⟩
  · have hc' : p < 6 := by omega
    rw [T.cmp_lo hp0 hc'] at hr
    have HC := Lib.hid (fun W' => by have := rcompare_any p a b W' hp0 hp1; rw [← hr] at this; exact this)
    have Hr := Lib.hid hr
    clear hr HA HB
    go_enter Tryz.func55, Tryz.ntmps55
    go_wp2_with (first | (go_at_call 73; (with_reducible refine (HP.out _).mono ?_); rintro e w1 ⟨rfl, rfl⟩) | (go_at_call 54; (with_reducible refine (HWA.out _).mono ?_); rintro e w2 ⟨rfl, rfl⟩) | (go_at_call 54; (with_reducible refine (HWB.out _).mono ?_); rintro e w2 ⟨rfl, rfl⟩) | (go_at_call 74; (with_reducible refine (HC.out _).mono ?_); rintro e w5 ⟨rfl, rfl⟩) | fail)
    go_ret2
    exact ⟨rfl, rfl⟩
end Go.Proofs.YtableoihgkmbjaaGreat
