/- Comparing words: both sides. -/
import Derived.Test.YtableoihgkmbjaaGreatT11
namespace Go.Proofs.YtableoihgkmbjaaGreat
open Go.RowKit
set_option linter.unusedVariables false
set_option linter.unusedSimpArgs false

namespace T
/-- whether a predicate holds of two words of n bits -/
def cmp (p n a b : Int) : Bool :=
  if p = 0 then decide (a = b) else if p = 1 then !decide (a = b) else if p = 2 then decide (a < b) else if p = 3 then decide (a ≤ b) else if p = 4 then decide (b < a) else if p = 5 then decide (b ≤ a)
  else if p = 6 then decide (B.sg n a < B.sg n b) else if p = 7 then decide (B.sg n a ≤ B.sg n b) else if p = 8 then decide (B.sg n b < B.sg n a) else decide (B.sg n b ≤ B.sg n a)
end T

theorem ret_b0 {a b : Bool} (h : a = b) : Ending.returned (.tuple #[.bool a, .int .i64 0]) = .returned (.tuple #[.bool b, .int .i64 0]) := by rw [h]
theorem dec_eq (a b : Int) : (a == b) = decide (a = b) := by by_cases h : a = b <;> simp [h]

theorem isPred_any (p : Int) (h0 : 0 ≤ p) (h1 : p ≤ 9) (W : World) : Calls Tryz.prog 130 #[.int .i64 p] W fun e w' => e = .returned (.bool true) ∧ W = w' := by
  go_enter Tryz.func130, Tryz.ntmps130
  go_wp2
  go_ret
  exact ⟨rfl, rfl⟩

set_option maxRecDepth 100000 in
set_option maxHeartbeats 4000000 in
theorem pCompare_any (p n a b : Int) (W : World) (hp0 : 0 ≤ p) (hp1 : p ≤ 9) (hn0 : 1 ≤ n) (hn1 : n ≤ 32) (ha0 : 0 ≤ a) (ha1 : a < B.pw n) (hb0 : 0 ≤ b) (hb1 : b < B.pw n) :
    Calls Tryz.prog 99 #[.int .i64 p, .int .i64 n, .int .u32 a, .int .u32 b] W fun e w' => e = .returned (.tuple #[.bool (T.cmp p n a b), .int .i64 0]) ∧ Below W.heap.size W w' := by
  have hl := B.pw_le hn1
  have HP := Lib.hid (fun W' => isPred_any p hp0 hp1 W')
  have hT : SlAt (IntR .u32) (W.alloc (.cells #[.int .u32 a, .int .u32 b] 39)) (some ⟨W.heap.size, 0, none⟩) 2 [a, b] :=
    (OwnAt.of_new (s := 1) W #[.int .u32 a, .int .u32 b] 2 rfl (by simp [maxLen])).slInts
  have hF := fits_any n _ 2 2 [a, b] _ hT
  have hfit : (B.isWd n && [a, b].all fun x => decide (x < B.pw n)) = true := by
    rw [B.isWd_iff.2 ⟨hn0, hn1⟩]; simp [ha1, hb1]
  rw [hfit] at hF
  have HF := Lib.hid hF
  have HA := Lib.hid (fun W' => signed_any n a W' hn0 hn1 ha0 ha1)
  have HB := Lib.hid (fun W' => signed_any n b W' hn0 hn1 hb0 hb1)
  have HBl := Lib.hid (show Below W.heap.size W (W.alloc (.cells #[.int .u32 a, .int .u32 b] 39)) from (Below.refl _ _).alloc (Nat.le_refl _) _)
  have ha9 : a < 4294967296 := by omega
  have hb9 : b < 4294967296 := by omega
  clear hT hF hfit ha1 hb1 hl
  obtain ⟨r, hr⟩ : ∃ r, r = T.cmp p n a b := ⟨_, rfl⟩
  rw [← hr]
  have hp : p = 0 ∨ p = 1 ∨ p = 2 ∨ p = 3 ∨ p = 4 ∨ p = 5 ∨ p = 6 ∨ p = 7 ∨ p = 8 ∨ p = 9 := by omega
  rcases hp with rfl | rfl | rfl | rfl | rfl | rfl | rfl | rfl | rfl | rfl
  iterate 6
    have Hr := Lib.hid hr
    clear hr hp0 hp1
    go_enter Tryz.func99, Tryz.ntmps99
    go_wp2_with (first | (go_at_call 130; (with_reducible refine (HP.out _).mono ?_); rintro e w1 ⟨rfl, rfl⟩) | (go_at_call 91; (with_reducible refine HF.out.mono ?_); rintro e w2 ⟨rfl, rfl⟩) | fail)
    go_ret2
    exact ⟨ret_b0 (by rw [Hr.out]; by_cases hab : a = b <;> simp [T.cmp, dec_eq, hab]), HBl.out⟩
  all_goals
    obtain ⟨sa, hsa⟩ : ∃ sa, sa = B.sg n a := ⟨_, rfl⟩
    obtain ⟨sb, hsb⟩ : ∃ sb, sb = B.sg n b := ⟨_, rfl⟩
    have Hr := Lib.hid (show r = _ from hr)
    unfold T.cmp at Hr
    rw [← hsa, ← hsb] at Hr
    rw [← hsa] at HA
    rw [← hsb] at HB
    clear hr hp0 hp1 hsa hsb
    go_enter Tryz.func99, Tryz.ntmps99
    go_wp2_with (first | (go_at_call 130; (with_reducible refine (HP.out _).mono ?_); rintro e w1 ⟨rfl, rfl⟩) | (go_at_call 91; (with_reducible refine HF.out.mono ?_); rintro e w2 ⟨rfl, rfl⟩) | (go_at_call 114; (with_reducible refine (HA.out _).mono ?_); rintro e w3 ⟨rfl, rfl⟩) | (go_at_call 114; (with_reducible refine (HB.out _).mono ?_); rintro e w4 ⟨rfl, rfl⟩) | fail)
    go_ret2
    exact ⟨ret_b0 (by rw [Hr.out]; simp), HBl.out⟩
end Go.Proofs.YtableoihgkmbjaaGreat
