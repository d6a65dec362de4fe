/- Walks of the reference's layer of bits: Do, beyond, for words that are right. -/
import Derived.Test.YtbiopedpceddeaaGreatDoorN38
import Derived.Test.YtbiopedpceddeaaGreatDoorN02
set_option linter.unusedVariables false
set_option linter.unusedSimpArgs false
namespace Go.Proofs.YtbiopedpceddeaaGreatDoor
open Go.RowKit
set_option linter.unusedVariables false
set_option linter.unusedSimpArgs false

set_option maxRecDepth 100000 in
theorem rDo_ok (op n a b : Int) (w : World) (ha : 0 ≤ a) (hb : 0 ≤ b) (hok : B.okOp op n a b = true) : Calls Tryz.prog 56 #[.int .i64 op, .int .i64 n, .int .u32 a, .int .u32 b] w fun e w' =>
    e = .returned (doEnd op n a b) ∧ Dr w w' := by
  have hw := okOp_wds hok ha hb
  have ho : 1 ≤ op ∧ op ≤ 13 := by
    unfold B.okOp at hok
    simp only [Bool.and_eq_true, decide_eq_true_eq] at hok
    exact hok.1.1
  have HT := Lib.hid (fun X => two_yes op n a b X hw ho.1 ho.2)
  obtain ⟨dv, hdv⟩ : ∃ dv, dv = (B.do_ op n a b).getD 0 := ⟨_, rfl⟩
  obtain ⟨hs, hhs⟩ : ∃ hs, hs = B.has op n a b := ⟨_, rfl⟩
  have HD := Lib.hid (fun X => rdo_any op n a b X hw ho.1 ho.2)
  rw [← hdv, ← hhs] at HD
  obtain ⟨dd, hdd⟩ : ∃ dd, doEnd op n a b = dd := ⟨_, rfl⟩
  rw [hdd]
  have Hd := Lib.hid (show dd = .tuple #[.int .u32 dv, .bool hs, .int .i64 0] from by rw [← hdd, hdv, hhs]; rfl)
  have Hz := Lib.hid (show hs = false → dv = 0 from fun h => by
    rw [hhs] at h
    unfold B.has at h
    rw [hdv]
    cases hx : B.do_ op n a b with
    | none => rfl
    | some r => rw [hx] at h; cases h)
  clear hw hdv hhs hdd hok ho ha hb
  go_enter Tryz.func56, Tryz.ntmps56
  go_wp2_with fail
  refine (HT.out _).mono ?_
  rintro e w1 ⟨rfl, rfl⟩
  go_wp2_with fail
  refine (HD.out _).mono ?_
  rintro e w2 ⟨rfl, hd⟩
  cases hs with
  | true =>
    go_wp2
    go_ret3
    exact ⟨by rw [Hd.out]; rfl, hd⟩
  | false =>
    have hz := Hz.out rfl
    subst hz
    go_wp2
    go_ret3
    exact ⟨by rw [Hd.out]; rfl, hd⟩

/-- a product of two numbers that are not below 0 is above a limit -/
theorem rbeyond_any (a b m : Int) (w : World) (ha : 0 ≤ a) (hb : 0 ≤ b) (hm : 0 ≤ m) (ha1 : a ≤ 9223372036854775807) (hm1 : m ≤ 9223372036854775807) : Calls Tryz.prog 120 #[.int .i64 a, .int .i64 b, .int .i64 m] w fun e w' =>
    e = .returned (.bool (decide (m < a * b))) ∧ w = w' := by
  by_cases h0 : a = 0
  · subst h0
    have E := Lib.hid (show decide (m < 0 * b) = false from by rw [Int.zero_mul]; exact decide_eq_false (by omega))
    go_enter Tryz.func120, Tryz.ntmps120
    go_wp2
    go_ret
    exact ⟨by rw [E.out]; rfl, rfl⟩
  · have q : (a != 0) = true := by simpa using h0
    have hap : 1 ≤ a := by omega
    have e : decide (m / a < b) = decide (m < a * b) := by
      rw [Bool.eq_iff_iff, decide_eq_true_iff, decide_eq_true_iff, Int.ediv_lt_iff_lt_mul (by omega), Int.mul_comm b a]
    have E := Lib.hid e
    clear e
    go_enter Tryz.func120, Tryz.ntmps120
    go_wp2
    go_ret
    exact ⟨by rw [← E.out]; rfl, rfl⟩
end Go.Proofs.YtbiopedpceddeaaGreatDoor
