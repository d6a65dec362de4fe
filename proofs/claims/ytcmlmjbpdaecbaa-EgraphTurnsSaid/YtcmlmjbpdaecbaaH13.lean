/- Merged: R1, R2, R3, R4, R5, R6. -/
import Derived.Test.YtcmlmjbpdaecbaaH01
set_option linter.unusedVariables false
set_option linter.unusedSimpArgs false
section
namespace Go.Proofs.Ytcmlmjbpdaecbaa
open Go.RowKit
set_option linter.unusedVariables false

theorem rsize_any (n : Int) (w : World) (h0 : 0 ≤ n) (h1 : n ≤ 32) : Calls Try.prog 76 #[.int .i64 n] w fun e w' => e = .returned (.int .i64 (B.pw n)) ∧ w = w' := by
  go_enter Try.func76, Try.ntmps76
  go_wp2
  go_ret
  refine ⟨ret_int ?_, rfl⟩
  have e : (2 : Int) ^ n.toNat = B.pw n := rfl
  have hp := B.pw_pos n
  have hl := B.pw_le h1
  simp only [e]
  exact B.wrap64_id (by omega) (by omega)

theorem risWidth_yes (n : Int) (w : World) (h0 : 1 ≤ n) (h1 : n ≤ 32) : Calls Try.prog 75 #[.int .i64 n] w fun e w' => e = .returned (.bool true) ∧ w = w' := by
  go_enter Try.func75, Try.ntmps75
  go_wp2
  go_ret
  exact ⟨rfl, rfl⟩
theorem risWidth_no (n : Int) (w : World) (h : n < 1 ∨ 32 < n) : Calls Try.prog 75 #[.int .i64 n] w fun e w' => e = .returned (.bool false) ∧ w = w' := by
  rcases h with h | h
  · go_enter Try.func75, Try.ntmps75
    go_wp2
    go_ret
    exact ⟨rfl, rfl⟩
  · have h1 : 1 ≤ n := by omega
    have hd : decide (n ≤ 32) = false := by simp; omega
    go_enter Try.func75, Try.ntmps75
    go_wp2
    go_ret
    exact ⟨rfl, rfl⟩
theorem not_wd {n : Int} (h : B.isWd n = false) : n < 1 ∨ 32 < n := by
  have : ¬ (1 ≤ n ∧ n ≤ 32) := fun hc => by rw [B.isWd_iff.2 hc] at h; cases h
  omega
theorem risWidth_any (n : Int) (w : World) : Calls Try.prog 75 #[.int .i64 n] w fun e w' => e = .returned (.bool (B.isWd n)) ∧ w = w' := by
  cases h : B.isWd n
  · exact risWidth_no n w (not_wd h)
  · have := B.isWd_iff.1 h
    exact risWidth_yes n w this.1 this.2

theorem isWord_any (n a : Int) (w : World) (h0 : 0 ≤ a) (h1 : a < 4294967296) : Calls Try.prog 74 #[.int .i64 n, .int .u32 a] w fun e w' => e = .returned (.bool (B.isW n a)) ∧ w = w' := by
  have H1 := Lib.hid (risWidth_any n w)
  cases h : B.isWd n
  · have hw : B.isW n a = false := by unfold B.isW; rw [h]; rfl
    rw [h] at H1
    rw [hw]
    clear h hw
    go_enter Try.func74, Try.ntmps74
    go_wp2_with fail
    refine H1.out.mono ?_
    rintro e w' ⟨rfl, rfl⟩
    go_wp2
    go_ret
    exact ⟨rfl, rfl⟩
  · have hn := B.isWd_iff.1 h
    have hw : B.isW n a = decide (a < B.pw n) := by unfold B.isW; rw [h]; rfl
    rw [h] at H1
    rw [hw]
    have H2 := Lib.hid (fun W => rsize_any n W (by omega) hn.2)
    clear h hn hw
    go_enter Try.func74, Try.ntmps74
    go_wp2_with fail
    refine H1.out.mono ?_
    rintro e w' ⟨rfl, rfl⟩
    go_wp2_with fail
    refine (H2.out _).mono ?_
    rintro e w' ⟨rfl, rfl⟩
    go_wp2
    go_ret
    exact ⟨rfl, rfl⟩

end Go.Proofs.Ytcmlmjbpdaecbaa
end
section
namespace Go.Proofs.Ytcmlmjbpdaecbaa
open Go.RowKit
set_option linter.unusedVariables false

theorem quiet_eq {P : Program} {f : FuncId} {args : Array Value} {w : World} {n : Nat} {v : Value}
    (h : Calls P f args (w.drewN n) fun e w' => e = .returned v ∧ w.drewN n = w') : Calls P f args (w.drewN n) fun e w'' => e = .returned v ∧ ∃ m, w'' = w.drewN m :=
  h.mono fun _ _ ⟨he, hm⟩ => ⟨he, n, hm.symm⟩

end Go.Proofs.Ytcmlmjbpdaecbaa
end
section
namespace Go.Proofs.Ytcmlmjbpdaecbaa
open Go.RowKit
set_option linter.unusedVariables false

end Go.Proofs.Ytcmlmjbpdaecbaa
end
section
namespace Go.Proofs.Ytcmlmjbpdaecbaa
open Go.RowKit
set_option linter.unusedVariables false

theorem sg_bound {n a b : Int} (h : B.Wds n a b) : -2147483648 ≤ B.sg n a ∧ B.sg n a < 2147483648 ∧ -2147483648 ≤ B.sg n b ∧ B.sg n b < 2147483648 := by
  obtain ⟨n0, n1, a0, a1, b0, b1⟩ := h
  have h3 := B.pw_le31 (show n - 1 ≤ 31 by omega)
  have := B.sg_lo n0 a0
  have := B.sg_hi n0 a1
  have := B.sg_lo n0 b0
  have := B.sg_hi n0 b1
  omega

theorem mul_bound {x y : Int} (h1 : -2147483648 ≤ x) (h2 : x < 2147483648) (h3 : -2147483648 ≤ y) (h4 : y < 2147483648) : -4611686018427387904 ≤ x * y ∧ x * y ≤ 4611686018427387904 := by
  have h : (x * y).natAbs ≤ 2147483648 * 2147483648 := by
    rw [Int.natAbs_mul]
    exact Nat.mul_le_mul (by omega) (by omega)
  omega

/-- what '/' and '%' of signed values come to -/
theorem quot_facts {n a b : Int} (h : B.Wds n a b) (hq : ¬ (b = 0 ∨ (B.sg n a = -B.pw (n - 1) ∧ B.sg n b = -1))) :
    B.sg n b ≠ 0 ∧ -2147483648 ≤ (B.sg n a).tdiv (B.sg n b) ∧ (B.sg n a).tdiv (B.sg n b) ≤ 2147483648 ∧ -2147483648 ≤ (B.sg n a).tmod (B.sg n b) ∧ (B.sg n a).tmod (B.sg n b) ≤ 2147483648 ∧
    B.sg n a - (B.sg n a).tdiv (B.sg n b) * B.sg n b = (B.sg n a).tmod (B.sg n b) ∧ -4294967296 ≤ (B.sg n a).tdiv (B.sg n b) * B.sg n b ∧ (B.sg n a).tdiv (B.sg n b) * B.sg n b ≤ 4294967296 := by
  have hbd := sg_bound h
  obtain ⟨n0, n1, a0, a1, b0, b1⟩ := h
  have hz := B.sg_zero n0 b0 b1
  have bd := B.tdiv_bound (B.sg n a) (B.sg n b)
  have bm := B.tmod_bound (B.sg n a) (B.sg n b)
  have e : B.sg n a - (B.sg n a).tdiv (B.sg n b) * B.sg n b = (B.sg n a).tmod (B.sg n b) := by
    have := Int.mul_tdiv_add_tmod (B.sg n a) (B.sg n b)
    rw [Int.mul_comm] at this
    omega
  exact ⟨fun h => hq (.inl (hz.1 h)), by omega, by omega, by omega, by omega, e, by omega, by omega⟩

end Go.Proofs.Ytcmlmjbpdaecbaa
end
section
namespace Go.Proofs.Ytcmlmjbpdaecbaa
open Go.RowKit
set_option linter.unusedVariables false

end Go.Proofs.Ytcmlmjbpdaecbaa
end
section
namespace Go.Proofs.Ytcmlmjbpdaecbaa
open Go.RowKit
set_option linter.unusedVariables false
set_option linter.unusedSimpArgs false

end Go.Proofs.Ytcmlmjbpdaecbaa
end
