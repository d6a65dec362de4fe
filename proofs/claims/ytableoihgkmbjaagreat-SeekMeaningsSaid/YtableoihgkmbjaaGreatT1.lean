/- Walks of the program's layer of terms: nodes; how many operands; numbers; shapes. -/
import Derived.Test.YtableoihgkmbjaaGreatPlainT
import Derived.Test.YtableoihgkmbjaaGreatM6
namespace Go.Proofs.YtableoihgkmbjaaGreat
open Go.RowKit
set_option linter.unusedVariables false
set_option linter.unusedSimpArgs false

/-- the cells of a node -/
def ndC (x : T.Nd) (A : Option Addr) (c : Nat) : List Value := [.int .i64 x.op, .int .i64 x.w, .int .i64 x.fl, .slice A x.args.length c, .int .u32 x.imm]
/-- five cells read as a node -/
def NdR (W : World) (us : List Value) (x : T.Nd) : Prop := ∃ A c, us = ndC x A c ∧ SlAt (IntR .i64) W A x.args.length x.args ∧ 0 ≤ x.imm ∧ x.imm < 4294967296
theorem monoNd : MonoL NdR := by
  rintro w w' us x hb ⟨A, c, rfl, h, h2⟩
  exact ⟨A, c, rfl, h.below (monoInt _) hb, h2⟩

theorem ret_ib {a b : Int} {x y : Bool} (h1 : a = b) (h2 : x = y) : Ending.returned (.tuple #[.int .i64 a, .bool x]) = .returned (.tuple #[.int .i64 b, .bool y]) := by rw [h1, h2]

theorem ar_cases (op : Int) : (op = 0 ∧ T.ar op = 0) ∨ (op = 33 ∧ T.ar op = 0) ∨ (1 ≤ op ∧ op ≤ 14 ∧ T.ar op = 2) ∨ (op = 15 ∧ T.ar op = 3) ∨ (16 ≤ op ∧ op ≤ 18 ∧ T.ar op = 1) ∨ (¬ op = 0 ∧ ¬ op = 33 ∧ ¬ (1 ≤ op ∧ op ≤ 14) ∧ ¬ op = 15 ∧ ¬ (16 ≤ op ∧ op ≤ 18) ∧ T.ar op = -1) := by
  unfold T.ar
  by_cases h0 : op = 0
  · exact .inl ⟨h0, by rw [if_pos (.inl h0)]⟩
  by_cases h33 : op = 33
  · exact .inr (.inl ⟨h33, by rw [if_pos (.inr h33)]⟩)
  rw [if_neg (by omega)]
  by_cases h14 : 1 ≤ op ∧ op ≤ 14
  · exact .inr (.inr (.inl ⟨h14.1, h14.2, by rw [if_pos h14]⟩))
  rw [if_neg h14]
  by_cases h15 : op = 15
  · exact .inr (.inr (.inr (.inl ⟨h15, by rw [if_pos h15]⟩)))
  rw [if_neg h15]
  by_cases h18 : 16 ≤ op ∧ op ≤ 18
  · exact .inr (.inr (.inr (.inr (.inl ⟨h18.1, h18.2, by rw [if_pos h18]⟩))))
  rw [if_neg h18]
  exact .inr (.inr (.inr (.inr (.inr ⟨h0, h33, h14, h15, h18, rfl⟩))))

set_option maxHeartbeats 1000000 in
theorem parity_any (op : Int) (W : World) : Calls Tryz.prog 94 #[.int .i64 op] W fun e w' => e = .returned (.tuple #[.int .i64 (if 0 ≤ T.ar op then T.ar op else 0), .bool (decide (0 ≤ T.ar op))]) ∧ W = w' := by
  rcases ar_cases op with ⟨rfl, h⟩ | ⟨rfl, h⟩ | ⟨h1, h2, h⟩ | ⟨rfl, h⟩ | ⟨h1, h2, h⟩ | ⟨a, b, c, d, e, h⟩
  · go_enter Tryz.func94, Tryz.ntmps94
    go_wp2
    go_ret2
    exact ⟨rfl, rfl⟩
  · go_enter Tryz.func94, Tryz.ntmps94
    go_wp2
    go_ret2
    exact ⟨rfl, rfl⟩
  · rw [h, show (if (0 : Int) ≤ 2 then (2 : Int) else 0) = 2 from rfl, show decide ((0 : Int) ≤ 2) = true from rfl]
    clear h
    have q0 : (op == 0) = false := by simp; omega
    have q1 : (op == 33) = false := by simp; omega
    have q2 : decide (1 ≤ op) = true := by simp; omega
    have q3 : decide (op ≤ 14) = true := by simp; omega
    go_enter Tryz.func94, Tryz.ntmps94
    go_wp2
    go_ret2
    exact ⟨rfl, rfl⟩
  · go_enter Tryz.func94, Tryz.ntmps94
    go_wp2
    go_ret2
    exact ⟨rfl, rfl⟩
  · rw [h, show (if (0 : Int) ≤ 1 then (1 : Int) else 0) = 1 from rfl, show decide ((0 : Int) ≤ 1) = true from rfl]
    clear h
    have hop : op = 16 ∨ op = 17 ∨ op = 18 := by omega
    clear h1 h2
    rcases hop with rfl | rfl | rfl
    all_goals
      go_enter Tryz.func94, Tryz.ntmps94
      go_wp2
      go_ret2
      exact ⟨rfl, rfl⟩
  · rw [h, show (if (0 : Int) ≤ -1 then (-1 : Int) else 0) = 0 from rfl, show decide ((0 : Int) ≤ -1) = false from rfl]
    clear h
    have q0 : (op == 0) = false := by simp; omega
    have q1 : (op == 33) = false := by simp; omega
    have q4 : (op == 15) = false := by simp; omega
    by_cases hn : op < 1
    · have q2 : decide (1 ≤ op) = false := by simp; omega
      have q5 : decide (16 ≤ op) = false := by simp; omega
      clear a b c d e hn
      go_enter Tryz.func94, Tryz.ntmps94
      go_wp2
      go_ret2
      exact ⟨rfl, rfl⟩
    · have q2 : decide (1 ≤ op) = true := by simp; omega
      have q3 : decide (op ≤ 14) = false := by simp; omega
      have q5 : decide (16 ≤ op) = true := by simp; omega
      have q6 : decide (op ≤ 18) = false := by simp; omega
      clear a b c d e hn
      go_enter Tryz.func94, Tryz.ntmps94
      go_wp2
      go_ret2
      exact ⟨rfl, rfl⟩

/-- the node as a value -/
def ndV (x : T.Nd) (A : Option Addr) (c : Nat) : Value := .agg #[.int .i64 x.op, .int .i64 x.w, .int .i64 x.fl, .slice A x.args.length c, .int .u32 x.imm]

set_option maxHeartbeats 1000000 in
theorem pisImm_any (op w fl imm : Int) (n : Nat) (A : Option Addr) (c : Nat) (args : List Int) (W : World) :
    Calls Tryz.prog 95 #[.agg #[.int .i64 op, .int .i64 w, .int .i64 fl, .slice A n c, .int .u32 imm]] W fun e w' => e = .returned (.bool (T.immOk ⟨op, w, fl, args, imm⟩)) ∧ Below W.heap.size W w' := by
  have HB1 := Lib.hid (show ∀ o, Below W.heap.size W (W.alloc o) from fun o => (Below.refl _ _).alloc (Nat.le_refl _) o)
  unfold T.immOk
  dsimp only
  by_cases h0 : op = 0
  · subst h0
    rw [if_pos rfl]
    have HM := Lib.hid (fun W' => Mask_any w W')
    unfold B.isW
    cases hw : B.isWd w
    · rw [hw] at HM
      rw [Bool.false_and]
      clear hw
      go_enter Tryz.func95, Tryz.ntmps95
      go_wp2_with fail
      refine (HM.out _).mono ?_
      rintro e w' ⟨rfl, rfl⟩
      go_wp2
      go_ret
      exact ⟨rfl, HB1.out _⟩
    · rw [hw] at HM
      rw [Bool.true_and]
      obtain ⟨P, hP⟩ : ∃ P, P = B.pw w := ⟨_, rfl⟩
      rw [← hP] at HM ⊢
      have hd : decide (imm < P) = decide (imm ≤ P - 1) := by by_cases h : imm < P <;> simp <;> omega
      rw [hd]
      clear hw hP hd
      go_enter Tryz.func95, Tryz.ntmps95
      go_wp2_with fail
      refine (HM.out _).mono ?_
      rintro e w' ⟨rfl, rfl⟩
      go_wp2
      go_ret
      exact ⟨rfl, HB1.out _⟩
  · rw [if_neg h0]
    have q0 : (op == 0) = false := by simpa using h0
    by_cases h33 : op = 33
    · subst h33
      rw [if_pos rfl]
      clear h0 q0
      go_enter Tryz.func95, Tryz.ntmps95
      go_wp2
      go_ret
      exact ⟨rfl, HB1.out _⟩
    · rw [if_neg h33]
      have q1 : (op == 33) = false := by simpa using h33
      by_cases h14 : op = 14
      · subst h14
        rw [if_pos rfl]
        clear h0 q0 h33 q1
        go_enter Tryz.func95, Tryz.ntmps95
        go_wp2
        go_ret
        exact ⟨rfl, HB1.out _⟩
      · rw [if_neg h14]
        have q2 : (op == 14) = false := by simpa using h14
        have hd : decide (imm = 0) = (imm == 0) := by by_cases h : imm = 0 <;> simp [h]
        rw [hd]
        clear h0 h33 h14 hd
        go_enter Tryz.func95, Tryz.ntmps95
        go_wp2
        go_ret
        exact ⟨rfl, HB1.out _⟩
end Go.Proofs.YtableoihgkmbjaaGreat
