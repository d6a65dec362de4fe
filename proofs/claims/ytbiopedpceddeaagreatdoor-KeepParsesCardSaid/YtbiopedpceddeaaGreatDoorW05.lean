/- Merged: C4U1, C4PlainF, C4U2, C4U5, C4U6. -/
import Derived.Test.YtbiopedpceddeaaGreatDoorW04
import Derived.BigGuardPart
import Derived.Test.YtbiopedpceddeaaGreatDoorW03
set_option linter.unusedVariables false
set_option linter.unusedSimpArgs false
section
namespace Go.Proofs.YtbiopedpceddeaaGreatDoor
open Go.RowKit
set_option linter.unusedVariables false
set_option linter.unusedSimpArgs false

namespace R
/-- operands of an operation of terms or patterns -/
def rar (op : Int) : Int := if op = 34 then 0 else if op = 35 then 1 else T.ar op
theorem rar_cases (op : Int) : (op = 0 ∧ rar op = 0) ∨ (op = 33 ∧ rar op = 0) ∨ (op = 34 ∧ rar op = 0) ∨ (1 ≤ op ∧ op ≤ 14 ∧ rar op = 2) ∨ (op = 15 ∧ rar op = 3) ∨ (16 ≤ op ∧ op ≤ 18 ∧ rar op = 1) ∨ (op = 35 ∧ rar op = 1) ∨
    (¬ op = 0 ∧ ¬ op = 33 ∧ ¬ op = 34 ∧ ¬ (1 ≤ op ∧ op ≤ 14) ∧ ¬ op = 15 ∧ ¬ (16 ≤ op ∧ op ≤ 18) ∧ ¬ op = 35 ∧ rar op = -1) := by
  by_cases h1 : op = 34
  · exact .inr (.inr (.inl ⟨h1, by unfold rar; rw [if_pos h1]⟩))
  by_cases h2 : op = 35
  · exact .inr (.inr (.inr (.inr (.inr (.inr (.inl ⟨h2, by unfold rar; rw [if_neg h1, if_pos h2]⟩))))))
  have e : rar op = T.ar op := by unfold rar; rw [if_neg h1, if_neg h2]
  rw [e]
  have := ar_cases op
  omega
/-- the flags that an operation may have -/
def flm (op : Int) : Int := if op = 1 ∨ op = 2 ∨ op = 3 ∨ op = 11 then 3 else if op = 4 ∨ op = 6 ∨ op = 12 ∨ op = 13 then 4 else 0
end R

theorem garity_any (op : Int) (W : World) :
    Calls Tryz.prog 192 #[.int .i64 op] W fun e w' => e = .returned (.tuple #[.int .i64 (if 0 ≤ R.rar op then R.rar op else 0), .bool (decide (0 ≤ R.rar op))]) ∧ W = w' := by
  rcases R.rar_cases op with ⟨rfl, h⟩ | ⟨rfl, h⟩ | ⟨rfl, h⟩ | ⟨h1, h2, h⟩ | ⟨rfl, h⟩ | ⟨h1, h2, h⟩ | ⟨rfl, h⟩ | ⟨h1, h2, h3, h4, h5, h6, h7, h⟩
  all_goals
    rw [h]
    have H := Lib.hid h
    clear h
  case inr.inr.inr.inl =>
    have q1 : (op == 0) = false := by simp; omega
    have q2 : (op == 33) = false := by simp; omega
    have q3 : (op == 34) = false := by simp; omega
    go_enter Tryz.func192, Tryz.ntmps192
    go_wp2
    go_ret2
    exact ⟨ret_ib (by simp) (by simp), rfl⟩
  case inr.inr.inr.inr.inr.inl =>
    have q1 : (op == 0) = false := by simp; omega
    have q2 : (op == 33) = false := by simp; omega
    have q3 : (op == 34) = false := by simp; omega
    have q4 : (op == 15) = false := by simp; omega
    have q5 : decide (1 ≤ op) = true := by simp; omega
    have q6 : decide (op ≤ 14) = false := by simp; omega
    go_enter Tryz.func192, Tryz.ntmps192
    go_wp2
    go_ret2
    exact ⟨ret_ib (by simp) (by simp), rfl⟩
  case inr.inr.inr.inr.inr.inr.inr =>
    have q1 : (op == 0) = false := by simpa using h1
    have q2 : (op == 33) = false := by simpa using h2
    have q3 : (op == 34) = false := by simpa using h3
    have q4 : (op == 15) = false := by simpa using h5
    have q5 : (op == 35) = false := by simpa using h7
    have hc : (op < 1) ∨ (14 < op ∧ op < 16) ∨ 18 < op := by omega
    clear h1 h2 h3 h5 h7
    rcases hc with hc | hc | hc
    · have q6 : decide (1 ≤ op) = false := by simp; omega
      have q7 : decide (16 ≤ op) = false := by simp; omega
      clear h4 h6 hc
      go_enter Tryz.func192, Tryz.ntmps192
      go_wp2
      go_ret2
      exact ⟨ret_ib (by simp) (by simp), rfl⟩
    · exfalso; simp at q4; omega
    · have q6 : decide (1 ≤ op) = true := by simp; omega
      have q7 : decide (16 ≤ op) = true := by simp; omega
      have q8 : decide (op ≤ 14) = false := by simp; omega
      have q9 : decide (op ≤ 18) = false := by simp; omega
      clear h4 h6 hc
      go_enter Tryz.func192, Tryz.ntmps192
      go_wp2
      go_ret2
      exact ⟨ret_ib (by simp) (by simp), rfl⟩
  all_goals
    go_enter Tryz.func192, Tryz.ntmps192
    go_wp2
    go_ret2
    exact ⟨ret_ib (by simp) (by simp), rfl⟩

theorem ret_i {a b : Int} (h : a = b) : Ending.returned (.int .i64 a) = .returned (.int .i64 b) := by rw [h]

theorem gflags_any (op : Int) (W : World) : Calls Tryz.prog 193 #[.int .i64 op] W fun e w' => e = .returned (.int .i64 (R.flm op)) ∧ W = w' := by
  have hc : op = 1 ∨ op = 2 ∨ op = 3 ∨ op = 11 ∨ op = 4 ∨ op = 6 ∨ op = 12 ∨ op = 13 ∨ (op ≠ 1 ∧ op ≠ 2 ∧ op ≠ 3 ∧ op ≠ 11 ∧ op ≠ 4 ∧ op ≠ 6 ∧ op ≠ 12 ∧ op ≠ 13) := by omega
  rcases hc with rfl | rfl | rfl | rfl | rfl | rfl | rfl | rfl | ⟨h1, h2, h3, h4, h5, h6, h7, h8⟩
  case inr.inr.inr.inr.inr.inr.inr.inr =>
    have e : R.flm op = 0 := by unfold R.flm; rw [if_neg (by omega), if_neg (by omega)]
    rw [e]
    have q1 : (op == 1) = false := by simpa using h1
    have q2 : (op == 2) = false := by simpa using h2
    have q3 : (op == 3) = false := by simpa using h3
    have q4 : (op == 11) = false := by simpa using h4
    have q5 : (op == 4) = false := by simpa using h5
    have q6 : (op == 6) = false := by simpa using h6
    have q7 : (op == 12) = false := by simpa using h7
    have q8 : (op == 13) = false := by simpa using h8
    clear e h1 h2 h3 h4 h5 h6 h7 h8
    go_enter Tryz.func193, Tryz.ntmps193
    go_wp2
    go_ret
    exact ⟨rfl, rfl⟩
  all_goals
    go_enter Tryz.func193, Tryz.ntmps193
    go_wp2
    go_ret
    exact ⟨ret_i (by decide), rfl⟩

theorem builtClo_any (k : Nat) (g : Nat) (w : World) (hc : w.cell? ⟨g, 0, none⟩ = some (.int .i64 (k : Int))) :
    Answers 195 #[.pointer (some ⟨g, 0, none⟩)] (fun a => !(decide (0 ≤ a) && decide (a < k))) w := by
  refine ⟨enters_of Tryz.func195 (by kernel_rfl) rfl, fun x => ?_⟩
  dsimp only
  by_cases h0 : x < 0
  · have q0 : decide (x < 0) = true := by simpa using h0
    have e : (!(decide (0 ≤ x) && decide (x < k))) = true := by simp; omega
    rw [e]
    clear e h0
    simp only [List.append_toArray, List.nil_append, List.cons_append]
    go_enter Tryz.func195, Tryz.ntmps195
    go_wp2
    go_ret
    exact ⟨rfl, rfl⟩
  · have q0 : decide (x < 0) = false := by simpa using h0
    have e : (!(decide (0 ≤ x) && decide (x < k))) = decide ((k : Int) ≤ x) := by
      by_cases h : (k : Int) ≤ x <;> simp [h] <;> omega
    rw [e]
    clear e h0
    simp only [List.append_toArray, List.nil_append, List.cons_append]
    go_enter Tryz.func195, Tryz.ntmps195
    go_wp2
    go_ret
    exact ⟨rfl, rfl⟩

theorem gisWord_any (w n : Int) (W : World) (h0 : 0 ≤ n) : Calls Tryz.prog 45 #[.int .i64 w, .int .u32 n] W fun e w' => e = .returned (.bool (B.isW w n)) ∧ W = w' := by
  have HM := Lib.hid (fun W' => Mask_any w W')
  cases hw : B.isWd w
  · have e : B.isW w n = false := by unfold B.isW; rw [hw]; rfl
    rw [e]
    rw [hw] at HM
    clear e hw
    go_enter Tryz.func45, Tryz.ntmps45
    go_wp2_with (go_at_call 100; (with_reducible refine (HM.out _).mono ?_); rintro e w1 ⟨rfl, rfl⟩)
    go_ret
    exact ⟨rfl, rfl⟩
  · have e : B.isW w n = decide (n ≤ B.pw w - 1) := by unfold B.isW; rw [hw, Bool.true_and]; by_cases h : n < B.pw w <;> simp [h] <;> omega
    rw [e]
    rw [hw] at HM
    clear e hw
    go_enter Tryz.func45, Tryz.ntmps45
    go_wp2_with (go_at_call 100; (with_reducible refine (HM.out _).mono ?_); rintro e w1 ⟨rfl, rfl⟩)
    go_ret
    exact ⟨rfl, rfl⟩
end Go.Proofs.YtbiopedpceddeaaGreatDoor
end
section
namespace Go.Proofs.YtbiopedpceddeaaGreatDoor
open Go.RowKit
set_option linter.unusedVariables false
set_option linter.unusedSimpArgs false

namespace R
theorem wrap_zero (n : Nat) (h : n < 2 ^ 64) : (IntKind.i64.wrap (n : Int) = 0) ↔ n = 0 := by
  unfold IntKind.wrap
  simp only [IntKind.signed, IntKind.bits]
  constructor
  · intro h'
    simp at h'
    split at h' <;> omega
  · rintro rfl; decide

theorem under (a m : BitVec 64) (h : a &&& ~~~m = 0) : a = a &&& m := by
  apply BitVec.eq_of_getLsbD_eq
  intro i hi
  have := congrArg (fun b => b.getLsbD i) h
  simp only [BitVec.getLsbD_and, BitVec.getLsbD_not, hi, decide_true, Bool.true_and] at this ⊢
  have h0 : (0 : BitVec 64).getLsbD i = false := by simp
  rw [h0] at this
  revert this
  generalize a.getLsbD i = p
  generalize m.getLsbD i = q
  cases p <;> cases q <;> simp

theorem small_of (fl : Int) (h0 : -9223372036854775808 ≤ fl) (h1 : fl ≤ 9223372036854775807) (c : Nat) (hc : c ≤ 100) (h : (BitVec.ofInt 64 fl).toNat = c) : fl = c := by
  rw [BitVec.toNat_ofInt] at h
  omega

theorem and_le3 (n : Nat) (h : n = n &&& 3) : n ≤ 3 := by
  have : n &&& 3 ≤ 3 := Nat.and_le_right
  omega
theorem and_4 (n : Nat) (h : n = n &&& 4) : n = 0 ∨ n = 4 := by
  have h1 : n &&& 4 ≤ 4 := Nat.and_le_right
  have h2 : n ≤ 4 := by omega
  rcases Nat.lt_or_ge n 4 with h3 | h3
  · have : n = 0 ∨ n = 1 ∨ n = 2 ∨ n = 3 := by omega
    rcases this with rfl | rfl | rfl | rfl
    · exact .inl rfl
    · exact absurd h (by decide)
    · exact absurd h (by decide)
    · exact absurd h (by decide)
  · exact .inr (by omega)

/-- the program's question of flags -/
theorem flags_eq (op fl : Int) (h0 : -9223372036854775808 ≤ fl) (h1 : fl ≤ 9223372036854775807) : (bits .andNot .i64 fl (flm op) == 0) = flOk op fl := by
  have key : ∀ m : Int, (bits .andNot .i64 fl m == 0) = true → BitVec.ofInt 64 fl = BitVec.ofInt 64 fl &&& BitVec.ofInt 64 m := by
    intro m h
    refine under _ _ ?_
    unfold bits at h
    simp only [beq_iff_eq] at h
    have := (wrap_zero _ (BitVec.isLt _)).1 h
    exact BitVec.eq_of_toNat_eq this
  have sm : ∀ m : Int, BitVec.ofInt 64 fl = BitVec.ofInt 64 fl &&& BitVec.ofInt 64 m → (BitVec.ofInt 64 fl).toNat = (BitVec.ofInt 64 fl).toNat &&& (BitVec.ofInt 64 m).toNat := by
    intro m h
    have := congrArg BitVec.toNat h
    rwa [BitVec.toNat_and] at this
  unfold flm flOk
  rw [Bool.eq_iff_iff]
  split
  · constructor
    · intro h
      have e := sm _ (key _ h)
      have := and_le3 _ e
      have hs := small_of fl h0 h1 _ (by omega) rfl
      simp only [Bool.and_eq_true, decide_eq_true_eq]
      omega
    · intro h
      simp only [Bool.and_eq_true, decide_eq_true_eq] at h
      have : fl = 0 ∨ fl = 1 ∨ fl = 2 ∨ fl = 3 := by omega
      rcases this with rfl | rfl | rfl | rfl <;> decide
  · split
    · constructor
      · intro h
        have e := sm _ (key _ h)
        rcases and_4 _ e with e | e
        · have hs := small_of fl h0 h1 _ (by omega) e
          simp [hs]
        · have hs := small_of fl h0 h1 _ (by omega) e
          simp [hs]
      · intro h
        simp only [Bool.or_eq_true, decide_eq_true_eq] at h
        rcases h with rfl | rfl <;> decide
    · constructor
      · intro h
        have e := sm _ (key _ h)
        have h2 : (BitVec.ofInt 64 (0 : Int)).toNat = 0 := by decide
        rw [h2, Nat.and_zero] at e
        have hs := small_of fl h0 h1 _ (by omega) e
        simp [hs]
      · intro h
        simp only [decide_eq_true_eq] at h
        subst h
        decide
end R
end Go.Proofs.YtbiopedpceddeaaGreatDoor
end
section
namespace Go.Proofs.YtbiopedpceddeaaGreatDoor
open Go.RowKit
set_option linter.unusedVariables false
set_option linter.unusedSimpArgs false

namespace R
def built (k : Nat) (x : T.Nd) : Bool := decide (0 ≤ rar x.op) && decide ((x.args.length : Int) = rar x.op) && flOk x.op x.fl && T.argsOk k x.args
theorem built_cases (k : Nat) (x : T.Nd) :
    (built k x = false ∧ decide (0 ≤ rar x.op) = false) ∨
    (built k x = false ∧ decide (0 ≤ rar x.op) = true ∧ 0 ≤ rar x.op ∧ ((x.args.length : Int) == rar x.op) = false) ∨
    (built k x = false ∧ decide (0 ≤ rar x.op) = true ∧ 0 ≤ rar x.op ∧ ((x.args.length : Int) == rar x.op) = true ∧ flOk x.op x.fl = false) ∨
    (built k x = T.argsOk k x.args ∧ decide (0 ≤ rar x.op) = true ∧ 0 ≤ rar x.op ∧ ((x.args.length : Int) == rar x.op) = true ∧ flOk x.op x.fl = true) := by
  unfold built
  by_cases h1 : 0 ≤ rar x.op
  · by_cases h2 : (x.args.length : Int) = rar x.op
    · cases h3 : flOk x.op x.fl
      · exact .inr (.inr (.inl ⟨by simp, by simpa using h1, h1, by simpa using h2, rfl⟩))
      · exact .inr (.inr (.inr ⟨by simp [h1, h2], by simpa using h1, h1, by simpa using h2, rfl⟩))
    · exact .inr (.inl ⟨by simp [h2], by simpa using h1, h1, by simpa using h2⟩)
  · exact .inl ⟨by simp [h1], by simpa using h1⟩
end R

set_option maxRecDepth 100000 in
set_option maxHeartbeats 2000000 in
theorem gisBuilt_any (k : Nat) (x : T.Nd) (A : Option Addr) (c : Nat) (W : World) (hA : SlAt (IntR .i64) W A x.args.length x.args) (hf : -9223372036854775808 ≤ x.fl ∧ x.fl ≤ 9223372036854775807) :
    Calls Tryz.prog 155 #[.int .i64 k, ndV x A c] W fun e w' => e = .returned (.bool (R.built k x)) ∧ Below W.heap.size W w' := by
  have HA := Lib.hid (fun W' => garity_any x.op W')
  have HF := Lib.hid (fun W' => gflags_any x.op W')
  have hfe := R.flags_eq x.op x.fl hf.1 hf.2
  have hc := R.built_cases k x
  have hle := hA.le
  obtain ⟨W2, hW2⟩ : ∃ W2, W2 = (W.alloc (.cells #[.int .i64 k] 3)).alloc (.cells #[.int .i64 x.op, .int .i64 x.w, .int .i64 x.fl, .slice A x.args.length c, .int .u32 x.imm] 62) := ⟨_, rfl⟩
  have hB2 : Below W.heap.size W W2 := by rw [hW2]; exact ((Below.refl _ _).alloc (Nat.le_refl _) _).alloc (by simp) _
  have hr0 : W2.heap[W.heap.size]? = some (.cells #[.int .i64 k] 3 (0, 0)) := by rw [hW2]; exact row_alloc (heap_alloc_new W _) _
  have hr1 : W2.heap[W.heap.size + 1]? = some (.cells #[.int .i64 x.op, .int .i64 x.w, .int .i64 x.fl, .slice A x.args.length c, .int .u32 x.imm] 62 (0, 0)) := by rw [hW2]; exact new_two W _ _
  have d0 : W2.cell? ⟨W.heap.size, 0, none⟩ = some (.int .i64 k) := by rw [cell_of_row _ _ _ _ _ (0, 0) hr0]; rfl
  have x0 : W2.cell? ⟨W.heap.size + 1, 0, none⟩ = some (.int .i64 x.op) := by rw [cell_of_row _ _ _ _ _ (0, 0) hr1]; rfl
  have x2 : W2.cell? ⟨W.heap.size + 1, 2, none⟩ = some (.int .i64 x.fl) := by rw [cell_of_row _ _ _ _ _ (0, 0) hr1]; rfl
  have x3 : W2.cell? ⟨W.heap.size + 1, 3, none⟩ = some (.slice A x.args.length c) := by rw [cell_of_row _ _ _ _ _ (0, 0) hr1]; rfl
  have HQ := Lib.hid (fun nn => show Calls Tryz.prog 194 #[.slice A x.args.length c, .func (.func 195) #[] #[.pointer (some ⟨W.heap.size, 0, none⟩)]] (W2.drewN nn) (fun e w'' => e = .returned (.bool (!T.argsOk k x.args)) ∧ ∃ m, w'' = W2.drewN m) from
    Calls.quiet_of_same ((hasF_any _ _ _ A x.args.length c x.args (W2.drewN nn) ((hA.below (monoInt _) hB2).dr (monoInt _) ⟨nn, rfl⟩) (builtClo_any k W.heap.size (W2.drewN nn) d0)).mono fun e w' ⟨h1, h2⟩ => ⟨by rw [argsOk_any, Bool.not_not]; exact h1, h2.symm⟩))
  have HFq := Lib.hid (fun nn => show Calls Tryz.prog 193 #[.int .i64 x.op] (W2.drewN nn) (fun e w'' => e = .returned (.int .i64 (R.flm x.op)) ∧ ∃ m, w'' = W2.drewN m) from Calls.quiet_of_same ((HF.out _).mono fun e w' ⟨h1, h2⟩ => ⟨h1, h2.symm⟩))
  have HB2 := Lib.hid hB2
  obtain ⟨r, hr⟩ : ∃ r, r = R.rar x.op := ⟨_, rfl⟩
  obtain ⟨m, hm⟩ : ∃ m, m = R.flm x.op := ⟨_, rfl⟩
  obtain ⟨b, hb⟩ : ∃ b, b = R.built k x := ⟨_, rfl⟩
  rw [← hr] at HA hc
  rw [← hm] at HFq hfe
  rw [← hb] at hc ⊢
  generalize T.argsOk k x.args = ao at HQ hc
  generalize R.flOk x.op x.fl = fo at hfe hc
  unfold ndV
  obtain ⟨op, w, fl, args, imm⟩ := x
  dsimp only at *
  clear hA hr0 hr1 hB2 hf hr hm hb HF
  obtain ⟨r', hr'⟩ : ∃ r', r' = (if 0 ≤ r then r else 0) := ⟨_, rfl⟩
  rw [← hr'] at HA
  have Hr2 := Lib.hid (show 0 ≤ r → r' = r from fun h => by rw [hr', if_pos h])
  clear hr'
  rcases hc with ⟨rfl, q1⟩ | ⟨rfl, q1, q2, q3⟩ | ⟨rfl, q1, q2, q3, rfl⟩ | ⟨rfl, q1, q2, q3, rfl⟩
  all_goals
    first | (rw [← Hr2.out q2] at q3; clear q2) | skip
    rw [hW2] at d0 x0 x2 x3
    go_enter Tryz.func155, Tryz.ntmps155
    go_wp2_with (go_at_call 192; (with_reducible refine (HA.out _).mono ?_); rintro e w1 ⟨rfl, rfl⟩)
    rw [← hW2] at d0 x0 x2 x3 ⊢
    clear hW2
    go_quiet ((first | (go_at_call 193; with_reducible exact HFq.out _) | (go_at_call 194; with_reducible exact HQ.out _)))
    generalize hW3 : W2.drewN _ = W3
    have Hb3 := Lib.hid (HB2.out.dr ⟨_, hW3.symm⟩)
    clear hW3 d0 x0 x2 x3 HQ HFq
    go_wp2
    go_ret
    exact ⟨by first | rfl | simp, Hb3.out⟩
end Go.Proofs.YtbiopedpceddeaaGreatDoor
end
section
namespace Go.Proofs.YtbiopedpceddeaaGreatDoor
open Go.RowKit
set_option linter.unusedVariables false
set_option linter.unusedSimpArgs false

def cdC (x : R.Cd) : List Value := [.int .i64 x.kind, .int .i64 x.hole, .int .u32 x.imm]
def cdV (x : R.Cd) : Value := .agg #[.int .i64 x.kind, .int .i64 x.hole, .int .u32 x.imm]
def CdR (_ : World) (us : List Value) (x : R.Cd) : Prop := us = cdC x ∧ 0 ≤ x.imm ∧ x.imm < 4294967296
theorem monoCd : MonoL CdR := fun _ _ _ _ _ h => h
theorem cd_cells {W : World} {A : Option Addr} {n : Nat} {l : List R.Cd} (h : StAt 3 CdR W A n l) {j : Nat} (hj : j < n) :
    ∃ x b off, l[j]? = some x ∧ A = some ⟨b, off, none⟩ ∧ b < W.heap.size ∧ W.cell? ⟨b, off + j * 3, none⟩ = some (.int .i64 x.kind) ∧ W.cell? ⟨b, off + j * 3 + 1, none⟩ = some (.int .i64 x.hole) ∧ W.cell? ⟨b, off + j * 3 + 2, none⟩ = some (.int .u32 x.imm) ∧ 0 ≤ x.imm ∧ x.imm < 4294967296 := by
  obtain ⟨x, b, off, us, hx, hA, hb, hl, hc, rfl, h0, h1⟩ := h.at_ hj
  exact ⟨x, b, off, hx, hA, hb, hc 0 _ rfl, hc 1 _ rfl, hc 2 _ rfl, h0, h1⟩

set_option maxRecDepth 100000 in
set_option maxHeartbeats 1000000 in
/-- IndexFunc: the closure answers each element -/
theorem idxNd_any (f : FuncId) (caps : Array Value) (p : T.Nd → Bool) (A : Option Addr) (m c : Nat) (xs : List T.Nd) (w : World) (hA : StAt 5 NdR w A m xs) (hen : ∀ args W', (callFunc f args).run Tryz.prog W' = .ok (.enter f args) W')
    (hf : ∀ X, Below w.heap.size w X → ∀ (j : Nat) (x : T.Nd) (A' : Option Addr) (c' : Nat), xs[j]? = some x → SlAt (IntR .i64) X A' x.args.length x.args → 0 ≤ x.imm → x.imm < 4294967296 → Calls Tryz.prog f (#[ndV x A' c'] ++ caps) X fun e w' => e = .returned (.bool (p x)) ∧ Below X.heap.size X w') :
    Calls Tryz.prog 196 #[.slice A m c, .func (.func f) #[] caps] w fun e w' => ∃ r : Int, e = .returned (.int .i64 r) ∧ decide (0 ≤ r) = xs.any p ∧ -1 ≤ r ∧ Below w.heap.size w w' := by
  have hl := hA.le
  have HA := Lib.hid hA; clear hA
  have HP := Lib.hid hf; clear hf
  go_enter Tryz.func196, Tryz.ntmps196
  go_wp2
  go_loopg [8] (m + 1) (fun g i wr => ∃ k : Nat, k ≤ m ∧ i = .int .i64 k ∧ g + k = m + 1 ∧ Hid ((xs.take k).any p = false) ∧ Hid (Below w.heap.size w wr))
  case atStart => exact ⟨0, Nat.zero_le _, rfl, rfl, Lib.hid rfl, Lib.hid (Below.refl _ _)⟩
  case round =>
    obtain ⟨k, hk, rfl, hgk, HT, HB⟩ := hrel
    have Hgk := Lib.hid hgk; clear hgk
    by_cases hlt : k < m
    · obtain ⟨x, b, off, A', c', hx, rfl, hb, h0, h1, h2, h3, h4, hs, i0, i1⟩ := nd_cells (HA.out.below monoNd HB.out) hlt
      have con := HP.out wr HB.out k x A' c' hx hs i0 i1
      have Hx := Lib.hid hx
      unfold ndV at con
      clear hx hs hb i0 i1
      cases hpx : p x
      · rw [hpx] at con
        have Hcon := Lib.hid con; clear con
        have Hpx := Lib.hid hpx; clear hpx
        go_wp2_with fail
        (with_reducible refine Hcon.out.mono ?_)
        rintro e w' ⟨rfl, hb'⟩
        have HB' := Lib.hid (HB.out.trans (hb'.mono HB.out.size))
        clear hb'
        go_wp2
        go_roundg (gk - 1)
        case measure => have := Hgk.out; omega
        case rel => have := Hgk.out; exact ⟨k + 1, by omega, by go_num, by omega, Lib.hid (any_take_step Hx.out HT.out Hpx.out), HB'⟩
      · rw [hpx] at con
        have Hcon := Lib.hid con; clear con
        have Hpx := Lib.hid hpx; clear hpx
        go_wp2_with fail
        (with_reducible refine Hcon.out.mono ?_)
        rintro e w' ⟨rfl, hb'⟩
        have HB' := Lib.hid (HB.out.trans (hb'.mono HB.out.size))
        clear hb'
        go_wp2
        go_ret
        exact ⟨_, rfl, by rw [any_true_at Hx.out Hpx.out]; simp, by omega, HB'.out⟩
    · go_wp2
      go_ret
      have h3 := HT.out
      rw [take_all HA.out.len (by omega)] at h3
      exact ⟨_, rfl, by rw [h3]; rfl, by omega, HB.out⟩

set_option maxHeartbeats 400000 in
theorem hasNd_any (f : FuncId) (caps : Array Value) (p : T.Nd → Bool) (A : Option Addr) (m c : Nat) (xs : List T.Nd) (w : World) (hA : StAt 5 NdR w A m xs) (hen : ∀ args W', (callFunc f args).run Tryz.prog W' = .ok (.enter f args) W')
    (hf : ∀ X, Below w.heap.size w X → ∀ (j : Nat) (x : T.Nd) (A' : Option Addr) (c' : Nat), xs[j]? = some x → SlAt (IntR .i64) X A' x.args.length x.args → 0 ≤ x.imm → x.imm < 4294967296 → Calls Tryz.prog f (#[ndV x A' c'] ++ caps) X fun e w' => e = .returned (.bool (p x)) ∧ Below X.heap.size X w') :
    Calls Tryz.prog 156 #[.slice A m c, .func (.func f) #[] caps] w fun e w' => e = .returned (.bool (xs.any p)) ∧ Below w.heap.size w w' := by
  have Hcon := Lib.hid (idxNd_any f caps p A m c xs w hA hen hf); clear hA hf hen
  go_enter Tryz.func156, Tryz.ntmps156
  go_wp2_with fail
  (with_reducible refine Hcon.out.mono ?_)
  rintro e w' ⟨r, rfl, hr, hr1, hb⟩
  have Hr := Lib.hid hr
  have Hb := Lib.hid hb
  clear hr hb
  go_wp2
  go_ret
  exact ⟨ret_bool (by rw [← Hr.out]), Hb.out⟩

set_option maxRecDepth 100000 in
set_option maxHeartbeats 1000000 in
/-- IndexFunc: the closure answers each element -/
theorem idxCd_any (f : FuncId) (caps : Array Value) (p : R.Cd → Bool) (A : Option Addr) (m c : Nat) (xs : List R.Cd) (w : World) (hA : StAt 3 CdR w A m xs) (hen : ∀ args W', (callFunc f args).run Tryz.prog W' = .ok (.enter f args) W')
    (hf : ∀ X, Below w.heap.size w X → ∀ (j : Nat) (x : R.Cd), xs[j]? = some x → 0 ≤ x.imm → x.imm < 4294967296 → Calls Tryz.prog f (#[cdV x] ++ caps) X fun e w' => e = .returned (.bool (p x)) ∧ Below X.heap.size X w') :
    Calls Tryz.prog 166 #[.slice A m c, .func (.func f) #[] caps] w fun e w' => ∃ r : Int, e = .returned (.int .i64 r) ∧ decide (0 ≤ r) = xs.any p ∧ -1 ≤ r ∧ Below w.heap.size w w' := by
  have hl := hA.le
  have HA := Lib.hid hA; clear hA
  have HP := Lib.hid hf; clear hf
  go_enter Tryz.func166, Tryz.ntmps166
  go_wp2
  go_loopg [8] (m + 1) (fun g i wr => ∃ k : Nat, k ≤ m ∧ i = .int .i64 k ∧ g + k = m + 1 ∧ Hid ((xs.take k).any p = false) ∧ Hid (Below w.heap.size w wr))
  case atStart => exact ⟨0, Nat.zero_le _, rfl, rfl, Lib.hid rfl, Lib.hid (Below.refl _ _)⟩
  case round =>
    obtain ⟨k, hk, rfl, hgk, HT, HB⟩ := hrel
    have Hgk := Lib.hid hgk; clear hgk
    by_cases hlt : k < m
    · obtain ⟨x, b, off, hx, rfl, hb, h0, h1, h2, i0, i1⟩ := cd_cells (HA.out.below monoCd HB.out) hlt
      have con := HP.out wr HB.out k x hx i0 i1
      have Hx := Lib.hid hx
      unfold cdV at con
      clear hx hb i0 i1
      cases hpx : p x
      · rw [hpx] at con
        have Hcon := Lib.hid con; clear con
        have Hpx := Lib.hid hpx; clear hpx
        go_wp2_with fail
        (with_reducible refine Hcon.out.mono ?_)
        rintro e w' ⟨rfl, hb'⟩
        have HB' := Lib.hid (HB.out.trans (hb'.mono HB.out.size))
        clear hb'
        go_wp2
        go_roundg (gk - 1)
        case measure => have := Hgk.out; omega
        case rel => have := Hgk.out; exact ⟨k + 1, by omega, by go_num, by omega, Lib.hid (any_take_step Hx.out HT.out Hpx.out), HB'⟩
      · rw [hpx] at con
        have Hcon := Lib.hid con; clear con
        have Hpx := Lib.hid hpx; clear hpx
        go_wp2_with fail
        (with_reducible refine Hcon.out.mono ?_)
        rintro e w' ⟨rfl, hb'⟩
        have HB' := Lib.hid (HB.out.trans (hb'.mono HB.out.size))
        clear hb'
        go_wp2
        go_ret
        exact ⟨_, rfl, by rw [any_true_at Hx.out Hpx.out]; simp, by omega, HB'.out⟩
    · go_wp2
      go_ret
      have h3 := HT.out
      rw [take_all HA.out.len (by omega)] at h3
      exact ⟨_, rfl, by rw [h3]; rfl, by omega, HB.out⟩

set_option maxHeartbeats 400000 in
theorem hasCd_any (f : FuncId) (caps : Array Value) (p : R.Cd → Bool) (A : Option Addr) (m c : Nat) (xs : List R.Cd) (w : World) (hA : StAt 3 CdR w A m xs) (hen : ∀ args W', (callFunc f args).run Tryz.prog W' = .ok (.enter f args) W')
    (hf : ∀ X, Below w.heap.size w X → ∀ (j : Nat) (x : R.Cd), xs[j]? = some x → 0 ≤ x.imm → x.imm < 4294967296 → Calls Tryz.prog f (#[cdV x] ++ caps) X fun e w' => e = .returned (.bool (p x)) ∧ Below X.heap.size X w') :
    Calls Tryz.prog 122 #[.slice A m c, .func (.func f) #[] caps] w fun e w' => e = .returned (.bool (xs.any p)) ∧ Below w.heap.size w w' := by
  have Hcon := Lib.hid (idxCd_any f caps p A m c xs w hA hen hf); clear hA hf hen
  go_enter Tryz.func122, Tryz.ntmps122
  go_wp2_with fail
  (with_reducible refine Hcon.out.mono ?_)
  rintro e w' ⟨r, rfl, hr, hr1, hb⟩
  have Hr := Lib.hid hr
  have Hb := Lib.hid hb
  clear hr hb
  go_wp2
  go_ret
  exact ⟨ret_bool (by rw [← Hr.out]), Hb.out⟩

theorem typedClo1_any (t : List T.Nd) (n ct g : Nat) (At : Option Addr) (x : T.Nd) (A : Option Addr) (c : Nat) (W : World) (hT : StAt 5 NdR W At n t) (hg : W.cell? ⟨g, 0, none⟩ = some (.slice At n ct)) (hA : SlAt (IntR .i64) W A x.args.length x.args) (hlen : 1 ≤ x.op → x.op ≤ 18 → (x.args.length : Int) = T.ar x.op) (harg : ∀ a ∈ x.args, 0 ≤ a ∧ a < (n : Int)) :
    Calls Tryz.prog 157 #[ndV x A c, .pointer (some ⟨g, 0, none⟩)] W fun e w' => e = .returned (.bool (!T.typed t x)) ∧ Below W.heap.size W w' := by
  have hb1 : Below W.heap.size W (W.alloc (.cells #[.int .i64 x.op, .int .i64 x.w, .int .i64 x.fl, .slice A x.args.length c, .int .u32 x.imm] 62)) := (Below.refl _ _).alloc (Nat.le_refl _) _
  have HT := Lib.hid (pisTyped_any t x n ct At A c _ (hT.below monoNd hb1) (hA.below (monoInt _) hb1) hlen harg)
  have Hb1 := Lib.hid hb1
  have hg1 := (hb1.cell (p := ⟨g, 0, none⟩) (cell_below hg)).trans hg
  generalize T.typed t x = b at *
  clear hT hA hb1 hlen harg hg
  unfold ndV at *
  go_enter Tryz.func157, Tryz.ntmps157
  go_wp2_with fail
  (with_reducible refine HT.out.mono ?_)
  rintro e w2 ⟨rfl, hb2⟩
  have Hb2 := Lib.hid (Hb1.out.trans (hb2.mono Hb1.out.size))
  clear hb2
  go_wp2
  go_ret
  exact ⟨rfl, Hb2.out⟩

theorem all_any {α : Type} (p : α → Bool) (l : List α) : (!l.any fun x => !p x) = l.all p := by
  induction l with
  | nil => rfl
  | cons x l ih => rw [List.any_cons, List.all_cons, ← ih]; cases p x <;> simp

/-- a list of which each node has its operands, below its length -/
theorem gallTyped_any (t : List T.Nd) (n ct : Nat) (At : Option Addr) (W : World) (hT : StAt 5 NdR W At n t) (hlen : ∀ x ∈ t, 1 ≤ x.op → x.op ≤ 18 → (x.args.length : Int) = T.ar x.op) (harg : ∀ x ∈ t, ∀ a ∈ x.args, 0 ≤ a ∧ a < (n : Int)) :
    Calls Tryz.prog 99 #[.slice At n ct] W fun e w' => e = .returned (.bool (t.all (T.typed t))) ∧ Below W.heap.size W w' := by
  obtain ⟨W1, hW1⟩ : ∃ W1, W1 = W.alloc (.cells #[.slice At n ct] 22) := ⟨_, rfl⟩
  have hb1 : Below W.heap.size W W1 := by rw [hW1]; exact (Below.refl _ _).alloc (Nat.le_refl _) _
  have hr1 : W1.heap[W.heap.size]? = some (.cells #[.slice At n ct] 22 (0, 0)) := by rw [hW1]; exact heap_alloc_new W _
  have H := Lib.hid (hasNd_any 157 #[.pointer (some ⟨W.heap.size, 0, none⟩)] (fun x => !T.typed t x) At n ct t W1 (hT.below monoNd hb1) (enters_of Tryz.func157 (by kernel_rfl) rfl) (fun X hX j x A' c' hx hs i0 i1 => by
    have hm := List.mem_of_getElem? hx
    have hc : X.cell? ⟨W.heap.size, 0, none⟩ = some (.slice At n ct) := by rw [cell_of_row _ _ _ _ _ (0, 0) (row_step (Lib.hid hX) hr1)]; rfl
    have := typedClo1_any t n ct W.heap.size At x A' c' X ((hT.below monoNd hb1).below monoNd hX) hc hs (hlen x hm) (harg x hm)
    simpa using this))
  have Hb1 := Lib.hid hb1
  have He := Lib.hid (all_any (T.typed t) t)
  generalize (t.any fun x => !T.typed t x) = b at H He
  generalize t.all (T.typed t) = r at He ⊢
  have hc1 : W1.cell? ⟨W.heap.size, 0, none⟩ = some (.slice At n ct) := by rw [cell_of_row _ _ _ _ _ (0, 0) hr1]; rfl
  clear hT hlen harg hb1 hr1
  go_enter Tryz.func99, Tryz.ntmps99
  rw [hW1] at hc1
  go_wp2_with fail
  rw [← hW1] at hc1 ⊢
  clear hW1
  (with_reducible refine H.out.mono ?_)
  rintro e w2 ⟨rfl, hb2⟩
  have Hb2 := Lib.hid (Hb1.out.trans (hb2.mono Hb1.out.size))
  clear hb2
  go_wp2
  go_ret
  exact ⟨by rw [← He.out]; rfl, Hb2.out⟩
end Go.Proofs.YtbiopedpceddeaaGreatDoor
end
section
namespace Go.Proofs.YtbiopedpceddeaaGreatDoor
open Go.RowKit
set_option linter.unusedVariables false
set_option linter.unusedSimpArgs false

namespace R
/-- the flags of a list's nodes are ints -/
def flr (t : List T.Nd) : Prop := ∀ y ∈ t, -9223372036854775808 ≤ y.fl ∧ y.fl ≤ 9223372036854775807
end R

end Go.Proofs.YtbiopedpceddeaaGreatDoor
end
