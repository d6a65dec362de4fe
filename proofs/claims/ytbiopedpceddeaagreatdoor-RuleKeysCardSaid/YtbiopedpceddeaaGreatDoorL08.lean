/- Merged: RU1, RPlainF, RU2. -/
import Derived.Test.YtbiopedpceddeaaGreatDoorL07
import Derived.BigGuardPart
import Derived.Test.YtbiopedpceddeaaGreatDoorL06
set_option linter.unusedVariables false
set_option linter.unusedSimpArgs false
section
namespace Go.Proofs.YtbiopedpceddeaaGreatDoor
open Go.RowKit
set_option linter.unusedVariables false
set_option linter.unusedSimpArgs false

namespace R
/-- operands of an operation of terms or patterns -/
def rar (op : Int) : Int := if op = 34 then 0 else if op = 35 then 1 else T.ar op
theorem rar_cases (op : Int) : (op = 0 ∧ rar op = 0) ∨ (op = 33 ∧ rar op = 0) ∨ (op = 34 ∧ rar op = 0) ∨ (1 ≤ op ∧ op ≤ 14 ∧ rar op = 2) ∨ (op = 15 ∧ rar op = 3) ∨ (16 ≤ op ∧ op ≤ 18 ∧ rar op = 1) ∨ (op = 35 ∧ rar op = 1) ∨
    (¬ op = 0 ∧ ¬ op = 33 ∧ ¬ op = 34 ∧ ¬ (1 ≤ op ∧ op ≤ 14) ∧ ¬ op = 15 ∧ ¬ (16 ≤ op ∧ op ≤ 18) ∧ ¬ op = 35 ∧ rar op = -1) := by
  by_cases h1 : op = 34
  · exact .inr (.inr (.inl ⟨h1, by unfold rar; rw [if_pos h1]⟩))
  by_cases h2 : op = 35
  · exact .inr (.inr (.inr (.inr (.inr (.inr (.inl ⟨h2, by unfold rar; rw [if_neg h1, if_pos h2]⟩))))))
  have e : rar op = T.ar op := by unfold rar; rw [if_neg h1, if_neg h2]
  rw [e]
  have := ar_cases op
  omega
/-- the flags that an operation may have -/
def flm (op : Int) : Int := if op = 1 ∨ op = 2 ∨ op = 3 ∨ op = 11 then 3 else if op = 4 ∨ op = 6 ∨ op = 12 ∨ op = 13 then 4 else 0
end R

theorem garity_any (op : Int) (W : World) :
    Calls Tryz.prog 192 #[.int .i64 op] W fun e w' => e = .returned (.tuple #[.int .i64 (if 0 ≤ R.rar op then R.rar op else 0), .bool (decide (0 ≤ R.rar op))]) ∧ W = w' := by
  rcases R.rar_cases op with ⟨rfl, h⟩ | ⟨rfl, h⟩ | ⟨rfl, h⟩ | ⟨h1, h2, h⟩ | ⟨rfl, h⟩ | ⟨h1, h2, h⟩ | ⟨rfl, h⟩ | ⟨h1, h2, h3, h4, h5, h6, h7, h⟩
  all_goals
    rw [h]
    have H := Lib.hid h
    clear h
  case inr.inr.inr.inl =>
    have q1 : (op == 0) = false := by simp; omega
    have q2 : (op == 33) = false := by simp; omega
    have q3 : (op == 34) = false := by simp; omega
    go_enter Tryz.func192, Tryz.ntmps192
    go_wp2
    go_ret2
    exact ⟨ret_ib (by simp) (by simp), rfl⟩
  case inr.inr.inr.inr.inr.inl =>
    have q1 : (op == 0) = false := by simp; omega
    have q2 : (op == 33) = false := by simp; omega
    have q3 : (op == 34) = false := by simp; omega
    have q4 : (op == 15) = false := by simp; omega
    have q5 : decide (1 ≤ op) = true := by simp; omega
    have q6 : decide (op ≤ 14) = false := by simp; omega
    go_enter Tryz.func192, Tryz.ntmps192
    go_wp2
    go_ret2
    exact ⟨ret_ib (by simp) (by simp), rfl⟩
  case inr.inr.inr.inr.inr.inr.inr =>
    have q1 : (op == 0) = false := by simpa using h1
    have q2 : (op == 33) = false := by simpa using h2
    have q3 : (op == 34) = false := by simpa using h3
    have q4 : (op == 15) = false := by simpa using h5
    have q5 : (op == 35) = false := by simpa using h7
    have hc : (op < 1) ∨ (14 < op ∧ op < 16) ∨ 18 < op := by omega
    clear h1 h2 h3 h5 h7
    rcases hc with hc | hc | hc
    · have q6 : decide (1 ≤ op) = false := by simp; omega
      have q7 : decide (16 ≤ op) = false := by simp; omega
      clear h4 h6 hc
      go_enter Tryz.func192, Tryz.ntmps192
      go_wp2
      go_ret2
      exact ⟨ret_ib (by simp) (by simp), rfl⟩
    · exfalso; simp at q4; omega
    · have q6 : decide (1 ≤ op) = true := by simp; omega
      have q7 : decide (16 ≤ op) = true := by simp; omega
      have q8 : decide (op ≤ 14) = false := by simp; omega
      have q9 : decide (op ≤ 18) = false := by simp; omega
      clear h4 h6 hc
      go_enter Tryz.func192, Tryz.ntmps192
      go_wp2
      go_ret2
      exact ⟨ret_ib (by simp) (by simp), rfl⟩
  all_goals
    go_enter Tryz.func192, Tryz.ntmps192
    go_wp2
    go_ret2
    exact ⟨ret_ib (by simp) (by simp), rfl⟩

theorem ret_i {a b : Int} (h : a = b) : Ending.returned (.int .i64 a) = .returned (.int .i64 b) := by rw [h]

theorem gflags_any (op : Int) (W : World) : Calls Tryz.prog 193 #[.int .i64 op] W fun e w' => e = .returned (.int .i64 (R.flm op)) ∧ W = w' := by
  have hc : op = 1 ∨ op = 2 ∨ op = 3 ∨ op = 11 ∨ op = 4 ∨ op = 6 ∨ op = 12 ∨ op = 13 ∨ (op ≠ 1 ∧ op ≠ 2 ∧ op ≠ 3 ∧ op ≠ 11 ∧ op ≠ 4 ∧ op ≠ 6 ∧ op ≠ 12 ∧ op ≠ 13) := by omega
  rcases hc with rfl | rfl | rfl | rfl | rfl | rfl | rfl | rfl | ⟨h1, h2, h3, h4, h5, h6, h7, h8⟩
  case inr.inr.inr.inr.inr.inr.inr.inr =>
    have e : R.flm op = 0 := by unfold R.flm; rw [if_neg (by omega), if_neg (by omega)]
    rw [e]
    have q1 : (op == 1) = false := by simpa using h1
    have q2 : (op == 2) = false := by simpa using h2
    have q3 : (op == 3) = false := by simpa using h3
    have q4 : (op == 11) = false := by simpa using h4
    have q5 : (op == 4) = false := by simpa using h5
    have q6 : (op == 6) = false := by simpa using h6
    have q7 : (op == 12) = false := by simpa using h7
    have q8 : (op == 13) = false := by simpa using h8
    clear e h1 h2 h3 h4 h5 h6 h7 h8
    go_enter Tryz.func193, Tryz.ntmps193
    go_wp2
    go_ret
    exact ⟨rfl, rfl⟩
  all_goals
    go_enter Tryz.func193, Tryz.ntmps193
    go_wp2
    go_ret
    exact ⟨ret_i (by decide), rfl⟩

theorem builtClo_any (k : Nat) (g : Nat) (w : World) (hc : w.cell? ⟨g, 0, none⟩ = some (.int .i64 (k : Int))) :
    Answers 195 #[.pointer (some ⟨g, 0, none⟩)] (fun a => !(decide (0 ≤ a) && decide (a < k))) w := by
  refine ⟨enters_of Tryz.func195 (by kernel_rfl) rfl, fun x => ?_⟩
  dsimp only
  by_cases h0 : x < 0
  · have q0 : decide (x < 0) = true := by simpa using h0
    have e : (!(decide (0 ≤ x) && decide (x < k))) = true := by simp; omega
    rw [e]
    clear e h0
    simp only [List.append_toArray, List.nil_append, List.cons_append]
    go_enter Tryz.func195, Tryz.ntmps195
    go_wp2
    go_ret
    exact ⟨rfl, rfl⟩
  · have q0 : decide (x < 0) = false := by simpa using h0
    have e : (!(decide (0 ≤ x) && decide (x < k))) = decide ((k : Int) ≤ x) := by
      by_cases h : (k : Int) ≤ x <;> simp [h] <;> omega
    rw [e]
    clear e h0
    simp only [List.append_toArray, List.nil_append, List.cons_append]
    go_enter Tryz.func195, Tryz.ntmps195
    go_wp2
    go_ret
    exact ⟨rfl, rfl⟩

theorem gisWord_any (w n : Int) (W : World) (h0 : 0 ≤ n) : Calls Tryz.prog 45 #[.int .i64 w, .int .u32 n] W fun e w' => e = .returned (.bool (B.isW w n)) ∧ W = w' := by
  have HM := Lib.hid (fun W' => Mask_any w W')
  cases hw : B.isWd w
  · have e : B.isW w n = false := by unfold B.isW; rw [hw]; rfl
    rw [e]
    rw [hw] at HM
    clear e hw
    go_enter Tryz.func45, Tryz.ntmps45
    go_wp2_with (go_at_call 100; (with_reducible refine (HM.out _).mono ?_); rintro e w1 ⟨rfl, rfl⟩)
    go_ret
    exact ⟨rfl, rfl⟩
  · have e : B.isW w n = decide (n ≤ B.pw w - 1) := by unfold B.isW; rw [hw, Bool.true_and]; by_cases h : n < B.pw w <;> simp [h] <;> omega
    rw [e]
    rw [hw] at HM
    clear e hw
    go_enter Tryz.func45, Tryz.ntmps45
    go_wp2_with (go_at_call 100; (with_reducible refine (HM.out _).mono ?_); rintro e w1 ⟨rfl, rfl⟩)
    go_ret
    exact ⟨rfl, rfl⟩
end Go.Proofs.YtbiopedpceddeaaGreatDoor
end
section
namespace Go.Proofs.YtbiopedpceddeaaGreatDoor
open Go.RowKit
set_option linter.unusedVariables false
set_option linter.unusedSimpArgs false

namespace R
theorem wrap_zero (n : Nat) (h : n < 2 ^ 64) : (IntKind.i64.wrap (n : Int) = 0) ↔ n = 0 := by
  unfold IntKind.wrap
  simp only [IntKind.signed, IntKind.bits]
  constructor
  · intro h'
    simp at h'
    split at h' <;> omega
  · rintro rfl; decide

theorem under (a m : BitVec 64) (h : a &&& ~~~m = 0) : a = a &&& m := by
  apply BitVec.eq_of_getLsbD_eq
  intro i hi
  have := congrArg (fun b => b.getLsbD i) h
  simp only [BitVec.getLsbD_and, BitVec.getLsbD_not, hi, decide_true, Bool.true_and] at this ⊢
  have h0 : (0 : BitVec 64).getLsbD i = false := by simp
  rw [h0] at this
  revert this
  generalize a.getLsbD i = p
  generalize m.getLsbD i = q
  cases p <;> cases q <;> simp

theorem small_of (fl : Int) (h0 : -9223372036854775808 ≤ fl) (h1 : fl ≤ 9223372036854775807) (c : Nat) (hc : c ≤ 100) (h : (BitVec.ofInt 64 fl).toNat = c) : fl = c := by
  rw [BitVec.toNat_ofInt] at h
  omega

theorem and_le3 (n : Nat) (h : n = n &&& 3) : n ≤ 3 := by
  have : n &&& 3 ≤ 3 := Nat.and_le_right
  omega
theorem and_4 (n : Nat) (h : n = n &&& 4) : n = 0 ∨ n = 4 := by
  have h1 : n &&& 4 ≤ 4 := Nat.and_le_right
  have h2 : n ≤ 4 := by omega
  rcases Nat.lt_or_ge n 4 with h3 | h3
  · have : n = 0 ∨ n = 1 ∨ n = 2 ∨ n = 3 := by omega
    rcases this with rfl | rfl | rfl | rfl
    · exact .inl rfl
    · exact absurd h (by decide)
    · exact absurd h (by decide)
    · exact absurd h (by decide)
  · exact .inr (by omega)

/-- the program's question of flags -/
theorem flags_eq (op fl : Int) (h0 : -9223372036854775808 ≤ fl) (h1 : fl ≤ 9223372036854775807) : (bits .andNot .i64 fl (flm op) == 0) = flOk op fl := by
  have key : ∀ m : Int, (bits .andNot .i64 fl m == 0) = true → BitVec.ofInt 64 fl = BitVec.ofInt 64 fl &&& BitVec.ofInt 64 m := by
    intro m h
    refine under _ _ ?_
    unfold bits at h
    simp only [beq_iff_eq] at h
    have := (wrap_zero _ (BitVec.isLt _)).1 h
    exact BitVec.eq_of_toNat_eq this
  have sm : ∀ m : Int, BitVec.ofInt 64 fl = BitVec.ofInt 64 fl &&& BitVec.ofInt 64 m → (BitVec.ofInt 64 fl).toNat = (BitVec.ofInt 64 fl).toNat &&& (BitVec.ofInt 64 m).toNat := by
    intro m h
    have := congrArg BitVec.toNat h
    rwa [BitVec.toNat_and] at this
  unfold flm flOk
  rw [Bool.eq_iff_iff]
  split
  · constructor
    · intro h
      have e := sm _ (key _ h)
      have := and_le3 _ e
      have hs := small_of fl h0 h1 _ (by omega) rfl
      simp only [Bool.and_eq_true, decide_eq_true_eq]
      omega
    · intro h
      simp only [Bool.and_eq_true, decide_eq_true_eq] at h
      have : fl = 0 ∨ fl = 1 ∨ fl = 2 ∨ fl = 3 := by omega
      rcases this with rfl | rfl | rfl | rfl <;> decide
  · split
    · constructor
      · intro h
        have e := sm _ (key _ h)
        rcases and_4 _ e with e | e
        · have hs := small_of fl h0 h1 _ (by omega) e
          simp [hs]
        · have hs := small_of fl h0 h1 _ (by omega) e
          simp [hs]
      · intro h
        simp only [Bool.or_eq_true, decide_eq_true_eq] at h
        rcases h with rfl | rfl <;> decide
    · constructor
      · intro h
        have e := sm _ (key _ h)
        have h2 : (BitVec.ofInt 64 (0 : Int)).toNat = 0 := by decide
        rw [h2, Nat.and_zero] at e
        have hs := small_of fl h0 h1 _ (by omega) e
        simp [hs]
      · intro h
        simp only [decide_eq_true_eq] at h
        subst h
        decide
end R
end Go.Proofs.YtbiopedpceddeaaGreatDoor
end
section
namespace Go.Proofs.YtbiopedpceddeaaGreatDoor
open Go.RowKit
set_option linter.unusedVariables false
set_option linter.unusedSimpArgs false

namespace R
def built (k : Nat) (x : T.Nd) : Bool := decide (0 ≤ rar x.op) && decide ((x.args.length : Int) = rar x.op) && flOk x.op x.fl && T.argsOk k x.args
theorem built_cases (k : Nat) (x : T.Nd) :
    (built k x = false ∧ decide (0 ≤ rar x.op) = false) ∨
    (built k x = false ∧ decide (0 ≤ rar x.op) = true ∧ 0 ≤ rar x.op ∧ ((x.args.length : Int) == rar x.op) = false) ∨
    (built k x = false ∧ decide (0 ≤ rar x.op) = true ∧ 0 ≤ rar x.op ∧ ((x.args.length : Int) == rar x.op) = true ∧ flOk x.op x.fl = false) ∨
    (built k x = T.argsOk k x.args ∧ decide (0 ≤ rar x.op) = true ∧ 0 ≤ rar x.op ∧ ((x.args.length : Int) == rar x.op) = true ∧ flOk x.op x.fl = true) := by
  unfold built
  by_cases h1 : 0 ≤ rar x.op
  · by_cases h2 : (x.args.length : Int) = rar x.op
    · cases h3 : flOk x.op x.fl
      · exact .inr (.inr (.inl ⟨by simp, by simpa using h1, h1, by simpa using h2, rfl⟩))
      · exact .inr (.inr (.inr ⟨by simp [h1, h2], by simpa using h1, h1, by simpa using h2, rfl⟩))
    · exact .inr (.inl ⟨by simp [h2], by simpa using h1, h1, by simpa using h2⟩)
  · exact .inl ⟨by simp [h1], by simpa using h1⟩
end R

set_option maxRecDepth 100000 in
set_option maxHeartbeats 2000000 in
theorem gisBuilt_any (k : Nat) (x : T.Nd) (A : Option Addr) (c : Nat) (W : World) (hA : SlAt (IntR .i64) W A x.args.length x.args) (hf : -9223372036854775808 ≤ x.fl ∧ x.fl ≤ 9223372036854775807) :
    Calls Tryz.prog 155 #[.int .i64 k, ndV x A c] W fun e w' => e = .returned (.bool (R.built k x)) ∧ Below W.heap.size W w' := by
  have HA := Lib.hid (fun W' => garity_any x.op W')
  have HF := Lib.hid (fun W' => gflags_any x.op W')
  have hfe := R.flags_eq x.op x.fl hf.1 hf.2
  have hc := R.built_cases k x
  have hle := hA.le
  obtain ⟨W2, hW2⟩ : ∃ W2, W2 = (W.alloc (.cells #[.int .i64 k] 3)).alloc (.cells #[.int .i64 x.op, .int .i64 x.w, .int .i64 x.fl, .slice A x.args.length c, .int .u32 x.imm] 62) := ⟨_, rfl⟩
  have hB2 : Below W.heap.size W W2 := by rw [hW2]; exact ((Below.refl _ _).alloc (Nat.le_refl _) _).alloc (by simp) _
  have hr0 : W2.heap[W.heap.size]? = some (.cells #[.int .i64 k] 3 (0, 0)) := by rw [hW2]; exact row_alloc (heap_alloc_new W _) _
  have hr1 : W2.heap[W.heap.size + 1]? = some (.cells #[.int .i64 x.op, .int .i64 x.w, .int .i64 x.fl, .slice A x.args.length c, .int .u32 x.imm] 62 (0, 0)) := by rw [hW2]; exact new_two W _ _
  have d0 : W2.cell? ⟨W.heap.size, 0, none⟩ = some (.int .i64 k) := by rw [cell_of_row _ _ _ _ _ (0, 0) hr0]; rfl
  have x0 : W2.cell? ⟨W.heap.size + 1, 0, none⟩ = some (.int .i64 x.op) := by rw [cell_of_row _ _ _ _ _ (0, 0) hr1]; rfl
  have x2 : W2.cell? ⟨W.heap.size + 1, 2, none⟩ = some (.int .i64 x.fl) := by rw [cell_of_row _ _ _ _ _ (0, 0) hr1]; rfl
  have x3 : W2.cell? ⟨W.heap.size + 1, 3, none⟩ = some (.slice A x.args.length c) := by rw [cell_of_row _ _ _ _ _ (0, 0) hr1]; rfl
  have HQ := Lib.hid (fun nn => show Calls Tryz.prog 194 #[.slice A x.args.length c, .func (.func 195) #[] #[.pointer (some ⟨W.heap.size, 0, none⟩)]] (W2.drewN nn) (fun e w'' => e = .returned (.bool (!T.argsOk k x.args)) ∧ ∃ m, w'' = W2.drewN m) from
    Calls.quiet_of_same ((hasF_any _ _ _ A x.args.length c x.args (W2.drewN nn) ((hA.below (monoInt _) hB2).dr (monoInt _) ⟨nn, rfl⟩) (builtClo_any k W.heap.size (W2.drewN nn) d0)).mono fun e w' ⟨h1, h2⟩ => ⟨by rw [argsOk_any, Bool.not_not]; exact h1, h2.symm⟩))
  have HFq := Lib.hid (fun nn => show Calls Tryz.prog 193 #[.int .i64 x.op] (W2.drewN nn) (fun e w'' => e = .returned (.int .i64 (R.flm x.op)) ∧ ∃ m, w'' = W2.drewN m) from Calls.quiet_of_same ((HF.out _).mono fun e w' ⟨h1, h2⟩ => ⟨h1, h2.symm⟩))
  have HB2 := Lib.hid hB2
  obtain ⟨r, hr⟩ : ∃ r, r = R.rar x.op := ⟨_, rfl⟩
  obtain ⟨m, hm⟩ : ∃ m, m = R.flm x.op := ⟨_, rfl⟩
  obtain ⟨b, hb⟩ : ∃ b, b = R.built k x := ⟨_, rfl⟩
  rw [← hr] at HA hc
  rw [← hm] at HFq hfe
  rw [← hb] at hc ⊢
  generalize T.argsOk k x.args = ao at HQ hc
  generalize R.flOk x.op x.fl = fo at hfe hc
  unfold ndV
  obtain ⟨op, w, fl, args, imm⟩ := x
  dsimp only at *
  clear hA hr0 hr1 hB2 hf hr hm hb HF
  obtain ⟨r', hr'⟩ : ∃ r', r' = (if 0 ≤ r then r else 0) := ⟨_, rfl⟩
  rw [← hr'] at HA
  have Hr2 := Lib.hid (show 0 ≤ r → r' = r from fun h => by rw [hr', if_pos h])
  clear hr'
  rcases hc with ⟨rfl, q1⟩ | ⟨rfl, q1, q2, q3⟩ | ⟨rfl, q1, q2, q3, rfl⟩ | ⟨rfl, q1, q2, q3, rfl⟩
  all_goals
    first | (rw [← Hr2.out q2] at q3; clear q2) | skip
    rw [hW2] at d0 x0 x2 x3
    go_enter Tryz.func155, Tryz.ntmps155
    go_wp2_with (go_at_call 192; (with_reducible refine (HA.out _).mono ?_); rintro e w1 ⟨rfl, rfl⟩)
    rw [← hW2] at d0 x0 x2 x3 ⊢
    clear hW2
    go_quiet ((first | (go_at_call 193; with_reducible exact HFq.out _) | (go_at_call 194; with_reducible exact HQ.out _)))
    generalize hW3 : W2.drewN _ = W3
    have Hb3 := Lib.hid (HB2.out.dr ⟨_, hW3.symm⟩)
    clear hW3 d0 x0 x2 x3 HQ HFq
    go_wp2
    go_ret
    exact ⟨by first | rfl | simp, Hb3.out⟩
end Go.Proofs.YtbiopedpceddeaaGreatDoor
end
