/- Walks: literals, clauses, the errors of clauses; how long clauses are. -/
import Derived.Test.YtceelipcclfdmaaW1
namespace Go.Proofs.Ytceelipcclfdmaa
open Go.RowKit

theorem isLit_wf {n l : Int} (hn : 0 ≤ n ∧ n ≤ 4000) (h : S.isLit n l = true) : -4000 ≤ l ∧ l ≤ 4000 ∧ l ≠ 0 := by
  unfold S.isLit at h; simp at h; omega

set_option maxHeartbeats 400000 in
theorem isLiteral_any (n l : Int) (w : World) (hn : 0 ≤ n) (hm : n ≤ 4000) :
    Calls Try.prog 32 #[.int .i64 n, .int .i64 l] w fun e w' => e = .returned (.bool (S.isLit n l)) ∧ w = w' := by
  by_cases h1 : -n ≤ l
  · by_cases h2 : l ≤ n
    · by_cases h3 : l = 0
      · subst h3
        go_enter Try.func32, Try.ntmps32
        go_wp2
        go_ret
        exact ⟨ret_bool (by simp [S.isLit]), rfl⟩
      · have hb : (l != 0) = true := by simpa using h3
        go_enter Try.func32, Try.ntmps32
        go_wp2
        go_ret
        exact ⟨ret_bool (by simp [S.isLit, h1, h2, h3]), rfl⟩
    · go_enter Try.func32, Try.ntmps32
      go_wp2
      go_ret
      exact ⟨ret_bool (by simp [S.isLit]; intros; omega), rfl⟩
  · go_enter Try.func32, Try.ntmps32
    go_wp2
    go_ret
    exact ⟨ret_bool (by simp [S.isLit]; intros; omega), rfl⟩

set_option maxHeartbeats 400000 in
theorem refIsLiteral_any (n l : Int) (w : World) (hn : 0 ≤ n) (hm : n ≤ 4000) :
    Calls Try.prog 59 #[.int .i64 n, .int .i64 l] w fun e w' => e = .returned (.bool (S.isLit n l)) ∧ w = w' := by
  by_cases h3 : l = 0
  · subst h3
    go_enter Try.func59, Try.ntmps59
    go_wp2
    go_ret
    exact ⟨ret_bool (by simp [S.isLit]), rfl⟩
  · have hb : (l != 0) = true := by simpa using h3
    by_cases h1 : -n ≤ l
    · by_cases h2 : l ≤ n
      · go_enter Try.func59, Try.ntmps59
        go_wp2
        go_ret
        exact ⟨ret_bool (by simp [S.isLit, h1, h2, h3]), rfl⟩
      · go_enter Try.func59, Try.ntmps59
        go_wp2
        go_ret
        exact ⟨ret_bool (by simp [S.isLit]; intros; omega), rfl⟩
    · go_enter Try.func59, Try.ntmps59
      go_wp2
      go_ret
      exact ⟨ret_bool (by simp [S.isLit]; intros; omega), rfl⟩

theorem all_take_all {α : Type} {p : α → Bool} {xs : List α} {n k : Nat} (hn : xs.length = n) (hk : n ≤ k) (h : (xs.take k).all p = true) : xs.all p = true := by rwa [take_all hn hk] at h
theorem all_false_at {α : Type} {p : α → Bool} {xs : List α} {k : Nat} {x : α} (h : xs[k]? = some x) (hp : p x = false) : xs.all p = false := by
  rw [List.all_eq_false]; exact ⟨x, List.mem_of_getElem? h, by simp [hp]⟩
theorem any_true_at {α : Type} {p : α → Bool} {xs : List α} {k : Nat} {x : α} (h : xs[k]? = some x) (hp : p x = true) : xs.any p = true :=
  List.any_eq_true.2 ⟨x, List.mem_of_getElem? h, hp⟩
theorem all_take_step {α : Type} {p : α → Bool} {xs : List α} {k : Nat} {x : α} (h : xs[k]? = some x) (ht : (xs.take k).all p = true) (hp : p x = true) : (xs.take (k + 1)).all p = true := by
  rw [take_succ_of h, List.all_append, ht]; simp [hp]
theorem any_take_step {α : Type} {p : α → Bool} {xs : List α} {k : Nat} {x : α} (h : xs[k]? = some x) (ht : (xs.take k).any p = false) (hp : p x = false) : (xs.take (k + 1)).any p = false := by
  rw [take_succ_of h, List.any_append, ht]; simp [hp]

set_option maxHeartbeats 400000 in
theorem refIsClause_any (n : Int) (A : Option Addr) (m c : Nat) (xs : List Int) (w : World) (hA : SlAt (IntR .i64) w A m xs) (hn : 0 ≤ n) (hm : n ≤ 4000) :
    Calls Try.prog 36 #[.int .i64 n, .slice A m c] w fun e w' => e = .returned (.bool (S.isClause n xs)) ∧ w = w' := by
  have hl := hA.le
  have HA := Lib.hid hA; clear hA
  go_enter Try.func36, Try.ntmps36
  go_wp2
  go_loop [5] (fun i => ∃ k : Nat, k ≤ m ∧ i = .int .i64 k ∧ Hid ((xs.take k).all (S.isLit n) = true)) (fun i => m - (intOf i).toNat)
  case atStart => exact ⟨0, Nat.zero_le _, rfl, rfl⟩
  case round =>
    obtain ⟨k, hk, rfl, HT⟩ := hrel
    by_cases hlt : k < m
    · obtain ⟨x, b, off, u, hx, rfl, _, h1, rfl⟩ := HA.out.at_ hlt
      have Hx := Lib.hid hx; clear hx
      have con := refIsLiteral_any n x w hn hm
      cases hp : S.isLit n x
      · rw [hp] at con
        have Hcon := Lib.hid con; clear con
        have Hp := Lib.hid hp; clear hp
        go_wp2_with fail
        refine Hcon.out.mono ?_
        rintro e w' ⟨rfl, rfl⟩
        go_wp2
        go_ret
        exact ⟨ret_bool (all_false_at Hx.out Hp.out).symm, rfl⟩
      · rw [hp] at con
        have Hcon := Lib.hid con; clear con
        have Hp := Lib.hid hp; clear hp
        go_wp2_with fail
        refine Hcon.out.mono ?_
        rintro e w' ⟨rfl, rfl⟩
        go_wp2
        go_round
        case rel => exact ⟨k + 1, by omega, by go_num, all_take_step Hx.out HT.out Hp.out⟩
        case measure => simp [intOf]; omega
    · go_wp2
      go_ret
      exact ⟨ret_bool (all_take_all HA.out.len (by omega) HT.out).symm, rfl⟩

set_option maxHeartbeats 400000 in
theorem long_any (A : Option Addr) (m c : Nat) (xs : List (List Int)) (w : World) (hA : SlAt (SlR (IntR .i64)) w A m xs) :
    Calls Try.prog 15 #[.slice A m c] w fun e w' => e = .returned (.bool (S.long xs)) ∧ w = w' := by
  have hl := hA.le
  have HA := Lib.hid hA; clear hA
  by_cases h4 : 400 < m
  · go_enter Try.func15, Try.ntmps15
    go_wp2
    go_ret
    exact ⟨ret_bool (by have := HA.out.len; simp [S.long, this, h4]), rfl⟩
  go_enter Try.func15, Try.ntmps15
  go_wp2
  go_loop [3] (fun i => ∃ k : Nat, k ≤ m ∧ i = .int .i64 k ∧ Hid ((xs.take k).any (fun c => decide (100 < c.length)) = false)) (fun i => m - (intOf i).toNat)
  case atStart => exact ⟨0, Nat.zero_le _, rfl, rfl⟩
  case round =>
    obtain ⟨k, hk, rfl, HT⟩ := hrel
    by_cases hlt : k < m
    · obtain ⟨x, b, off, u, hx, rfl, _, h1, A1, c1, rfl, s1⟩ := HA.out.at_ hlt
      have Hx := Lib.hid hx; clear hx
      have hxl := s1.le
      clear s1
      by_cases hp : 100 < x.length
      · go_wp2
        go_ret
        refine ⟨ret_bool ?_, rfl⟩
        rw [S.long, any_true_at Hx.out (by simpa using hp), Bool.or_true]
      · go_wp2
        go_round
        case rel => exact ⟨k + 1, by omega, by go_num, any_take_step Hx.out HT.out (by simpa using hp)⟩
        case measure => simp [intOf]; omega
    · go_wp2
      go_ret
      refine ⟨ret_bool ?_, rfl⟩
      have h3 := HT.out
      rw [take_all HA.out.len (by omega)] at h3
      have := HA.out.len
      simp [S.long, h3, this]; omega

set_option maxHeartbeats 400000 in
theorem many_any (n : Int) (A : Option Addr) (m c : Nat) (xs : List (List Int)) (w : World) (hA : SlAt (SlR (IntR .i64)) w A m xs) :
    Calls Try.prog 10 #[.int .i64 n, .slice A m c] w fun e w' => e = .returned (.bool (S.many n xs)) ∧ w = w' := by
  have Hcon := Lib.hid (long_any A m c xs w hA); clear hA
  by_cases h1 : 300 < n
  · by_cases h2 : n ≤ 4000
    · go_enter Try.func10, Try.ntmps10
      go_wp2
      go_ret
      exact ⟨ret_bool (by simp [S.many, h1, h2]), rfl⟩
    · go_enter Try.func10, Try.ntmps10
      go_wp2_with fail
      refine Hcon.out.mono ?_
      rintro e w' ⟨rfl, rfl⟩
      go_wp2
      go_ret
      exact ⟨ret_bool (by simp [S.many]; intros; omega), rfl⟩
  · go_enter Try.func10, Try.ntmps10
    go_wp2_with fail
    refine Hcon.out.mono ?_
    rintro e w' ⟨rfl, rfl⟩
    go_wp2
    go_ret
    exact ⟨ret_bool (by simp [S.many]; intros; omega), rfl⟩
end Go.Proofs.Ytceelipcclfdmaa
