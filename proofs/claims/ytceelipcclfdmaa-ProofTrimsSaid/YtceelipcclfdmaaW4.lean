/- Walks: the errors of clauses, and of models. -/
import Derived.Test.YtceelipcclfdmaaW3
namespace Go.Proofs.Ytceelipcclfdmaa
open Go.RowKit

theorem any_not_isLit (n : Int) (xs : List Int) : (xs.any fun x => !S.isLit n x) = !S.isClause n xs := by
  unfold S.isClause
  induction xs with
  | nil => rfl
  | cons x r ih => simp only [List.any_cons, List.all_cons, ih, Bool.not_and]

theorem cell_alloc_box (w : World) (v : Value) (t : TypeId) : (w.alloc (.cells #[v] t)).cell? ⟨w.heap.size, 0, none⟩ = some v := by
  rw [cell_of_row _ _ 0 #[v] t (0, 0) (Go.heap_alloc_new w _)]; rfl

set_option maxHeartbeats 800000 in
theorem validate_any (n : Int) (A : Option Addr) (m c : Nat) (xs : List (List Int)) (w : World) (hA : SlAt (SlR (IntR .i64)) w A m xs) :
    Calls Try.prog 24 #[.int .i64 n, .slice A m c] w fun e w' => e = .returned (.int .i64 (S.validate n xs)) ∧ Below w.heap.size w w' := by
  have hl := hA.le
  have HA := Lib.hid hA; clear hA
  by_cases h0 : n < 0
  · go_enter Try.func24, Try.ntmps24
    go_wp2
    go_ret
    exact ⟨ret_int (by simp [S.validate, h0]), (Below.refl _ _).alloc (Nat.le_refl _) _⟩
  by_cases h1 : 4000 < n
  · go_enter Try.func24, Try.ntmps24
    go_wp2
    go_ret
    exact ⟨ret_int (by simp [S.validate, h1]), (Below.refl _ _).alloc (Nat.le_refl _) _⟩
  by_cases h2 : 24000 < m
  · go_enter Try.func24, Try.ntmps24
    go_wp2
    go_ret
    exact ⟨ret_int (by have := HA.out.len; simp [S.validate, this, h2]), (Below.refl _ _).alloc (Nat.le_refl _) _⟩
  go_enter Try.func24, Try.ntmps24
  go_wp2
  go_loopw [20] (fun i wr => ∃ k : Nat, k ≤ m ∧ i = .int .i64 k ∧ Dr (w.alloc (.cells #[.int .i64 n] 3)) wr ∧ Hid ((xs.take k).all (S.isClause n) = true)) (fun i _ => m - (intOf i).toNat)
  case atStart => exact ⟨0, Nat.zero_le _, rfl, Dr.refl _, rfl⟩
  case round =>
    obtain ⟨k, hk, rfl, hdr, HT⟩ := hrel
    have hbw : Below w.heap.size w wr := ((Below.refl _ _).alloc (Nat.le_refl _) _).dr hdr
    by_cases hlt : k < m
    · obtain ⟨x, b, off, u, hx, rfl, _, hcl, A1, c1, rfl, s1⟩ := (HA.out.below (monoSl (monoInt _)) hbw).at_ hlt
      have con := hasV_any (fun x => !S.isLit n x) w.heap.size A1 x.length c1 x wr s1 (fun y _ W hW =>
        (cloV_any n y w.heap.size W (by omega) (by omega) (by
          have h3 := (hdr.trans hW).below (w.heap.size + 1)
          rw [h3.cell (p := ⟨w.heap.size, 0, none⟩) (by simp)]
          exact cell_alloc_box w _ _)).mono fun e w' ⟨he, hw⟩ => ⟨he, by rw [hw]; exact Dr.refl _⟩)
      rw [any_not_isLit] at con
      clear s1
      have Hx := Lib.hid hx; clear hx
      cases hp : S.isClause n x
      · rw [hp] at con
        have Hcon := Lib.hid con; clear con
        have Hp := Lib.hid hp; clear hp
        go_wp2_with fail
        refine Hcon.out.mono ?_
        rintro e w' ⟨rfl, hd⟩
        go_wp2
        go_ret
        refine ⟨ret_int ?_, hbw.dr hd⟩
        have := HA.out.len
        rw [S.validate, if_neg (by omega), if_neg]
        rw [all_false_at Hx.out Hp.out]; simp
      · rw [hp] at con
        have Hcon := Lib.hid con; clear con
        have Hp := Lib.hid hp; clear hp
        go_wp2_with fail
        refine Hcon.out.mono ?_
        rintro e w' ⟨rfl, hd⟩
        go_wp2
        go_roundw
        case rel => exact ⟨k + 1, by omega, by go_num, hdr.trans hd, all_take_step Hx.out HT.out Hp.out⟩
        case measure => simp [intOf]; omega
    · go_wp2
      go_ret
      refine ⟨ret_int ?_, hbw⟩
      have := HA.out.len
      rw [S.validate, if_neg (by omega), if_pos (all_take_all HA.out.len (by omega) HT.out)]

set_option maxHeartbeats 800000 in
theorem refValidate_any (n : Int) (A : Option Addr) (m c : Nat) (xs : List (List Int)) (w : World) (hA : SlAt (SlR (IntR .i64)) w A m xs) :
    Calls Try.prog 25 #[.int .i64 n, .slice A m c] w fun e w' => e = .returned (.int .i64 (S.validate n xs)) ∧ w = w' := by
  have hl := hA.le
  have HA := Lib.hid hA; clear hA
  by_cases h0 : n < 0
  · go_enter Try.func25, Try.ntmps25
    go_wp2
    go_ret
    exact ⟨ret_int (by simp [S.validate, h0]), rfl⟩
  by_cases h1 : 4000 < n
  · go_enter Try.func25, Try.ntmps25
    go_wp2
    go_ret
    exact ⟨ret_int (by simp [S.validate, h1]), rfl⟩
  by_cases h2 : 24000 < m
  · go_enter Try.func25, Try.ntmps25
    go_wp2
    go_ret
    exact ⟨ret_int (by have := HA.out.len; simp [S.validate, this, h2]), rfl⟩
  go_enter Try.func25, Try.ntmps25
  go_wp2
  go_loop [5] (fun i => ∃ k : Nat, k ≤ m ∧ i = .int .i64 k ∧ Hid ((xs.take k).all (S.isClause n) = true)) (fun i => m - (intOf i).toNat)
  case atStart => exact ⟨0, Nat.zero_le _, rfl, rfl⟩
  case round =>
    obtain ⟨k, hk, rfl, HT⟩ := hrel
    by_cases hlt : k < m
    · obtain ⟨x, b, off, u, hx, rfl, _, hcl, A1, c1, rfl, s1⟩ := HA.out.at_ hlt
      have con := refIsClause_any n A1 x.length c1 x w s1 (by omega) (by omega)
      clear s1
      have Hx := Lib.hid hx; clear hx
      cases hp : S.isClause n x
      · rw [hp] at con
        have Hcon := Lib.hid con; clear con
        have Hp := Lib.hid hp; clear hp
        go_wp2_with fail
        refine Hcon.out.mono ?_
        rintro e w' ⟨rfl, rfl⟩
        go_wp2
        go_ret
        refine ⟨ret_int ?_, rfl⟩
        have := HA.out.len
        rw [S.validate, if_neg (by omega), if_neg]
        rw [all_false_at Hx.out Hp.out]; simp
      · rw [hp] at con
        have Hcon := Lib.hid con; clear con
        have Hp := Lib.hid hp; clear hp
        go_wp2_with fail
        refine Hcon.out.mono ?_
        rintro e w' ⟨rfl, rfl⟩
        go_wp2
        go_round
        case rel => exact ⟨k + 1, by omega, by go_num, all_take_step Hx.out HT.out Hp.out⟩
        case measure => simp [intOf]; omega
    · go_wp2
      go_ret
      refine ⟨ret_int ?_, rfl⟩
      have := HA.out.len
      rw [S.validate, if_neg (by omega), if_pos (all_take_all HA.out.len (by omega) HT.out)]
end Go.Proofs.Ytceelipcclfdmaa
