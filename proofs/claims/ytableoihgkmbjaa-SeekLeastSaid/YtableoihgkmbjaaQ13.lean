/- The law SeekShortest: the example, the law. -/
import Derived.Test.YtableoihgkmbjaaQ12
namespace Go.Proofs.Ytableoihgkmbjaa
open Go.RowKit
set_option linter.unusedVariables false
set_option linter.unusedSimpArgs false

set_option maxRecDepth 100000 in
set_option maxHeartbeats 1000000 in
theorem known_any (W : World) : Calls Try.prog 6 #[] W fun e w' => e = .returned (.bool true) ∧ Below W.heap.size W w' := by
  have hT : SlAt (IntR .u32) (W.alloc (.cells #[.int .u32 7, .int .u32 0, .int .u32 1, .int .u32 2, .int .u32 3, .int .u32 4, .int .u32 5, .int .u32 6] 40)) (some ⟨W.heap.size, 0, none⟩) 8 [7, 0, 1, 2, 3, 4, 5, 6] :=
    (OwnAt.of_new (s := 1) W #[.int .u32 7, .int .u32 0, .int .u32 1, .int .u32 2, .int .u32 3, .int .u32 4, .int .u32 5, .int .u32 6] 8 rfl (by simp [maxLen])).slInts
  have HS := Lib.hid (pShortest_any 1 3 _ 8 8 _ _ hT)
  rw [known_plain] at HS
  have hB1 := Lib.hid (show Below W.heap.size W (W.alloc (.cells #[.int .u32 7, .int .u32 0, .int .u32 1, .int .u32 2, .int .u32 3, .int .u32 4, .int .u32 5, .int .u32 6] 40)) from (Below.refl _ _).alloc (Nat.le_refl _) _)
  clear hT
  go_enter Try.func6, Try.ntmps6
  go_wp2_with fail
  refine HS.out.mono ?_
  rintro e w1 ⟨A, c, rfl, hst, hb⟩
  have Hb := Lib.hid (hB1.out.trans (hb.mono (by simp)))
  obtain ⟨b, off, us, hA, _, _, h1, hu⟩ := hst.2.2 0 (1, 0, 2) rfl
  have hu' : us = cellsS (1, 0, 2) := hu
  subst hu' hA
  have a0 := h1 0 (.int .i64 1) rfl
  have a1 := h1 1 (.int .i64 0) rfl
  have a2 := h1 2 (.int .i64 2) rfl
  simp only [Nat.zero_mul, Nat.add_zero] at a0 a1 a2
  have hq := fun W' : World => eql_step (1, 0, 2) (1, 0, 2) W'
  clear hst hb h1 hu
  go_wp2
  go_ret
  exact ⟨rfl, Hb.out⟩

set_option maxRecDepth 100000 in
set_option maxHeartbeats 2000000 in
theorem seekShortest_any (k w : Int) (A : Option Addr) (m c : Nat) (t : List Int) (W : World) (hA : SlAt (IntR .u32) W A m t) (h32 : K.W32 t) :
    Calls Try.prog 3 #[.agg #[.int .i64 k, .int .i64 w], .slice A m c] W fun e w' => e = .returned (.bool true) ∧ Below W.heap.size W w' := by
  have hB1 := Lib.hid (show Below W.heap.size W (W.alloc (.cells #[.int .i64 k, .int .i64 w] 23)) from (Below.refl _ _).alloc (Nat.le_refl _) _)
  have HP := Lib.hid (fun W' (h : Below W.heap.size W W') => pShortest_any k w A m c t W' (hA.below (monoInt _) h))
  have HR := Lib.hid (fun W' (h : Below W.heap.size W W') => rshortest_any k w A m c t W' (hA.below (monoInt _) h) h32)
  have HS0 := Lib.hid (show ∀ X : World, Below (W.heap.size + 1) (W.alloc (.cells #[.int .i64 k, .int .i64 w] 23)) X → X.cell? ⟨W.heap.size, 0, none⟩ = some (.int .i64 k) ∧ X.cell? ⟨W.heap.size, 1, none⟩ = some (.int .i64 w) from fun X h => by
    have hs := (h.block W.heap.size (by omega)).trans (heap_alloc_new W (.cells #[.int .i64 k, .int .i64 w] 23))
    constructor
    · rw [cell_of_row _ _ _ _ _ (0, 0) hs]; rfl
    · rw [cell_of_row _ _ _ _ _ (0, 0) hs]; rfl)
  have hm := hA.le
  clear hA h32
  obtain ⟨R, hR⟩ : ∃ R, R = K.shortest k w t := ⟨_, rfl⟩
  obtain ⟨row, is_, er⟩ := R
  rw [← hR] at HP HR
  clear hR
  by_cases hbig : (1000 : Int) < (m : Int)
  · go_enter Try.func3, Try.ntmps3
    go_wp2_with (go_at_call 6; (with_reducible refine (known_any _).mono ?_); rintro e w1 ⟨rfl, hb⟩; have Hb := Lib.hid hb; clear hb)
    go_ret
    exact ⟨rfl, hB1.out.trans (Hb.out.mono (by simp))⟩
  · obtain ⟨c0, c1⟩ := HS0.out _ (Below.refl _ _)
    go_enter Try.func3, Try.ntmps3
    go_wp2_with fail
    refine (HP.out _ hB1.out).mono ?_
    rintro e w1 ⟨A1, cc1, rfl, hst1, hb1⟩
    have Hst1 := Lib.hid hst1
    have Hb1 := Lib.hid hb1
    obtain ⟨d0, d1⟩ := HS0.out w1 (hb1.mono (by simp))
    clear hst1 hb1 c0 c1
    go_wp2_with fail
    refine (HR.out _ (hB1.out.trans (Hb1.out.mono (by simp)))).mono ?_
    rintro e w2 ⟨A2, cc2, rfl, hst2, hb2⟩
    have Hs := Lib.hid (same_any A1 A2 row.length row.length cc1 cc2 row row w2 (Hst1.out.below monoStep hb2) hst2)
    rw [decide_eq_true rfl] at Hs
    have Hb2 := Lib.hid ((hB1.out.trans (Hb1.out.mono (by simp))).trans (hb2.mono (by have := Hb1.out.size; simp at this; omega)))
    clear hst2 hb2 d0 d1
    go_wp2_with fail
    refine Hs.out.mono ?_
    rintro e w3 ⟨rfl, hd3⟩
    have Hb3 := Lib.hid (Hb2.out.dr hd3)
    clear hd3
    go_wp2_with (go_at_call 6; (with_reducible refine (known_any _).mono ?_); rintro e w4 ⟨rfl, hb⟩; have Hb := Lib.hid hb; clear hb)
    go_ret
    exact ⟨rfl, Hb3.out.trans (Hb.out.mono Hb3.out.size)⟩
end Go.Proofs.Ytableoihgkmbjaa
