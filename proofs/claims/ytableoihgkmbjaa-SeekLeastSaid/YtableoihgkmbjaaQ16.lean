/- The law SeekCounts. -/
import Derived.Test.YtableoihgkmbjaaQ15
namespace Go.Proofs.Ytableoihgkmbjaa
open Go.RowKit
set_option linter.unusedVariables false
set_option linter.unusedSimpArgs false

set_option maxRecDepth 100000 in
set_option maxHeartbeats 2000000 in
theorem seekCounts_any (k w : Int) (A : Option Addr) (m c : Nat) (t : List Int) (n : Int) (W : World) (hA : SlAt (IntR .u32) W A m t) (h32 : K.W32 t) :
    Calls Try.prog 4 #[.agg #[.int .i64 k, .int .i64 w], .slice A m c, .int .i64 n] W fun e w' => e = .returned (.bool true) ∧ Below W.heap.size W w' := by
  have hB1 := Lib.hid (show Below W.heap.size W (W.alloc (.cells #[.int .i64 k, .int .i64 w] 23)) from (Below.refl _ _).alloc (Nat.le_refl _) _)
  have HP := Lib.hid (fun W' (h : Below W.heap.size W W') => pCount_any k w A m c t n W' (hA.below (monoInt _) h))
  have HR := Lib.hid (fun W' (h : Below W.heap.size W W') => rCount_any k w A m c t n W' (hA.below (monoInt _) h) h32)
  have HS0 := Lib.hid (show ∀ X : World, Below (W.heap.size + 1) (W.alloc (.cells #[.int .i64 k, .int .i64 w] 23)) X → X.cell? ⟨W.heap.size, 0, none⟩ = some (.int .i64 k) ∧ X.cell? ⟨W.heap.size, 1, none⟩ = some (.int .i64 w) from fun X h => by
    have hs := (h.block W.heap.size (by omega)).trans (heap_alloc_new W (.cells #[.int .i64 k, .int .i64 w] 23))
    constructor
    · rw [cell_of_row _ _ _ _ _ (0, 0) hs]; rfl
    · rw [cell_of_row _ _ _ _ _ (0, 0) hs]; rfl)
  have hm := hA.le
  clear hA h32
  obtain ⟨R, hR⟩ : ∃ R, R = K.count k w t n := ⟨_, rfl⟩
  obtain ⟨cn, er⟩ := R
  rw [← hR] at HP HR
  clear hR
  by_cases hbig : (1000 : Int) < (m : Int)
  · go_enter Try.func4, Try.ntmps4
    go_wp2_with (go_at_call 6; (with_reducible refine (known_any _).mono ?_); rintro e w1 ⟨rfl, hb⟩; have Hb := Lib.hid hb; clear hb)
    go_ret
    exact ⟨rfl, hB1.out.trans (Hb.out.mono (by simp))⟩
  · obtain ⟨c0, c1⟩ := HS0.out _ (Below.refl _ _)
    go_enter Try.func4, Try.ntmps4
    go_wp2_with fail
    refine (HP.out _ hB1.out).mono ?_
    rintro e w1 ⟨rfl, hb1⟩
    have Hb1 := Lib.hid hb1
    obtain ⟨d0, d1⟩ := HS0.out w1 (hb1.mono (by simp))
    clear hb1 c0 c1
    go_wp2_with fail
    refine (HR.out _ (hB1.out.trans (Hb1.out.mono (by simp)))).mono ?_
    rintro e w2 ⟨rfl, hb2⟩
    have Hb2 := Lib.hid ((hB1.out.trans (Hb1.out.mono (by simp))).trans (hb2.mono (by have := Hb1.out.size; simp at this; omega)))
    clear hb2 d0 d1
    go_wp2_with (go_at_call 6; (with_reducible refine (known_any _).mono ?_); rintro e w4 ⟨rfl, hb⟩; have Hb := Lib.hid hb; clear hb)
    go_ret
    exact ⟨rfl, Hb2.out.trans (Hb.out.mono Hb2.out.size)⟩
end Go.Proofs.Ytableoihgkmbjaa
