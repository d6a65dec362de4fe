/- The law SeekLeast. -/
import Derived.Test.YtableoihgkmbjaaQ21
import Derived.Test.YtableoihgkmbjaaQ16
namespace Go.Proofs.Ytableoihgkmbjaa
open Go.RowKit
set_option linter.unusedVariables false
set_option linter.unusedSimpArgs false

theorem count_row {k w : Nat} {t : List Int} {j : Nat} (hov : K.over k w = true) (ht : K.isTable k w t = true) (hj : j ≤ 2) : K.count k w t j = (((K.cnt k w t (K.rows k j) : Nat) : Int), 0) := by
  unfold K.count
  rw [hov, Int.toNat_natCast, Int.toNat_natCast, ht, if_pos (by rfl), if_neg (by omega)]; rfl

set_option maxRecDepth 100000 in
set_option maxHeartbeats 4000000 in
theorem seekLeast_any (k w : Int) (A : Option Addr) (m c : Nat) (row : List K.Stp) (W : World) (hA : StAt 3 StepR W A m row) :
    Calls Try.prog 5 #[.agg #[.int .i64 k, .int .i64 w], .slice A m c] W fun e w' => e = .returned (.bool true) ∧ Below W.heap.size W w' := by
  have hB1 := Lib.hid (show Below W.heap.size W (W.alloc (.cells #[.int .i64 k, .int .i64 w] 23)) from (Below.refl _ _).alloc (Nat.le_refl _) _)
  have HP := Lib.hid (fun W' (h : Below W.heap.size W W') => pIsShortest_any k w A m c row W' (hA.below monoStep h))
  have HR := Lib.hid (fun W' (h : Below W.heap.size W W') => rIsShortest_any k w A m c row W' (hA.below monoStep h))
  have HM := Lib.hid (fun W' (h : Below W.heap.size W W') => pMeaning_any k w A m c row W' (hA.below monoStep h))
  have HS0 := Lib.hid (show ∀ X : World, Below (W.heap.size + 1) (W.alloc (.cells #[.int .i64 k, .int .i64 w] 23)) X → X.cell? ⟨W.heap.size, 0, none⟩ = some (.int .i64 k) ∧ X.cell? ⟨W.heap.size, 1, none⟩ = some (.int .i64 w) from fun X h => by
    have hs := (h.block W.heap.size (by omega)).trans (heap_alloc_new W (.cells #[.int .i64 k, .int .i64 w] 23))
    constructor
    · rw [cell_of_row _ _ _ _ _ (0, 0) hs]; rfl
    · rw [cell_of_row _ _ _ _ _ (0, 0) hs]; rfl)
  have hm := hA.le
  have hml := hA.len
  clear hA
  by_cases hbig : (100 : Int) < (m : Int)
  · clear hml
    go_enter Try.func5, Try.ntmps5
    go_wp2_with (go_at_call 6; (with_reducible refine (known_any _).mono ?_); rintro e w1 ⟨rfl, hb⟩; have Hb := Lib.hid hb; clear hb)
    go_ret
    exact ⟨rfl, hB1.out.trans (Hb.out.mono (by simp))⟩
  · by_cases hv : K.valid k w row = 0
    · obtain ⟨hov, hl, hok⟩ := K.valid_zero hv
      have hkw := K.over_iff.1 hov
      obtain ⟨kN, rfl⟩ : ∃ kN : Nat, k = kN := ⟨k.toNat, by omega⟩
      obtain ⟨wN, rfl⟩ : ∃ wN : Nat, w = wN := ⟨w.toNat, by omega⟩
      have hle : K.least kN wN row = (decide (K.cnt kN wN (K.meaning kN wN row) (K.upTo kN m) = 0), 0) := by unfold K.least; rw [if_pos hv, hml]; rfl
      rw [hle] at HP HR
      have Hv := Lib.hid hv
      have ht := K.isTable_meaning (k := kN) (w := wN) (by omega) (by omega) row
      have HCt := Lib.hid (fun j (hj : j ≤ 2) A2 N2 W' (h : SlAt (IntR .u32) W' A2 N2 (K.meaning kN wN row)) => by
        have h1 := pCount_any kN wN A2 N2 N2 (K.meaning kN wN row) (j : Nat) W' h
        rw [count_row hov ht hj] at h1
        exact h1)
      have hm2 : m ≤ 2 := by omega
      have hk2 : kN ≤ 2 := by omega
      obtain ⟨t, hteq⟩ : ∃ t, t = K.meaning kN wN row := ⟨_, rfl⟩
      have Hteq := Lib.hid hteq
      rw [← hteq] at HP HR HCt
      clear hv hov hl hok hkw hle ht hml hteq
      obtain ⟨z, hz⟩ : ∃ z, z = decide (K.cnt kN wN t (K.upTo kN m) = 0) := ⟨_, rfl⟩
      rw [← hz] at HP HR
      have Hz := Lib.hid hz
      clear hz
      obtain ⟨c0, c1⟩ := HS0.out _ (Below.refl _ _)
      go_enter Try.func5, Try.ntmps5
      go_wp2_with fail
      refine (HP.out _ hB1.out).mono ?_
      rintro e w1 ⟨rfl, hb1⟩
      have Hb1 := Lib.hid (show Below (W.heap.size + 1) (W.alloc (.cells #[.int .i64 kN, .int .i64 wN] 23)) w1 from hb1.mono (by simp))
      obtain ⟨d0, d1⟩ := HS0.out w1 Hb1.out
      clear hb1 c0 c1
      go_wp2_with fail
      refine (HR.out _ (hB1.out.trans (Hb1.out.mono (by simp)))).mono ?_
      rintro e w2 ⟨rfl, hb2⟩
      have Hb2 := Lib.hid (Hb1.out.trans (hb2.mono (by have := Hb1.out.size; simp at this; omega)))
      obtain ⟨e0, e1⟩ := HS0.out w2 Hb2.out
      clear hb2 d0 d1
      have hzz : (z != z) = false := by simp
      go_wp2_with fail
      refine (HM.out _ (hB1.out.trans (Hb2.out.mono (by simp)))).mono ?_
      rintro e w3 ⟨hb3, (⟨hv, rfl⟩ | ⟨_, q, rfl, hsl⟩)⟩
      · exact absurd Hv.out hv
      simp only [Int.toNat_natCast] at hsl
      rw [← Hteq.out] at hsl
      have Hb3 := Lib.hid (Hb2.out.trans (hb3.mono (by have := Hb2.out.size; simp at this; omega)))
      have Hsl := Lib.hid hsl
      clear hb3 hsl e0 e1 hzz
      simp only [Int.toNat_natCast]
      obtain ⟨N, hN⟩ : ∃ N, N = K.size kN wN := ⟨_, rfl⟩
      rw [← hN] at Hsl ⊢
      clear hN
      go_wp2
      go_loopg [11, 12] (m + 1) (fun g s i wr => ∃ (j : Nat), j ≤ m ∧ i = .int .i64 (j : Int) ∧ g + j = m + 1 ∧ s = .int .i64 (K.cnt kN wN t (K.upTo kN j) : Nat) ∧ Below w3.heap.size w3 wr)
      case atStart => exact ⟨0, Nat.zero_le _, rfl, rfl, rfl, Below.refl _ _⟩
      case round =>
        obtain ⟨j, hj, rfl, hgk, rfl, hbw⟩ := hrel
        have Hgk := Lib.hid hgk; clear hgk
        have hcl := K.cnt_upTo_le wN t hk2 (n := j) (by omega)
        have hcl2 : K.cnt kN wN t (K.upTo kN j) ≤ 300000 := by omega
        clear hcl
        by_cases hlt : j < m
        · obtain ⟨f0, f1⟩ := HS0.out wr (Hb3.out.trans (hbw.mono (by have := Hb3.out.size; simp at this; omega)))
          have Hc := Lib.hid (HCt.out j (by omega) (some ⟨q, 0, none⟩) N wr (Hsl.out.below (monoInt _) hbw))
          have hcr : K.cnt kN wN t (K.rows kN j) ≤ 100000 := Nat.le_trans (K.cnt_le ..) (K.rows_count hk2 (by omega))
          have Hbw := Lib.hid hbw
          clear hbw
          go_wp2_with fail
          refine Hc.out.mono ?_
          rintro e w4 ⟨rfl, hb4⟩
          have Hb4 := Lib.hid (Hbw.out.trans (hb4.mono Hbw.out.size))
          clear hb4 f0 f1
          go_wp2
          go_roundg (gk - 1)
          case measure => have := Hgk.out; omega
          case rel => have := Hgk.out; exact ⟨j + 1, by omega, by go_num, by omega, by rw [K.cnt_upTo]; rfl, Hb4.out⟩
        · obtain rfl : j = m := by omega
          have Hbw := Lib.hid (hB1.out.trans ((Hb3.out.trans (hbw.mono (by have := Hb3.out.size; simp at this; omega))).mono (by simp)))
          clear hbw
          by_cases hc0 : K.cnt kN wN t (K.upTo kN j) = 0
          · have hz : z = true := by rw [Hz.out]; exact decide_eq_true hc0
            have hci : ((K.cnt kN wN t (K.upTo kN j) : Nat) : Int) = 0 := by omega
            rw [hc0] at *
            subst hz
            clear hci hc0
            go_wp2_with (go_at_call 6; (with_reducible refine (known_any _).mono ?_); rintro e w5 ⟨rfl, hb⟩; have Hb := Lib.hid hb; clear hb)
            go_ret
            exact ⟨rfl, Hbw.out.trans (Hb.out.mono Hbw.out.size)⟩
          · have hz : z = false := by rw [Hz.out]; exact decide_eq_false hc0
            have hci : ¬ ((K.cnt kN wN t (K.upTo kN j) : Nat) : Int) = 0 := by omega
            subst hz
            clear hc0
            go_wp2_with (go_at_call 6; (with_reducible refine (known_any _).mono ?_); rintro e w5 ⟨rfl, hb⟩; have Hb := Lib.hid hb; clear hb)
            go_ret
            exact ⟨rfl, Hbw.out.trans (Hb.out.mono Hbw.out.size)⟩
    · have hle : K.least k w row = (false, K.valid k w row) := by unfold K.least; rw [if_neg hv]
      rw [hle] at HP HR
      obtain ⟨er, her⟩ : ∃ er, er = K.valid k w row := ⟨_, rfl⟩
      rw [← her] at HP HR hv
      have hvb : (er != 0) = true := by simpa using hv
      have hvv : (er != er) = false := by simp
      clear her hle hml
      obtain ⟨c0, c1⟩ := HS0.out _ (Below.refl _ _)
      go_enter Try.func5, Try.ntmps5
      go_wp2_with fail
      refine (HP.out _ hB1.out).mono ?_
      rintro e w1 ⟨rfl, hb1⟩
      have Hb1 := Lib.hid (show Below (W.heap.size + 1) (W.alloc (.cells #[.int .i64 k, .int .i64 w] 23)) w1 from hb1.mono (by simp))
      obtain ⟨d0, d1⟩ := HS0.out w1 Hb1.out
      clear hb1 c0 c1
      go_wp2_with fail
      refine (HR.out _ (hB1.out.trans (Hb1.out.mono (by simp)))).mono ?_
      rintro e w2 ⟨rfl, hb2⟩
      have Hb2 := Lib.hid (hB1.out.trans ((Hb1.out.trans (hb2.mono (by have := Hb1.out.size; simp at this; omega))).mono (by simp)))
      clear hb2 d0 d1
      go_wp2_with (go_at_call 6; (with_reducible refine (known_any _).mono ?_); rintro e w5 ⟨rfl, hb⟩; have Hb := Lib.hid hb; clear hb)
      go_ret
      exact ⟨rfl, Hb2.out.trans (Hb.out.mono Hb2.out.size)⟩
end Go.Proofs.Ytableoihgkmbjaa
