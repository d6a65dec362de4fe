/- The law SeekMeanings. -/
import Derived.Test.YtableoihgkmbjaaGreatPlainT4
import Derived.Test.YtableoihgkmbjaaGreatQ20
namespace Go.Proofs.YtableoihgkmbjaaGreat
open Go.RowKit
set_option linter.unusedVariables false
set_option linter.unusedSimpArgs false

def mL (k w : Int) (row : List K.Stp) : List Int := if K.valid k w row = 0 then K.meaning k.toNat w.toNat row else []
def MnR (k w : Int) (row : List K.Stp) (W : World) (e : Ending) (w' : World) : Prop := ∃ A n c, e = .returned (.tuple #[.slice A n c, .int .i64 (K.valid k w row)]) ∧ SlAt (IntR .u32) w' A n (mL k w row) ∧ Below W.heap.size W w'
theorem MeanR.reads {k w : Int} {row : List K.Stp} {W w' : World} {e : Ending} (h : MeanR k w row W e w') : MnR k w row W e w' := by
  obtain ⟨hb, ⟨h0, rfl⟩ | ⟨h0, q, rfl, hs⟩⟩ := h
  · exact ⟨none, 0, 0, rfl, by unfold mL; rw [if_neg h0]; exact SlAt.nil_ _, hb⟩
  · exact ⟨_, _, _, by rw [h0], by unfold mL; rw [if_pos h0]; exact hs, hb⟩

set_option maxHeartbeats 1000000 in
theorem rMeaning_any (k w : Int) (A : Option Addr) (m c : Nat) (row : List K.Stp) (W : World) (hA : StAt 3 StepR W A m row) :
    Calls Tryz.prog 8 #[.int .i64 k, .int .i64 w, .slice A m c] W (MnR k w row W) := by
  have HV := Lib.hid (rvalid_any k w A m c row W hA)
  have hml := hA.len
  by_cases hv : K.valid k w row = 0
  · obtain ⟨hov, hl, hok⟩ := K.valid_zero hv
    have hkw := K.over_iff.1 hov
    obtain ⟨kN, rfl⟩ : ∃ kN : Nat, k = kN := ⟨k.toNat, by omega⟩
    obtain ⟨wN, rfl⟩ : ∃ wN : Nat, w = wN := ⟨w.toNat, by omega⟩
    have Hm := Lib.hid (show mL kN wN row = K.meaning kN wN row from by unfold mL; rw [if_pos hv]; rfl)
    have Hv := Lib.hid hv
    rw [hv] at HV
    rw [Int.toNat_natCast] at hok
    have HM := Lib.hid (fun W' (h : Below W.heap.size W W') => rmeaning_any kN wN (by omega) (by omega) A m c row W' (hA.below monoStep h) hok (by omega))
    clear hv hov hl hok hkw hA
    go_enter Tryz.func8, Tryz.ntmps8
    go_wp2_with fail
    refine HV.out.mono ?_
    rintro e w1 ⟨rfl, hb⟩
    have Hb := Lib.hid hb
    clear hb
    go_wp2_with fail
    refine (HM.out _ Hb.out).mono ?_
    rintro e w2 ⟨A', c', rfl, hsl, hb2⟩
    have Hsl := Lib.hid hsl
    have Hb2 := Lib.hid (Hb.out.trans (hb2.mono Hb.out.size))
    clear hsl hb2
    go_wp2
    go_ret2
    exact ⟨A', _, c', by rw [Hv.out]; rfl, by rw [Hm.out]; exact Hsl.out, Hb2.out⟩
  · have Hm := Lib.hid (show mL k w row = [] from by unfold mL; rw [if_neg hv])
    obtain ⟨er, her⟩ : ∃ er, er = K.valid k w row := ⟨_, rfl⟩
    rw [← her] at HV hv
    have hvb : (er != 0) = true := by simpa using hv
    have Her := Lib.hid her
    clear her hA hv
    go_enter Tryz.func8, Tryz.ntmps8
    go_wp2_with fail
    refine HV.out.mono ?_
    rintro e w1 ⟨rfl, hb⟩
    have Hb := Lib.hid hb
    clear hb
    go_wp2
    go_ret2
    exact ⟨none, 0, 0, by rw [← Her.out]; rfl, by rw [Hm.out]; exact SlAt.nil_ _, Hb.out⟩

set_option maxHeartbeats 1000000 in
theorem pValid_any (k w : Int) (A : Option Addr) (m c : Nat) (row : List K.Stp) (W : World) (hA : StAt 3 StepR W A m row) :
    Calls Tryz.prog 10 #[.int .i64 k, .int .i64 w, .slice A m c] W fun e w' => e = .returned (.int .i64 (K.valid k w row)) ∧ Below W.heap.size W w' := by
  have HV := Lib.hid (pvalid_any k w A m c row W hA)
  clear hA
  generalize K.valid k w row = v at *
  go_enter Tryz.func10, Tryz.ntmps10
  go_wp2_with fail
  refine HV.out.mono ?_
  rintro e w1 ⟨rfl, hb⟩
  have Hb := Lib.hid hb
  clear hb
  go_wp2
  go_ret
  exact ⟨rfl, Hb.out⟩

def tmL (k w : Int) (row : List K.Stp) : List T.Nd := if K.valid k w row = 0 then K.term k.toNat w (B.pw w - 1) row else []
set_option maxHeartbeats 1000000 in
theorem pTerm_any (k w : Int) (A : Option Addr) (m c : Nat) (row : List K.Stp) (W : World) (hA : StAt 3 StepR W A m row) :
    Calls Tryz.prog 9 #[.int .i64 k, .int .i64 w, .slice A m c] W fun e w' => ∃ A' n c', e = .returned (.tuple #[.slice A' n c', .int .i64 (K.valid k w row)]) ∧ StAt 5 NdR w' A' n (tmL k w row) ∧ Below W.heap.size W w' := by
  have HV := Lib.hid (pValid_any k w A m c row W hA)
  have hml := hA.len
  by_cases hv : K.valid k w row = 0
  · obtain ⟨hov, hl, hok⟩ := K.valid_zero hv
    have hkw := K.over_iff.1 hov
    obtain ⟨kN, rfl⟩ : ∃ kN : Nat, k = kN := ⟨k.toNat, by omega⟩
    obtain ⟨wN, rfl⟩ : ∃ wN : Nat, w = wN := ⟨w.toNat, by omega⟩
    have Hm := Lib.hid (show tmL kN wN row = K.term kN wN (B.pw wN - 1) row from by unfold tmL; rw [if_pos hv]; rfl)
    have Hv := Lib.hid hv
    rw [hv] at HV
    have hpw := B.pw_le (n := (wN : Int)) (by omega)
    have hp0 := B.pw_pos (wN : Int)
    have HN := Lib.hid (fun W' (h : Below W.heap.size W W') => pnodes_any kN wN (B.pw wN - 1) (by omega) (by omega) A m c row W' (hA.below monoStep h) (by omega))
    have HM := Lib.hid (fun W' => by have := Mask_any (wN : Int) W'; rw [B.isWd_iff.2 (by omega)] at this; exact this)
    clear hv hov hl hok hkw hA hpw hp0
    generalize B.pw wN - 1 = ones at HN HM Hm
    go_enter Tryz.func9, Tryz.ntmps9
    go_wp2_with fail
    refine HV.out.mono ?_
    rintro e w1 ⟨rfl, hb⟩
    have Hb := Lib.hid hb
    clear hb
    go_wp2_with fail
    (with_reducible refine (HM.out _).mono ?_)
    rintro e w' ⟨rfl, rfl⟩
    go_wp2_with fail
    (with_reducible refine (HN.out _ Hb.out).mono ?_)
    rintro e w2 ⟨A', n, c', rfl, hsl, hb2⟩
    have Hsl := Lib.hid hsl
    have Hb2 := Lib.hid (Hb.out.trans (hb2.mono Hb.out.size))
    clear hsl hb2
    go_wp2
    go_ret2
    exact ⟨A', _, c', by rw [Hv.out]; rfl, by rw [Hm.out]; exact Hsl.out, Hb2.out⟩
  · have Hm := Lib.hid (show tmL k w row = [] from by unfold tmL; rw [if_neg hv])
    obtain ⟨er, her⟩ : ∃ er, er = K.valid k w row := ⟨_, rfl⟩
    rw [← her] at HV hv
    have hvb : (er != 0) = true := by simpa using hv
    have Her := Lib.hid her
    clear her hA hv
    go_enter Tryz.func9, Tryz.ntmps9
    go_wp2_with fail
    refine HV.out.mono ?_
    rintro e w1 ⟨rfl, hb⟩
    have Hb := Lib.hid hb
    clear hb
    go_wp2
    go_ret2
    exact ⟨none, 0, 0, by rw [← Her.out]; rfl, by rw [Hm.out]; exact StAt.nil_ _, Hb.out⟩

/-- the term of a right row, asked -/
theorem tm_asked {k w : Int} {row : List K.Stp} (hv : K.valid k w row = 0) : K.askedT (tmL k w row) k w = 0 ∧ tabL (tmL k w row) k w = mL k w row := by
  obtain ⟨hov, hl, hok⟩ := K.valid_zero hv
  have hkw := K.over_iff.1 hov
  obtain ⟨kN, rfl⟩ : ∃ kN : Nat, k = kN := ⟨k.toNat, by omega⟩
  obtain ⟨wN, rfl⟩ : ∃ wN : Nat, w = wN := ⟨w.toNat, by omega⟩
  have e : tmL kN wN row = K.term kN wN (B.pw wN - 1) row := by unfold tmL; rw [if_pos hv]; rfl
  rw [Int.toNat_natCast] at hok
  have h1 := K.front_asked (k := kN) (w := wN) (by omega) (by omega) hok (K.term_front (by omega) hl)
  rw [e]
  refine ⟨h1, ?_⟩
  unfold tabL mL
  rw [if_pos h1, if_pos hv]
  exact K.term_table (by omega) (by omega) hl hok

set_option maxRecDepth 100000 in
set_option maxHeartbeats 2000000 in
theorem seekMeanings_any (k w : Int) (A : Option Addr) (m c : Nat) (row : List K.Stp) (W : World) (hA : StAt 3 StepR W A m row) :
    Calls Tryz.prog 3 #[.agg #[.int .i64 k, .int .i64 w], .slice A m c] W fun e w' => e = .returned (.bool true) ∧ Below W.heap.size W w' := by
  have HK := Lib.hid (fun W' => known_any W')
  have hle := hA.le
  obtain ⟨W1, hW1⟩ : ∃ W1, W1 = W.alloc (.cells #[.int .i64 k, .int .i64 w] 23) := ⟨_, rfl⟩
  have hb1 : Below W.heap.size W W1 := by rw [hW1]; exact (Below.refl _ _).alloc (Nat.le_refl _) _
  have hr1 : W1.heap[W.heap.size]? = some (.cells #[.int .i64 k, .int .i64 w] 23 (0, 0)) := by rw [hW1]; exact heap_alloc_new W _
  have Hcell := Lib.hid (show ∀ X, Below W1.heap.size W1 X → X.cell? ⟨W.heap.size, 0, none⟩ = some (.int .i64 k) ∧ X.cell? ⟨W.heap.size, 1, none⟩ = some (.int .i64 w) from fun X hX => by
    have hr := row_step (Lib.hid hX) hr1
    refine ⟨?_, ?_⟩
    all_goals rw [cell_of_row _ _ _ _ _ (0, 0) hr]; rfl)
  have HA1 := Lib.hid (hA.below monoStep hb1)
  have Hb1 := Lib.hid hb1
  clear hA hb1 hr1
  by_cases hm : 100 < m
  · go_enter Tryz.func3, Tryz.ntmps3
    go_wp2_with fail
    rw [← hW1]
    clear hW1
    (with_reducible refine (HK.out _).mono ?_)
    rintro e w5 ⟨rfl, hb5⟩
    have Hb5 := Lib.hid (Hb1.out.trans (hb5.mono Hb1.out.size))
    clear hb5
    go_wp2
    go_ret
    exact ⟨rfl, Hb5.out⟩
  · obtain ⟨v, hv⟩ : ∃ v, v = K.valid k w row := ⟨_, rfl⟩
    have HP := Lib.hid (show Calls Tryz.prog 7 #[.int .i64 k, .int .i64 w, .slice A m c] W1 (fun e w' => ∃ A' n' c', e = .returned (.tuple #[.slice A' n' c', .int .i64 v]) ∧ SlAt (IntR .u32) w' A' n' (mL k w row) ∧ Below W1.heap.size W1 w') from by rw [hv]; exact (pMeaning_any k w A m c row W1 HA1.out).mono fun e w' h => h.reads)
    have HR := Lib.hid (fun X (h : Below W1.heap.size W1 X) => show Calls Tryz.prog 8 #[.int .i64 k, .int .i64 w, .slice A m c] X (fun e w' => ∃ A' n' c', e = .returned (.tuple #[.slice A' n' c', .int .i64 v]) ∧ SlAt (IntR .u32) w' A' n' (mL k w row) ∧ Below X.heap.size X w') from by rw [hv]; exact rMeaning_any k w A m c row X (HA1.out.below monoStep h))
    have HT := Lib.hid (fun X (h : Below W1.heap.size W1 X) => show Calls Tryz.prog 9 #[.int .i64 k, .int .i64 w, .slice A m c] X (fun e w' => ∃ A' n c', e = .returned (.tuple #[.slice A' n c', .int .i64 v]) ∧ StAt 5 NdR w' A' n (tmL k w row) ∧ Below X.heap.size X w') from by rw [hv]; exact pTerm_any k w A m c row X (HA1.out.below monoStep h))
    have HV1 := Lib.hid (fun X (h : Below W1.heap.size W1 X) => show Calls Tryz.prog 10 #[.int .i64 k, .int .i64 w, .slice A m c] X (fun e w' => e = .returned (.int .i64 v) ∧ Below X.heap.size X w') from by rw [hv]; exact pValid_any k w A m c row X (HA1.out.below monoStep h))
    have HV2 := Lib.hid (fun X (h : Below W1.heap.size W1 X) => show Calls Tryz.prog 11 #[.int .i64 k, .int .i64 w, .slice A m c] X (fun e w' => e = .returned (.int .i64 v) ∧ Below X.heap.size X w') from by rw [hv]; exact rvalid_any k w A m c row X (HA1.out.below monoStep h))
    have Htm := Lib.hid (fun h0 : v = 0 => tm_asked (k := k) (w := w) (row := row) (by rw [← hv]; exact h0))
    have Htl := Lib.hid (show v ≠ 0 → (tmL k w row).length = 0 from fun h => by unfold tmL; rw [if_neg (by rw [← hv]; exact h)]; rfl)
    have HMO := Lib.hid (fun n ct At X (hT : StAt 5 NdR X At n (tmL k w row)) => (rMeaningOf_any (tmL k w row) k w n ct At X hT).mono fun e w' h => h.reads)
    clear hv
    obtain ⟨c0, c1⟩ := Hcell.out W1 (Below.refl _ _)
    go_enter Tryz.func3, Tryz.ntmps3
    rw [hW1] at c0 c1
    go_wp2_with fail
    rw [← hW1] at c0 c1 ⊢
    clear hW1
    (with_reducible refine HP.out.mono ?_)
    rintro e w2 ⟨A2, n2, k2, rfl, s2, hb2⟩
    have Hs2 := Lib.hid s2
    have Hb2 := Lib.hid hb2
    obtain ⟨d0, d1⟩ := Hcell.out w2 hb2
    clear s2 hb2 c0 c1
    go_wp2_with fail
    (with_reducible refine (HR.out _ Hb2.out).mono ?_)
    rintro e w3 ⟨A3, n3, k3, rfl, s3, hb3⟩
    have Hs23 := Lib.hid (Hs2.out.below (monoInt _) hb3)
    have Hs3 := Lib.hid s3
    have Hb3 := Lib.hid (Hb2.out.trans (hb3.mono Hb2.out.size))
    obtain ⟨c0, c1⟩ := Hcell.out w3 Hb3.out
    clear s3 hb3 d0 d1
    go_wp2_with fail
    (with_reducible refine (HT.out _ Hb3.out).mono ?_)
    rintro e w4 ⟨A4, n4, k4, rfl, s4, hb4⟩
    have Hs4 := Lib.hid s4
    have hn4 := s4.len
    have hle4 := s4.le
    have Hs24 := Lib.hid (Hs23.out.below (monoInt _) hb4)
    have Hs34 := Lib.hid (Hs3.out.below (monoInt _) hb4)
    have Hb4 := Lib.hid (Hb3.out.trans (hb4.mono Hb3.out.size))
    obtain ⟨d0, d1⟩ := Hcell.out w4 Hb4.out
    have Hn4 := Lib.hid hn4
    clear s4 hb4 c0 c1 hn4
    obtain ⟨ov⟩ := ov_ex w4
    have HW1 := Lib.hid (fun u => calls_over (ov := ov) (HV1.out (ov.f u) (Hb4.out.trans ((ov.below u).mono Hb4.out.size))))
    have HW2 := Lib.hid (fun u => calls_over (ov := ov) (HV2.out (ov.f u) (Hb4.out.trans ((ov.below u).mono Hb4.out.size))))
    have HSW := Lib.hid (fun u => calls_over_dr (ov := ov) (show Calls Tryz.prog 12 #[.slice A2 n2 k2, .slice A3 n3 k3] (ov.f u) (fun e w' => e = .returned (.bool true) ∧ Dr (ov.f u) w') from by
      have := SameWords_any A2 A3 n2 n3 k2 k3 _ _ (ov.f u) (Hs24.out.below (monoInt _) (ov.below u)) (Hs34.out.below (monoInt _) (ov.below u))
      rw [decide_eq_true rfl] at this
      exact this))
    have o0 := ov.cell d0
    have o1 := ov.cell d1
    have hvv : (v != v) = false := by simp
    go_wp2
    refine wp_region_ovq ov (by kernel_rfl) (by kernel_rfl) ?_
    repeat (go_big_quiet_step ((first | (go_at_call 10; with_reducible exact HW1.out _) | (go_at_call 11; with_reducible exact HW2.out _) | (go_at_call 12; with_reducible exact HSW.out _))))
    refine wpQuiet_nil ?_
    clear o0 o1 d0 d1 HW1 HW2 HSW
    rintro _ ⟨u, rfl⟩
    have hb5 := ov.below u
    have Hb5 := Lib.hid (Hb4.out.trans (hb5.mono Hb4.out.size))
    have Hs45 := Lib.hid (Hs4.out.below monoNd hb5)
    have Hs35 := Lib.hid (Hs34.out.below (monoInt _) hb5)
    obtain ⟨d0, d1⟩ := Hcell.out _ Hb5.out
    generalize ov.f u = w5 at Hb5 Hs45 Hs35 d0 d1 ⊢
    clear hb5
    by_cases hv0 : v = 0
    · subst hv0
      obtain ⟨h1, h2⟩ := Htm.out rfl
      have HMO2 := Lib.hid (HMO.out n4 k4 A4 w5 Hs45.out)
      rw [h1, h2] at HMO2
      clear h1 h2
      go_wp2_with fail
      (with_reducible refine HMO2.out.mono ?_)
      rintro e w6 ⟨A6, n6, k6, rfl, s6, hb6⟩
      have HS6 := Lib.hid (show Calls Tryz.prog 12 #[.slice A6 n6 k6, .slice A3 n3 k3] w6 (fun e w' => e = .returned (.bool true) ∧ Dr w6 w') from by
        have := SameWords_any A6 A3 n6 n3 k6 k3 _ _ w6 s6 (Hs35.out.below (monoInt _) hb6)
        rw [decide_eq_true rfl] at this
        exact this)
      have Hb6 := Lib.hid (Hb5.out.trans (hb6.mono Hb5.out.size))
      clear s6 hb6 d0 d1
      go_wp2_with fail
      (with_reducible refine HS6.out.mono ?_)
      rintro e w7 ⟨rfl, hd7⟩
      have Hb7 := Lib.hid (Hb6.out.dr hd7)
      clear hd7
      go_wp2_with fail
      (with_reducible refine (HK.out _).mono ?_)
      rintro e w8 ⟨rfl, hb8⟩
      have Hb8 := Lib.hid (Hb1.out.trans ((Hb7.out.trans (hb8.mono Hb7.out.size)).mono Hb1.out.size))
      clear hb8
      go_wp2
      go_ret
      exact ⟨rfl, Hb8.out⟩
    · have q0 : (v != 0) = true := by simpa using hv0
      have hn0 : n4 = 0 := by rw [← Hn4.out]; exact Htl.out hv0
      subst hn0
      clear hv0 d0 d1
      go_wp2_with fail
      (with_reducible refine (HK.out _).mono ?_)
      rintro e w8 ⟨rfl, hb8⟩
      have Hb8 := Lib.hid (Hb1.out.trans ((Hb5.out.trans (hb8.mono Hb5.out.size)).mono Hb1.out.size))
      clear hb8
      go_wp2
      go_ret
      exact ⟨rfl, Hb8.out⟩
end Go.Proofs.YtableoihgkmbjaaGreat
