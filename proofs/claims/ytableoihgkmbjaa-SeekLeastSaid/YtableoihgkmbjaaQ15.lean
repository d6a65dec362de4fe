/- How many rows of a length have a meaning: the program at all inputs; the reference; the law. -/
import Derived.Test.YtableoihgkmbjaaQ14
namespace Go.Proofs.Ytableoihgkmbjaa
open Go.RowKit
set_option linter.unusedVariables false
set_option linter.unusedSimpArgs false

theorem ret_two {a b c d : Int} (h1 : a = c) (h2 : b = d) : Ending.returned (.tuple #[.int .i64 a, .int .i64 b]) = .returned (.tuple #[.int .i64 c, .int .i64 d]) := by rw [h1, h2]

set_option maxRecDepth 100000 in
set_option maxHeartbeats 2000000 in
theorem pCount_any (k w : Int) (T : Option Addr) (m c : Nat) (t : List Int) (n : Int) (W : World) (hT : SlAt (IntR .u32) W T m t) :
    Calls Try.prog 10 #[.int .i64 k, .int .i64 w, .slice T m c, .int .i64 n] W fun e w' => e = .returned (.tuple #[.int .i64 (K.count k w t n).1, .int .i64 (K.count k w t n).2]) ∧ Below W.heap.size W w' := by
  have HP := Lib.hid (fun W' (h : Below W.heap.size W W') => pasked_any k w T m c t W' (hT.below (monoInt _) h))
  have hB1 := Lib.hid (show Below W.heap.size W ((W.alloc (.cells #[.slice T m c] 24)).alloc (.cells #[.int .i64 k, .int .i64 w] 44)) from ((Below.refl _ _).alloc (Nat.le_refl _) _).alloc (by simp) _)
  cases hc : (K.over k w && K.isTable k.toNat w.toNat t)
  · have hs : K.count k w t n = (0, 1) := by unfold K.count; rw [hc]; rfl
    rw [hs]
    rw [hc] at HP
    clear hs hc hT
    go_enter Try.func10, Try.ntmps10
    go_wp2_with fail
    refine (HP.out _ hB1.out).mono ?_
    rintro e w' ⟨rfl, hb⟩
    have Hb := Lib.hid hb; clear hb
    go_wp2
    go_ret2
    exact ⟨rfl, hB1.out.trans (Hb.out.mono (by simp; omega))⟩
  · have hov : K.over k w = true := by cases h : K.over k w; · rw [h] at hc; cases hc
                                       · rfl
    have hkw := K.over_iff.1 hov
    by_cases hn : n < 0 ∨ 2 < n
    · have hs : K.count k w t n = (0, 1) := by unfold K.count; rw [hc, if_pos rfl, if_pos hn]
      rw [hs]
      rw [hc] at HP
      clear hs hc hT hov hkw
      by_cases h0 : n < 0
      · have h0d : decide (n < 0) = true := by simpa using h0
        clear hn
        go_enter Try.func10, Try.ntmps10
        go_wp2_with fail
        refine (HP.out _ hB1.out).mono ?_
        rintro e w' ⟨rfl, hb⟩
        have Hb := Lib.hid hb; clear hb
        go_wp2
        go_ret2
        exact ⟨rfl, hB1.out.trans (Hb.out.mono (by simp; omega))⟩
      · have h2 : 2 < n := by omega
        have h0d : decide (n < 0) = false := by simpa using h0
        have h2d : decide (2 < n) = true := by simpa using h2
        clear hn
        go_enter Try.func10, Try.ntmps10
        go_wp2_with fail
        refine (HP.out _ hB1.out).mono ?_
        rintro e w' ⟨rfl, hb⟩
        have Hb := Lib.hid hb; clear hb
        go_wp2
        go_ret2
        exact ⟨rfl, hB1.out.trans (Hb.out.mono (by simp; omega))⟩
    · obtain ⟨kN, rfl⟩ : ∃ kN : Nat, k = kN := ⟨k.toNat, by omega⟩
      obtain ⟨wN, rfl⟩ : ∃ wN : Nat, w = wN := ⟨w.toNat, by omega⟩
      obtain ⟨nN, rfl⟩ : ∃ nN : Nat, n = nN := ⟨n.toNat, by omega⟩
      have hti : K.isTable kN wN t = true := by
        rw [hov] at hc; simpa using hc
      have hs : K.count kN wN t nN = (((K.cnt kN wN t (K.rows kN nN) : Nat) : Int), 0) := by unfold K.count; rw [hc, if_pos rfl, if_neg hn]; rfl
      rw [hs]
      exact pCountR_any kN wN nN (by omega) (by omega) (by omega) T m c t W hT hti

set_option maxRecDepth 100000 in
set_option maxHeartbeats 4000000 in
theorem rCount_any (k w : Int) (A : Option Addr) (m c : Nat) (t : List Int) (n : Int) (W : World) (hA : SlAt (IntR .u32) W A m t) (h32 : K.W32 t) :
    Calls Try.prog 11 #[.int .i64 k, .int .i64 w, .slice A m c, .int .i64 n] W fun e w' => e = .returned (.tuple #[.int .i64 (K.count k w t n).1, .int .i64 (K.count k w t n).2]) ∧ Below W.heap.size W w' := by
  have HO := Lib.hid (over_any k w W)
  cases hov : K.over k w
  · have hs : K.count k w t n = (0, 1) := by unfold K.count; rw [hov]; rfl
    rw [hs]
    rw [hov] at HO
    clear hs hov hA h32
    go_enter Try.func11, Try.ntmps11
    go_wp2_with fail
    refine HO.out.mono ?_
    rintro e w' ⟨rfl, rfl⟩
    go_wp2
    go_ret2
    exact ⟨rfl, Below.refl _ _⟩
  · have hkw := K.over_iff.1 hov
    obtain ⟨kN, rfl⟩ : ∃ kN : Nat, k = kN := ⟨k.toNat, by omega⟩
    obtain ⟨wN, rfl⟩ : ∃ wN : Nat, w = wN := ⟨w.toNat, by omega⟩
    have hk : kN = 1 ∨ kN = 2 := by omega
    have hw : wN = 1 ∨ wN = 2 ∨ wN = 3 := by omega
    have HT := Lib.hid (risTable_any kN wN hk hw A m c t W hA h32)
    rw [hov] at HO
    cases hti : K.isTable kN wN t
    · have hs : K.count kN wN t n = (0, 1) := by unfold K.count; rw [hov, Int.toNat_natCast, Int.toNat_natCast, hti]; rfl
      rw [hs]
      rw [hti] at HT
      clear hs hov hA h32 hti hkw hk hw
      go_enter Try.func11, Try.ntmps11
      go_wp2_with fail
      refine HO.out.mono ?_
      rintro e w' ⟨rfl, rfl⟩
      go_wp2_with fail
      refine HT.out.mono ?_
      rintro e w' ⟨rfl, rfl⟩
      go_wp2
      go_ret2
      exact ⟨rfl, Below.refl _ _⟩
    · rw [hti] at HT
      by_cases hn : n < 0 ∨ 2 < n
      · have hs : K.count kN wN t n = (0, 1) := by unfold K.count; rw [hov, Int.toNat_natCast, Int.toNat_natCast, hti, if_pos (by rfl), if_pos hn]
        rw [hs]
        clear hs hov hA h32 hti hkw hk hw
        by_cases h0 : n < 0
        · have h0d : decide (n < 0) = true := by simpa using h0
          clear hn
          go_enter Try.func11, Try.ntmps11
          go_wp2_with fail
          refine HO.out.mono ?_
          rintro e w' ⟨rfl, rfl⟩
          go_wp2_with fail
          refine HT.out.mono ?_
          rintro e w' ⟨rfl, rfl⟩
          go_wp2
          go_ret2
          exact ⟨rfl, Below.refl _ _⟩
        · have h2 : 2 < n := by omega
          have h0d : decide (n < 0) = false := by simpa using h0
          have h2d : decide (2 < n) = true := by simpa using h2
          clear hn
          go_enter Try.func11, Try.ntmps11
          go_wp2_with fail
          refine HO.out.mono ?_
          rintro e w' ⟨rfl, rfl⟩
          go_wp2_with fail
          refine HT.out.mono ?_
          rintro e w' ⟨rfl, rfl⟩
          go_wp2
          go_ret2
          exact ⟨rfl, Below.refl _ _⟩
      · obtain ⟨q, rfl⟩ : ∃ q : Nat, n = q := ⟨n.toNat, by omega⟩
        have hs : K.count kN wN t q = (((K.cnt kN wN t (K.rows kN q) : Nat) : Int), 0) := by unfold K.count; rw [hov, Int.toNat_natCast, Int.toNat_natCast, hti, if_pos (by rfl), if_neg hn]; rfl
        rw [hs]
        have hm : m = K.size kN wN := by
          have h1 := hti
          unfold K.isTable at h1
          simp only [Bool.and_eq_true, decide_eq_true_eq] at h1
          rw [← hA.len]; exact h1.1
        have HA := Lib.hid hA
        have HI := Lib.hid (rinputs_any kN wN hk hw W)
        have hcount := K.rows_count (k := kN) (n := q) (by omega) (by omega)
        have HR := Lib.hid (fun W' => rrows_any kN q (by omega) (by omega) W')
        have HH := Lib.hid (fun Ar m' cr row A2 c2 W' (h1 : StAt 3 StepR W' Ar m' row) (h2 : SlAt (SlR (IntR .u32)) W' A2 (K.size kN wN) (K.inputs kN wN)) (h3 : Below W.heap.size W W') (h4 : K.okRow kN row) (h5 : m' ≤ 100) => rhas_any kN wN hk hw Ar m' cr row A2 c2 A c t W' h1 h2 (by rw [← hm]; exact hA.below (monoInt _) h3) h4 h5)
        have Hrl := Lib.hid (fun r (h : r ∈ K.rows kN q) => K.rows_len h)
        have hn0 : ¬ (q : Int) < 0 := by omega
        have hn2 : ¬ (2 : Int) < (q : Int) := by omega
        have hn2d : decide ((2 : Int) < (q : Int)) = false := by simpa using hn2
        have hq2 : q ≤ 2 := by omega
        clear hs hov hA h32 hti hkw hk hw hn
        subst hm
        obtain ⟨N, hN⟩ : ∃ N, N = K.size kN wN := ⟨_, rfl⟩
        obtain ⟨R, hR⟩ : ∃ R, R = (K.rows kN q).length := ⟨_, rfl⟩
        simp only [← hN] at *
        simp only [← hR] at HR hcount
        have HRl := Lib.hid hR
        clear hN hR
        go_enter Try.func11, Try.ntmps11
        go_wp2_with fail
        refine HO.out.mono ?_
        rintro e w' ⟨rfl, rfl⟩
        go_wp2_with fail
        refine HT.out.mono ?_
        rintro e w' ⟨rfl, rfl⟩
        go_wp2_with fail
        refine HI.out.mono ?_
        rintro e w1 ⟨A1, c1, rfl, hin, hb1⟩
        have Hin := Lib.hid hin; clear hin
        have Hb1 := Lib.hid hb1; clear hb1
        go_wp2_with fail
        refine (HR.out w1).mono ?_
        rintro e w2 ⟨A2, c2, rfl, hrows, hb2⟩
        have Hrows := Lib.hid hrows; clear hrows
        have Hb2 := Lib.hid hb2; clear hb2
        clear hn0 hn2 hn2d
        go_wp2
        go_loopg [12, 14] (R + 1) (fun g a i wr => ∃ (j : Nat), j ≤ R ∧ i = .int .i64 (j : Int) ∧ g + j = R + 1 ∧ Below w2.heap.size w2 wr ∧ a = .int .i64 (K.cnt kN wN t ((K.rows kN q).take j) : Nat))
        case atStart => exact ⟨0, Nat.zero_le _, rfl, rfl, Below.refl _ _, rfl⟩
        case round =>
          obtain ⟨j, hj, rfl, hgk, hbw, rfl⟩ := hrel
          have Hgk2 := Lib.hid hgk; clear hgk
          have hcb : K.cnt kN wN t ((K.rows kN q).take j) ≤ 100000 := by
            have h1 := K.cnt_le kN wN t ((K.rows kN q).take j)
            have h2 : ((K.rows kN q).take j).length ≤ (K.rows kN q).length := by rw [List.length_take]; omega
            have := HRl.out
            omega
          by_cases hlt : j < R
          · obtain ⟨row, b, off, u, hrow, rfl, hbl, hc, Ar, cr, rfl, hst⟩ := Hrows.out.at_ hlt
            have hcw : wr.cell? ⟨b, off + j, none⟩ = _ := (hbw.cell (p := ⟨b, off + j, none⟩) hbl).trans hc
            have hmem := List.mem_of_getElem? hrow
            have hl2 := Hrl.out row hmem
            have hbW : Below W.heap.size W wr := Hb1.out.trans ((Hb2.out.trans (hbw.mono Hb2.out.size)).mono Hb1.out.size)
            have hb1r : Below w1.heap.size w1 wr := Hb2.out.trans (hbw.mono Hb2.out.size)
            have con := HH.out Ar row.length cr row A1 c1 wr (hst.below monoStep hbw) (Hin.out.below (monoSl (monoInt _)) hb1r) hbW (K.rows_ok hmem) (by omega)
            have htk : (K.rows kN q).take (j + 1) = (K.rows kN q).take j ++ [row] := K.take_succ_at hrow
            have Htk := Lib.hid htk
            clear hc hmem hl2 hst hrow htk
            by_cases hm : K.meaning kN wN row = t
            · rw [decide_eq_true hm] at con
              have Hcon := Lib.hid con
              have Hm := Lib.hid hm
              clear con hm
              go_wp2_with fail
              (with_reducible refine Hcon.out.mono ?_)
              rintro e w3 ⟨rfl, hb3⟩
              have Hb3 := Lib.hid (hbw.trans (hb3.mono hbw.size))
              clear hb3 hcw hbW hb1r hbw
              go_wp2
              go_roundg (gk - 1)
              case measure => have := Hgk2.out; omega
              case rel => have := Hgk2.out; exact ⟨j + 1, by omega, by go_num, by omega, Hb3.out, by rw [Htk.out, K.cnt_yes Hm.out]; rfl⟩
            · rw [decide_eq_false hm] at con
              have Hcon := Lib.hid con
              have Hm := Lib.hid hm
              clear con hm
              go_wp2_with fail
              (with_reducible refine Hcon.out.mono ?_)
              rintro e w3 ⟨rfl, hb3⟩
              have Hb3 := Lib.hid (hbw.trans (hb3.mono hbw.size))
              clear hb3 hcw hbW hb1r hbw
              go_wp2
              go_roundg (gk - 1)
              case measure => have := Hgk2.out; omega
              case rel => have := Hgk2.out; exact ⟨j + 1, by omega, by go_num, by omega, Hb3.out, by rw [Htk.out, K.cnt_no Hm.out]⟩
          · obtain rfl : j = R := by omega
            have e9 : (K.rows kN q).take j = K.rows kN q := by rw [HRl.out, List.take_length]
            rw [e9] at hcb
            simp only [e9]
            have Hbw := Lib.hid (Hb1.out.trans ((Hb2.out.trans (hbw.mono Hb2.out.size)).mono Hb1.out.size))
            clear hbw e9
            go_wp2
            go_ret2
            exact ⟨rfl, Hbw.out⟩
end Go.Proofs.Ytableoihgkmbjaa
