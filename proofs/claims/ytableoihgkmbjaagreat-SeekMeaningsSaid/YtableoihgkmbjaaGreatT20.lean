/- The table of a term: the reference; the law SeekTerms. -/
import Derived.Test.YtableoihgkmbjaaGreatT19
namespace Go.Proofs.YtableoihgkmbjaaGreat
open Go.RowKit
set_option linter.unusedVariables false
set_option linter.unusedSimpArgs false

namespace T
def long (t : List Nd) : Bool := decide (400 < t.length) || t.any fun x => decide (20 < x.args.length)
end T

theorem Long_any (t : List T.Nd) (n ct : Nat) (At : Option Addr) (W : World) (hT : StAt 5 NdR W At n t) :
    Calls Tryz.prog 14 #[.slice At n ct] W fun e w' => e = .returned (.bool (T.long t)) ∧ W = w' := by
  have HT := Lib.hid hT
  have hle := hT.le
  have hln := hT.len
  by_cases h4 : 400 < n
  · have e : T.long t = true := by unfold T.long; rw [hln, decide_eq_true h4]; rfl
    rw [e]
    clear e hT hln
    go_enter Tryz.func14, Tryz.ntmps14
    go_wp2
    go_ret
    exact ⟨rfl, rfl⟩
  · have e : T.long t = t.any fun x => decide (20 < x.args.length) := by unfold T.long; rw [hln, decide_eq_false h4]; rfl
    rw [e]
    have Hln := Lib.hid hln
    obtain ⟨r, hr⟩ : ∃ r, r = t.any fun x => decide (20 < x.args.length) := ⟨_, rfl⟩
    rw [← hr]
    have Hr := Lib.hid hr
    clear e hT hln hr
    go_enter Tryz.func14, Tryz.ntmps14
    go_wp2
    go_loop [3] (fun i => ∃ j : Nat, j ≤ n ∧ i = .int .i64 (j : Int) ∧ Hid ((t.take j).any (fun x => decide (20 < x.args.length)) = false)) (fun i => n - (intOf i).toNat)
    case atStart => exact ⟨0, Nat.zero_le _, rfl, Lib.hid rfl⟩
    case round =>
      obtain ⟨j, hj, rfl, Hany⟩ := hrel
      by_cases hlt : j < n
      · obtain ⟨x, b, off, A, c, hx, rfl, hb, _, _, _, h3, _, hs, _, _⟩ := nd_cells HT.out hlt
        have hle3 := hs.le
        by_cases h20 : 20 < x.args.length
        · have Ht := Lib.hid (show r = true from by rw [Hr.out]; exact any_true_at hx (by simpa using h20))
          clear hx hs hb
          go_wp2
          go_ret
          exact ⟨by rw [Ht.out]; rfl, rfl⟩
        · have Ht := Lib.hid (show (t.take (j + 1)).any (fun x => decide (20 < x.args.length)) = false from any_take_step hx Hany.out (by simpa using h20))
          clear hx hs hb
          go_wp2
          go_round
          case rel => exact ⟨j + 1, by omega, by go_num, Ht⟩
          case measure => simp [intOf]; omega
      · obtain rfl : j = n := by omega
        have Ht := Lib.hid (show r = false from by
          have := Hany.out
          rw [List.take_of_length_le (by rw [Hln.out]; exact Nat.le_refl _)] at this
          rw [Hr.out]; exact this)
        go_wp2
        go_ret
        exact ⟨by rw [Ht.out]; rfl, rfl⟩

theorem SameWords_any (A B : Option Addr) (n m c d : Nat) (xs ys : List Int) (W : World) (hA : SlAt (IntR .u32) W A n xs) (hB : SlAt (IntR .u32) W B m ys) :
    Calls Tryz.prog 12 #[.slice A n c, .slice B m d] W fun e w' => e = .returned (.bool (decide (xs = ys))) ∧ Dr W w' := by
  have HA := Lib.hid hA
  have HB := Lib.hid hB
  have h1 := hA.le
  have h2 := hB.le
  have Hl1 := Lib.hid hA.len
  have Hl2 := Lib.hid hB.len
  clear hA hB
  obtain ⟨r, hr⟩ : ∃ r, r = decide (xs = ys) := ⟨_, rfl⟩
  rw [← hr]
  have Hr := Lib.hid hr
  clear hr
  by_cases hnm : n = m
  · subst hnm
    have q : ((n : Int) != (n : Int)) = false := by simp
    go_enter Tryz.func12, Tryz.ntmps12
    go_wp2
    go_loopg [5] (n + 1) (fun g i wr => ∃ j : Nat, j ≤ n ∧ i = .int .i64 (j : Int) ∧ g + j = n + 1 ∧ Hid (xs.take j = ys.take j) ∧ Hid (Dr W wr))
    case atStart => exact ⟨0, Nat.zero_le _, rfl, rfl, Lib.hid rfl, Lib.hid (Dr.refl _)⟩
    case round =>
      obtain ⟨j, hj, rfl, hgk, Heq, HD⟩ := hrel
      have Hgk := Lib.hid hgk; clear hgk
      by_cases hlt : j < n
      · obtain ⟨x, b, off, u, hx, rfl, hb, hc, hu⟩ := (HA.out.dr (monoInt _) HD.out).at_ hlt
        obtain rfl : u = .int .u32 x := hu
        obtain ⟨y, b2, off2, u2, hy, rfl, hb2, hc2, hu2⟩ := (HB.out.dr (monoInt _) HD.out).at_ hlt
        obtain rfl : u2 = .int .u32 y := hu2
        by_cases hxy : x = y
        · have Ht := Lib.hid (show xs.take (j + 1) = ys.take (j + 1) from by rw [K.take_succ_at hx, K.take_succ_at hy, Heq.out, hxy])
          have q : (x != y) = false := by simpa using hxy
          clear hx hy hb hb2 hxy
          go_wp2
          go_quiet (fail)
          generalize hW3 : wr.drewN _ = w3
          have Hd3 := Lib.hid (HD.out.trans ⟨_, hW3.symm⟩)
          clear hW3 hc hc2
          go_wp2
          go_roundg (gk - 1)
          case measure => have := Hgk.out; omega
          case rel => have := Hgk.out; exact ⟨j + 1, by omega, by go_num, by omega, Ht, Hd3⟩
        · have Ht := Lib.hid (show r = false from by
            rw [Hr.out, decide_eq_false_iff_not]
            intro e
            subst e
            rw [hx] at hy
            exact hxy (Option.some.inj hy))
          have q : (x != y) = true := by simpa using hxy
          clear hx hy hb hb2 hxy
          go_wp2
          go_quiet (fail)
          generalize hW3 : wr.drewN _ = w3
          have Hd3 := Lib.hid (HD.out.trans ⟨_, hW3.symm⟩)
          clear hW3 hc hc2
          go_wp2
          go_ret
          exact ⟨by rw [Ht.out]; rfl, Hd3.out⟩
      · obtain rfl : j = n := by omega
        have Ht := Lib.hid (show r = true from by
          have := Heq.out
          rw [List.take_of_length_le (by rw [Hl1.out]; exact Nat.le_refl _), List.take_of_length_le (by rw [Hl2.out]; exact Nat.le_refl _)] at this
          rw [Hr.out, decide_eq_true this])
        go_wp2
        go_ret
        exact ⟨by rw [Ht.out]; rfl, HD.out⟩
  · have Ht := Lib.hid (show r = false from by
      rw [Hr.out, decide_eq_false_iff_not]
      intro e
      exact hnm (by rw [← Hl1.out, ← Hl2.out, e]))
    have q : ((n : Int) != (m : Int)) = true := by rw [bne_iff_ne]; omega
    clear hnm
    go_enter Tryz.func12, Tryz.ntmps12
    go_wp2
    go_ret
    exact ⟨by rw [Ht.out]; rfl, Dr.refl _⟩

set_option maxRecDepth 100000 in
set_option maxHeartbeats 4000000 in
theorem rasked_any (t : List T.Nd) (k w : Int) (n ct : Nat) (At : Option Addr) (W : World) (hT : StAt 5 NdR W At n t) :
    Calls Tryz.prog 26 #[.slice At n ct, .int .i64 k, .int .i64 w] W fun e w' => e = .returned (.int .i64 (K.askedT t k w)) ∧ Below W.heap.size W w' := by
  have HWs := Lib.hid (rWidths_any t n ct At W hT)
  obtain ⟨r, hr⟩ : ∃ r, r = K.askedT t k w := ⟨_, rfl⟩
  rw [← hr]
  unfold K.askedT at hr
  by_cases hv : T.valid true t = 0
  · have Hv := Lib.hid hv
    have HO := Lib.hid (fun W' => over_any k w W')
    rw [if_neg (by simpa using hv)] at hr
    cases ho : K.over k w
    · rw [ho] at HO hr
      rw [if_pos rfl] at hr
      have Hr := Lib.hid hr
      clear hr hv hT ho
      go_enter Tryz.func26, Tryz.ntmps26
      go_wp2_with fail
      (with_reducible refine HWs.out.mono ?_)
      rintro e w1 ⟨hb1, h | ⟨_, g, rfl, hg, hrow⟩⟩
      · exact absurd Hv.out h.1
      have Hb1 := Lib.hid hb1
      clear hb1 hrow
      go_wp2_with fail
      (with_reducible refine (HO.out _).mono ?_)
      rintro e w' ⟨rfl, rfl⟩
      go_wp2
      go_ret
      exact ⟨by rw [Hr.out]; rfl, Hb1.out⟩
    · rw [ho] at HO hr
      rw [if_neg (by simp)] at hr
      obtain ⟨v1, v2, v3, v4, v5⟩ := valid_ok hv
      have hln := hT.len
      rw [hln] at v1 v2
      have hle := hT.le
      have hlast : n - 1 < n := by omega
      obtain ⟨x, b, off, A, c, hx, rfl, hb, _, h1, _, _, _, _, _, _⟩ := nd_cells hT hlast
      have hrw : K.rootW t = x.w := by unfold K.rootW; rw [hln, getD_of hx]
      obtain ⟨rw_, hrww⟩ : ∃ z, z = x.w := ⟨_, rfl⟩
      rw [← hrww] at h1 hrw
      rw [hrw] at hr
      have Hr := Lib.hid hr
      have hs1 : ((n : Int) - 1).toNat = n - 1 := by omega
      have H1 := Lib.hid (fun X (h : Below W.heap.size W X) => (h.cell (p := ⟨b, off + (n - 1) * 5 + 1, none⟩) hb).trans h1)
      have hkk := K.over_iff.1 ho
      have Hkk := Lib.hid hkk
      clear hT hv hln hx hrw hrww hr ho hb h1 v3 v4 v5 hkk
      by_cases hrw : rw_ = w
      · have q0 : (rw_ != w) = false := by simpa using hrw
        have Hrw := Lib.hid hrw
        clear hrw
        go_enter Tryz.func26, Tryz.ntmps26
        go_wp2_with fail
        (with_reducible refine HWs.out.mono ?_)
        rintro e w1 ⟨hb1, h | ⟨_, g, rfl, hg, hrow⟩⟩
        · exact absurd Hv.out h.1
        have Hb1 := Lib.hid hb1
        have Hrow := Lib.hid hrow
        have h1 := H1.out w1 hb1
        clear hb1 hrow hg
        go_wp2_with fail
        (with_reducible refine (HO.out _).mono ?_)
        rintro e w' ⟨rfl, rfl⟩
        go_wp2
        have Hcell := Lib.hid (show ∀ v z, (T.widths t)[v]? = some z → w1.cell? ⟨g, v, none⟩ = some (.int .i64 z) from fun v z hz => by rw [cell_of_row _ _ _ _ _ (0, 0) Hrow.out, List.getElem?_toArray, List.getElem?_map, hz]; rfl)
        clear h1
        go_loop [10] (fun i => ∃ j : Nat, j ≤ 4 ∧ i = .int .i64 (j : Int) ∧ Hid (((T.widths t).take j).any (fun z => !decide (z = 0) && !decide (z = w)) = false)) (fun i => 4 - (intOf i).toNat)
        case atStart => exact ⟨0, by omega, rfl, Lib.hid rfl⟩
        case round =>
          obtain ⟨j, hj, rfl, Hany⟩ := hrel
          by_cases hlt : j < 4
          · obtain ⟨z, hz⟩ := wd_four t hlt
            have hc := Hcell.out j z hz
            by_cases hz0 : z = 0
            · have Ht := Lib.hid (any_take_step hz Hany.out (by simp [hz0]))
              have q : (z != 0) = false := by simpa using hz0
              clear hz hz0
              go_wp2
              go_round
              case rel => exact ⟨j + 1, by omega, by go_num, Ht⟩
              case measure => simp [intOf]; omega
            · have q : (z != 0) = true := by simpa using hz0
              by_cases hzw : z = w
              · have Ht := Lib.hid (any_take_step hz Hany.out (by simp [hzw]))
                have q2 : (z != w) = false := by simpa using hzw
                clear hz hz0 hzw
                go_wp2
                go_round
                case rel => exact ⟨j + 1, by omega, by go_num, Ht⟩
                case measure => simp [intOf]; omega
              · have Ht := Lib.hid (show r = 6 from by rw [Hr.out, if_pos (.inr (any_true_at hz (by simp [hz0, hzw])))])
                have q2 : (z != w) = true := by simpa using hzw
                clear hz hz0 hzw
                go_wp2
                go_ret
                exact ⟨by rw [Ht.out]; rfl, Hb1.out⟩
          · obtain rfl : j = 4 := by omega
            have hodd := Hany.out
            rw [List.take_of_length_le (by rw [T.widths_len]; omega)] at hodd
            have Hr2 := Lib.hid (show r = (if K.more t k.toNat = true then 7 else 0) from by
              rw [Hr.out, if_neg]
              rintro (h | h)
              · exact h Hrw.out
              · unfold K.odd at h; rw [hodd] at h; cases h)
            obtain ⟨kN, rfl⟩ : ∃ kN : Nat, k = kN := ⟨k.toNat, by have := Hkk.out; omega⟩
            have hkN : kN ≤ 2 := by have := Hkk.out; omega
            rw [Int.toNat_natCast] at Hr2
            clear hodd
            go_wp2
            go_loop [11] (fun i => ∃ j : Nat, j ≤ 4 ∧ kN ≤ j ∧ i = .int .i64 (j : Int) ∧ Hid ((((T.widths t).drop kN).take (j - kN)).any (fun z => !decide (z = 0)) = false)) (fun i => 4 - (intOf i).toNat)
            case atStart => exact ⟨kN, by omega, Nat.le_refl _, rfl, Lib.hid (by simp)⟩
            case round =>
              obtain ⟨j, hj, hkj, rfl, Hany2⟩ := hrel
              by_cases hlt2 : j < 4
              · obtain ⟨z, hz⟩ := wd_four t hlt2
                have hc := Hcell.out j z hz
                have hz' : ((T.widths t).drop kN)[j - kN]? = some z := by rw [List.getElem?_drop, show kN + (j - kN) = j by omega]; exact hz
                by_cases hz0 : z = 0
                · have Ht := Lib.hid (any_take_step hz' Hany2.out (by simp [hz0]))
                  rw [show j - kN + 1 = j + 1 - kN by omega] at Ht
                  have q : (z != 0) = false := by simpa using hz0
                  clear hz hz0 hz'
                  go_wp2
                  go_round
                  case rel => exact ⟨j + 1, by omega, by omega, by go_num, Ht⟩
                  case measure => simp [intOf]; omega
                · have Ht := Lib.hid (show r = 7 from by rw [Hr2.out, if_pos (show K.more t kN = true from any_true_at hz' (by simp [hz0]))])
                  have q : (z != 0) = true := by simpa using hz0
                  clear hz hz0 hz'
                  go_wp2
                  go_ret
                  exact ⟨by rw [Ht.out]; rfl, Hb1.out⟩
              · obtain rfl : j = 4 := by omega
                have Ht := Lib.hid (show r = 0 from by
                  have := Hany2.out
                  rw [List.take_of_length_le (by simp [T.widths_len])] at this
                  rw [Hr2.out, if_neg]
                  unfold K.more
                  rw [this]
                  simp)
                go_wp2
                go_ret
                exact ⟨by rw [Ht.out]; rfl, Hb1.out⟩
      · have q0 : (rw_ != w) = true := by simpa using hrw
        have Hr2 := Lib.hid (show r = 6 from by rw [Hr.out, if_pos (.inl hrw)])
        clear hrw Hr
        go_enter Tryz.func26, Tryz.ntmps26
        go_wp2_with fail
        (with_reducible refine HWs.out.mono ?_)
        rintro e w1 ⟨hb1, h | ⟨_, g, rfl, hg, hrow⟩⟩
        · exact absurd Hv.out h.1
        have Hb1 := Lib.hid hb1
        have h1 := H1.out w1 hb1
        clear hb1 hrow hg
        go_wp2_with fail
        (with_reducible refine (HO.out _).mono ?_)
        rintro e w' ⟨rfl, rfl⟩
        go_wp2
        go_ret
        exact ⟨by rw [Hr2.out]; rfl, Hb1.out⟩
  · rw [if_pos (by simpa using hv)] at hr
    have Hv := Lib.hid hv
    rw [← hr] at hv
    have hvb : (r != 0) = true := by simpa using hv
    have Hr := Lib.hid hr
    clear hr hv hT
    go_enter Tryz.func26, Tryz.ntmps26
    go_wp2_with fail
    (with_reducible refine HWs.out.mono ?_)
    rintro e w1 ⟨hb1, ⟨_, h⟩ | ⟨h, _⟩⟩
    case inr => exact absurd h Hv.out
    rw [← Hr.out] at h
    subst h
    have Hb1 := Lib.hid hb1
    clear hb1
    go_wp2
    go_ret
    exact ⟨rfl, Hb1.out⟩
end Go.Proofs.YtableoihgkmbjaaGreat
