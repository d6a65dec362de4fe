/- Walks: Resolve by the reference; ProofResolves. -/
import Derived.Test.YtceelipcclfdmaaW34
namespace Go.Proofs.Ytceelipcclfdmaa
open Go.RowKit Go.Maps Go.Sort
set_option linter.unusedVariables false

set_option maxRecDepth 100000 in
set_option maxHeartbeats 4000000 in
theorem refResolve_any (n : Int) (A D : Option Addr) (m c p d : Nat) (a b : List Int) (v : Int) (w : World) (hA : SlAt (IntR .i64) w A m a) (hD : SlAt (IntR .i64) w D p b) (hv : -9223372036854775808 ≤ v ∧ v ≤ 9223372036854775807) :
    Calls Try.prog 21 #[.int .i64 n, .slice A m c, .slice D p d, .int .i64 v] w (SomeIntsE w (S.resolveOf n a b v)) := by
  have hb1 : Below w.heap.size w (w.alloc (.cells #[.slice A m c] 23)) := (Below.refl _ _).alloc (Nat.le_refl _) _
  obtain ⟨w2, hw2⟩ : ∃ W, W = (w.alloc (.cells #[.slice A m c] 23)).alloc (.cells #[.slice D p d] 23) := ⟨_, rfl⟩
  have hb2 : Below w.heap.size w w2 := by rw [hw2]; exact hb1.alloc (by simp) _
  have hb12 : Below (w.alloc (.cells #[.slice A m c] 23)).heap.size (w.alloc (.cells #[.slice A m c] 23)) w2 := by rw [hw2]; exact (Below.refl _ _).alloc (Nat.le_refl _) _
  have con := checked_any n (some ⟨w.heap.size, 0, none⟩) (some ⟨w.heap.size + 1, 0, none⟩) 1 1 1 1 [a] [b] w2 ((slOne hA _).below (monoSl (monoInt _)) hb12) (by
    have := slOne (hD.below (monoInt _) hb1) (c := d) 23
    rw [hw2]; simpa using this)
  have HA := Lib.hid hA; clear hA
  have HD := Lib.hid hD; clear hD
  have Hb2 := Lib.hid hb2; clear hb2 hb12 hb1
  obtain ⟨v1, hv1⟩ : ∃ x, x = if S.validate n [a] ≠ 0 then S.validate n [a] else S.validate n [b] := ⟨_, rfl⟩
  rw [← hv1] at con
  have Hcon := Lib.hid con; clear con
  by_cases h0 : v1 = 0
  · obtain ⟨z1, z2⟩ := S.check_zero (cs := [a]) (l := [b]) hv1 h0
    subst h0
    obtain ⟨hn0, hn4, _, hcl⟩ := validate_zero z1
    obtain ⟨_, _, _, hcl2⟩ := validate_zero z2
    obtain ⟨N, rfl⟩ : ∃ N : Nat, n = N := ⟨n.toNat, by omega⟩
    have e0 : S.resolveOf (N : Int) a b v = if v < 1 ∨ (N : Int) < v then ([], 1) else if v ∈ a ∧ -v ∈ b then ((S.rng N (2 * N + 1)).filter (S.resP a b v), 0) else ([], 4) := by
      rw [S.resolveOf, if_neg (by simp [z1]), if_neg (by simp [z2]), S.resList_eq (by simpa using hcl) (by simpa using hcl2)]
    rw [e0]
    clear hv1 e0 z1 z2 hcl hcl2
    by_cases hvr : v < 1 ∨ (N : Int) < v
    · rw [if_pos hvr]
      rcases (show v < 1 ∨ ¬ v < 1 ∧ (N : Int) < v by omega) with hvr | ⟨hvr, hvn⟩
      all_goals
        subst hw2
        go_enter Try.func21, Try.ntmps21
        go_wp2_with fail
        refine Hcon.out.mono ?_
        rintro e w1 ⟨rfl, rfl⟩
        go_wp2
        go_ret2
        exact ⟨_, _, _, rfl, SlAt.nil_ _, Hb2.out⟩
    · rw [if_neg hvr]
      obtain ⟨hvr1, hvr2⟩ : 1 ≤ v ∧ v ≤ N := by omega
      clear hvr
      have Hc1 := Lib.hid (refHas_any A m c a v w2 (HA.out.below (monoInt _) Hb2.out))
      have Hc2 := Lib.hid (refHas_any D p d b (-v) w2 (HD.out.below (monoInt _) Hb2.out))
      by_cases hmem : v ∈ a
      · rw [decide_eq_true hmem] at Hc1
        by_cases hmem2 : -v ∈ b
        · rw [if_pos ⟨hmem, hmem2⟩]
          rw [decide_eq_true hmem2] at Hc2
          clear hmem hmem2
          subst hw2
          go_enter Try.func21, Try.ntmps21
          go_wp2_with fail
          refine Hcon.out.mono ?_
          rintro e w1 ⟨rfl, rfl⟩
          go_wp2_with fail
          refine Hc1.out.mono ?_
          rintro e w3 ⟨rfl, rfl⟩
          go_wp2_with fail
          refine Hc2.out.mono ?_
          rintro e w3 ⟨rfl, rfl⟩
          clear Hcon Hc1 Hc2
          go_wp2
          go_loopg [11, 12] (2 * N + 2) (fun g u i wr => ∃ (j L : Nat) (l : Int), j ≤ 2 * N + 1 ∧ i = .int .i64 l ∧ l = -(N : Int) + j ∧ g + j = 2 * N + 2 ∧ L ≤ j ∧ OwnAt wr 3 1 u L (((S.rng N j).filter (S.resP a b v)).map (Value.int .i64)) ∧ Below w.heap.size w wr ∧ (∀ g, u.ownBlock = some g → w.heap.size ≤ g))
          case atStart => exact ⟨0, 0, -(N : Int), Nat.zero_le _, rfl, by omega, rfl, Nat.le_refl _, OwnAt.nil_ _ _ _, Hb2.out, fun g hg => by simp [Value.ownBlock] at hg⟩
          case round =>
            obtain ⟨j, L, l, hj, rfl, hlj, hgk, hL, hown, hbw, hob⟩ := hrel
            have hl1 : -4000 ≤ l := by omega
            have hl2 : l ≤ 4001 := by omega
            have Hgk := Lib.hid hgk; clear hgk
            have Hown := Lib.hid hown; clear hown
            have Hob := Lib.hid hob; clear hob
            have Hlj := Lib.hid hlj; clear hlj
            by_cases hlt : l ≤ (N : Int)
            · have hsucc : (S.rng N (j + 1)).filter (S.resP a b v) = (S.rng N j).filter (S.resP a b v) ++ if S.resP a b v l then [l] else [] := by
                rw [S.rng_succ, List.filter_append, ← Hlj.out]
                cases hp : S.resP a b v l <;> simp [hp]
              have Hsucc := Lib.hid hsucc; clear hsucc
              have Hca := Lib.hid (refHas_any A m c a l wr (HA.out.below (monoInt _) hbw))
              have Hcb := Lib.hid (refHas_any D p d b l wr (HD.out.below (monoInt _) hbw))
              by_cases e1 : l = v
              · have e2 : l ≠ -v := by omega
                have q1 : (l != v) = false := by simpa using e1
                have q2 : (l != -v) = true := by simpa using e2
                by_cases mb : l ∈ b
                · have Hp := Lib.hid (show S.resP a b v l = true by rw [S.resP, q1, q2, decide_eq_true mb]; simp)
                  rw [decide_eq_true mb] at Hcb
                  clear e1 e2 mb
                  go_wp2_with fail
                  refine Hcb.out.mono ?_
                  rintro e w3 ⟨rfl, rfl⟩
                  go_wp2_with (at_builtin; refine wpList_append_one _ rfl (.tmp 66) (.tmp 68) 23 rfl 3 (.int .i64 0) 8 Try.underlying23 Try.infoInt rfl _ L _ rfl Hown.out (.int .i64 l) rfl 3 rfl (by omega) (by omega) ?_; intro v' w4 hown' hgr hat)
                  have Hown' := Lib.hid hown'.appended; clear hown'
                  obtain ⟨hb1, hv1⟩ := below_append hbw hbw.size Hob.out hgr hat
                  have Hv1 := Lib.hid hv1; clear hv1 hgr hat
                  go_wp2
                  go_roundg (gk - 1)
                  case measure => have := Hgk.out; omega
                  case rel =>
                    have := Hgk.out
                    have := Hlj.out
                    exact ⟨j + 1, L + 1, l + 1, by omega, by go_num, by omega, by omega, by omega, by rw [Hsucc.out, Hp.out]; simpa using Hown'.out, hb1, Hv1.out⟩
                · have Hp := Lib.hid (show S.resP a b v l = false by rw [S.resP, q1, q2, decide_eq_false mb]; simp)
                  rw [decide_eq_false mb] at Hcb
                  clear e1 e2 mb
                  go_wp2_with fail
                  refine Hcb.out.mono ?_
                  rintro e w3 ⟨rfl, rfl⟩
                  go_wp2
                  go_roundg (gk - 1)
                  case measure => have := Hgk.out; omega
                  case rel =>
                    have := Hgk.out
                    have := Hlj.out
                    exact ⟨j + 1, L, l + 1, by omega, by go_num, by omega, by omega, by omega, by rw [Hsucc.out, Hp.out]; simpa using Hown.out, hbw, Hob.out⟩
              · have q1 : (l != v) = true := by simpa using e1
                by_cases ma : l ∈ a
                · have Hp := Lib.hid (show S.resP a b v l = true by rw [S.resP, q1, decide_eq_true ma]; simp)
                  rw [decide_eq_true ma] at Hca
                  clear e1 ma
                  go_wp2_with fail
                  refine Hca.out.mono ?_
                  rintro e w3 ⟨rfl, rfl⟩
                  go_wp2_with (at_builtin; refine wpList_append_one _ rfl (.tmp 66) (.tmp 68) 23 rfl 3 (.int .i64 0) 8 Try.underlying23 Try.infoInt rfl _ L _ rfl Hown.out (.int .i64 l) rfl 3 rfl (by omega) (by omega) ?_; intro v' w4 hown' hgr hat)
                  have Hown' := Lib.hid hown'.appended; clear hown'
                  obtain ⟨hb1, hv1⟩ := below_append hbw hbw.size Hob.out hgr hat
                  have Hv1 := Lib.hid hv1; clear hv1 hgr hat
                  go_wp2
                  go_roundg (gk - 1)
                  case measure => have := Hgk.out; omega
                  case rel =>
                    have := Hgk.out
                    have := Hlj.out
                    exact ⟨j + 1, L + 1, l + 1, by omega, by go_num, by omega, by omega, by omega, by rw [Hsucc.out, Hp.out]; simpa using Hown'.out, hb1, Hv1.out⟩
                · by_cases e2 : l = -v
                  · have q2 : (l != -v) = false := by simpa using e2
                    have Hp := Lib.hid (show S.resP a b v l = false by rw [S.resP, q1, q2, decide_eq_false ma]; simp)
                    rw [decide_eq_false ma] at Hca
                    clear e1 e2 ma
                    go_wp2_with fail
                    refine Hca.out.mono ?_
                    rintro e w3 ⟨rfl, rfl⟩
                    go_wp2
                    go_roundg (gk - 1)
                    case measure => have := Hgk.out; omega
                    case rel =>
                      have := Hgk.out
                      have := Hlj.out
                      exact ⟨j + 1, L, l + 1, by omega, by go_num, by omega, by omega, by omega, by rw [Hsucc.out, Hp.out]; simpa using Hown.out, hbw, Hob.out⟩
                  · have q2 : (l != -v) = true := by simpa using e2
                    by_cases mb : l ∈ b
                    · have Hp := Lib.hid (show S.resP a b v l = true by rw [S.resP, q1, q2, decide_eq_false ma, decide_eq_true mb]; simp)
                      rw [decide_eq_false ma] at Hca
                      rw [decide_eq_true mb] at Hcb
                      clear e1 e2 ma mb
                      go_wp2_with fail
                      refine Hca.out.mono ?_
                      rintro e w3 ⟨rfl, rfl⟩
                      go_wp2_with fail
                      refine Hcb.out.mono ?_
                      rintro e w3 ⟨rfl, rfl⟩
                      go_wp2_with (at_builtin; refine wpList_append_one _ rfl (.tmp 66) (.tmp 68) 23 rfl 3 (.int .i64 0) 8 Try.underlying23 Try.infoInt rfl _ L _ rfl Hown.out (.int .i64 l) rfl 3 rfl (by omega) (by omega) ?_; intro v' w4 hown' hgr hat)
                      have Hown' := Lib.hid hown'.appended; clear hown'
                      obtain ⟨hb1, hv1⟩ := below_append hbw hbw.size Hob.out hgr hat
                      have Hv1 := Lib.hid hv1; clear hv1 hgr hat
                      go_wp2
                      go_roundg (gk - 1)
                      case measure => have := Hgk.out; omega
                      case rel =>
                        have := Hgk.out
                        have := Hlj.out
                        exact ⟨j + 1, L + 1, l + 1, by omega, by go_num, by omega, by omega, by omega, by rw [Hsucc.out, Hp.out]; simpa using Hown'.out, hb1, Hv1.out⟩
                    · have Hp := Lib.hid (show S.resP a b v l = false by rw [S.resP, q1, q2, decide_eq_false ma, decide_eq_false mb]; simp)
                      rw [decide_eq_false ma] at Hca
                      rw [decide_eq_false mb] at Hcb
                      clear e1 e2 ma mb
                      go_wp2_with fail
                      refine Hca.out.mono ?_
                      rintro e w3 ⟨rfl, rfl⟩
                      go_wp2_with fail
                      refine Hcb.out.mono ?_
                      rintro e w3 ⟨rfl, rfl⟩
                      go_wp2
                      go_roundg (gk - 1)
                      case measure => have := Hgk.out; omega
                      case rel =>
                        have := Hgk.out
                        have := Hlj.out
                        exact ⟨j + 1, L, l + 1, by omega, by go_num, by omega, by omega, by omega, by rw [Hsucc.out, Hp.out]; simpa using Hown.out, hbw, Hob.out⟩
            · have := Hlj.out
              obtain rfl : j = 2 * N + 1 := by omega
              clear this
              have hown := Hown.out
              obtain ⟨A6, c6, rfl⟩ := hown.form
              have hlen : ((S.rng N (2 * N + 1)).filter (S.resP a b v)).length = L := by simpa using hown.1
              have Hs := Lib.hid hown.slInts; clear hown
              have Hlen := Lib.hid hlen; clear hlen
              go_wp2
              go_ret2
              exact ⟨A6, L, c6, rfl, Hs.out, hbw⟩
        · rw [if_neg (fun h => hmem2 h.2)]
          rw [decide_eq_false hmem2] at Hc2
          clear hmem hmem2
          subst hw2
          go_enter Try.func21, Try.ntmps21
          go_wp2_with fail
          refine Hcon.out.mono ?_
          rintro e w1 ⟨rfl, rfl⟩
          go_wp2_with fail
          refine Hc1.out.mono ?_
          rintro e w3 ⟨rfl, rfl⟩
          go_wp2_with fail
          refine Hc2.out.mono ?_
          rintro e w3 ⟨rfl, rfl⟩
          go_wp2
          go_ret2
          exact ⟨_, _, _, rfl, SlAt.nil_ _, Hb2.out⟩
      · rw [if_neg (fun h => hmem h.1)]
        rw [decide_eq_false hmem] at Hc1
        clear hmem Hc2
        subst hw2
        go_enter Try.func21, Try.ntmps21
        go_wp2_with fail
        refine Hcon.out.mono ?_
        rintro e w1 ⟨rfl, rfl⟩
        go_wp2_with fail
        refine Hc1.out.mono ?_
        rintro e w3 ⟨rfl, rfl⟩
        go_wp2
        go_ret2
        exact ⟨_, _, _, rfl, SlAt.nil_ _, Hb2.out⟩
  · have hb : (v1 != 0) = true := by simpa using h0
    have e1 : S.resolveOf n a b v = ([], v1) := by
      unfold S.resolveOf
      split at hv1
      · rename_i h1; rw [if_pos h1, hv1]
      · rename_i h1; rw [if_neg h1, if_pos (by rw [← hv1]; exact h0), hv1]
    rw [e1]
    clear hv1 h0 e1
    subst hw2
    go_enter Try.func21, Try.ntmps21
    go_wp2_with fail
    refine Hcon.out.mono ?_
    rintro e w1 ⟨rfl, rfl⟩
    go_wp2
    go_ret2
    exact ⟨_, _, _, rfl, SlAt.nil_ _, Hb2.out⟩
end Go.Proofs.Ytceelipcclfdmaa
