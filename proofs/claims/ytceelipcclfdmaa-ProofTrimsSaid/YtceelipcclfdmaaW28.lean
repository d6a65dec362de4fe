/- Walks of the program: Resolve. -/
import Derived.Test.YtceelipcclfdmaaW27
namespace Go.Proofs.Ytceelipcclfdmaa
open Go.RowKit Go.Maps Go.Sort

namespace S
def resolveOf (n : Int) (a b : List Int) (v : Int) : List Int × Int :=
  if validate n [a] ≠ 0 then ([], validate n [a]) else if validate n [b] ≠ 0 then ([], validate n [b]) else
  if v < 1 ∨ n < v then ([], 1) else if v ∈ a ∧ -v ∈ b then (resList a b v, 0) else ([], 4)
end S
def SomeIntsE (w : World) (r : List Int × Int) (e : Ending) (w' : World) : Prop := ∃ A m c, e = .returned (.tuple #[.slice A m c, .int .i64 r.2]) ∧ SlAt (IntR .i64) w' A m r.1 ∧ Below w.heap.size w w'

theorem take_filter_succ {xs : List Int} {k : Nat} {x : Int} (p : Int → Bool) (h : xs[k]? = some x) : (xs.take (k + 1)).filter p = (xs.take k).filter p ++ if p x then [x] else [] := by
  rw [take_succ_of h, List.filter_append]
  cases hp : p x <;> simp [hp]

set_option maxRecDepth 100000 in
set_option maxHeartbeats 4000000 in
theorem resolve_any (n : Int) (A D : Option Addr) (m c p d : Nat) (a b : List Int) (v : Int) (w : World) (hA : SlAt (IntR .i64) w A m a) (hD : SlAt (IntR .i64) w D p b) (hv : -9223372036854775808 ≤ v ∧ v ≤ 9223372036854775807) (hm : m ≤ 100000000) (hp : p ≤ 100000000) :
    Calls Try.prog 20 #[.int .i64 n, .slice A m c, .slice D p d, .int .i64 v] w (SomeIntsE w (S.resolveOf n a b v)) := by
  have HA := Lib.hid hA; clear hA
  have HD := Lib.hid hD; clear hD
  obtain ⟨v1, hv1⟩ : ∃ x, x = S.validate n [a] := ⟨_, rfl⟩
  obtain ⟨v2, hv2⟩ : ∃ x, x = S.validate n [b] := ⟨_, rfl⟩
  have Hcon : Hid (Calls Try.prog 24 #[.int .i64 n, .slice (some ⟨w.heap.size, 0, none⟩) 1 1] (w.alloc (.cells #[.slice A m c] 23)) fun e w' => e = .returned (.int .i64 v1) ∧ Below (w.alloc (.cells #[.slice A m c] 23)).heap.size (w.alloc (.cells #[.slice A m c] 23)) w') :=
    Lib.hid (by rw [hv1]; exact validate_any n _ 1 1 [a] _ (slOne HA.out _))
  have Hcon2 : Hid (∀ w1, Below w.heap.size w w1 → Calls Try.prog 24 #[.int .i64 n, .slice (some ⟨w1.heap.size, 0, none⟩) 1 1] (w1.alloc (.cells #[.slice D p d] 23)) fun e w' => e = .returned (.int .i64 v2) ∧ Below (w1.alloc (.cells #[.slice D p d] 23)).heap.size (w1.alloc (.cells #[.slice D p d] 23)) w') :=
    Lib.hid fun w1 hb => by rw [hv2]; exact validate_any n _ 1 1 [b] _ (slOne (HD.out.below (monoInt _) hb) _)
  have HB0 := Lib.hid (show Below w.heap.size w (w.alloc (.cells #[.slice A m c] 23)) from (Below.refl _ _).alloc (Nat.le_refl _) _)
  by_cases h0 : v1 = 0
  · by_cases h2 : v2 = 0
    · subst h0
      subst h2
      obtain ⟨hn0, hn4, _, hcl⟩ := validate_zero hv1.symm
      obtain ⟨_, _, _, hcl2⟩ := validate_zero hv2.symm
      have Hcl := Lib.hid hcl; clear hcl
      have Hcl2 := Lib.hid hcl2; clear hcl2
      have e0 : S.resolveOf n a b v = if v < 1 ∨ n < v then ([], 1) else if v ∈ a ∧ -v ∈ b then (S.resList a b v, 0) else ([], 4) := by rw [S.resolveOf, if_neg (by rw [← hv1]; simp), if_neg (by rw [← hv2]; simp)]
      rw [e0]
      clear hv1 hv2 e0
      by_cases hvr : v < 1 ∨ n < v
      · rw [if_pos hvr]
        rcases (show v < 1 ∨ ¬ v < 1 ∧ n < v by omega) with hvr | ⟨hvr, hvn⟩
        all_goals
          go_enter Try.func20, Try.ntmps20
          go_wp2_with fail
          refine Hcon.out.mono ?_
          rintro e w1 ⟨rfl, hb1⟩
          have Hb1 := Lib.hid (HB0.out.trans (hb1.mono HB0.out.size)); clear hb1
          go_wp2_with fail
          refine (Hcon2.out w1 Hb1.out).mono ?_
          rintro e w2 ⟨rfl, hb2⟩
          have Hb2 := Lib.hid ((Hb1.out.alloc Hb1.out.size _).trans (hb2.mono (Nat.le_trans Hb1.out.size (by simp)))); clear hb2
          go_wp2
          go_ret2
          exact ⟨_, _, _, rfl, SlAt.nil_ _, Hb2.out⟩
      · rw [if_neg hvr]
        obtain ⟨hvr1, hvr2⟩ : 1 ≤ v ∧ v ≤ n := by omega
        clear hvr
        by_cases hmem : v ∈ a
        · by_cases hmem2 : -v ∈ b
          · rw [if_pos ⟨hmem, hmem2⟩]
            have hd1 : decide (v ∈ a) = true := decide_eq_true hmem
            have hd2 : decide (-v ∈ b) = true := decide_eq_true hmem2
            have Hd1 := Lib.hid hd1; clear hd1 hmem
            have Hd2 := Lib.hid hd2; clear hd2 hmem2
            have hla := HA.out.len
            have hlb := HD.out.len
            have Hla := Lib.hid hla; clear hla
            have Hlb := Lib.hid hlb; clear hlb
            go_enter Try.func20, Try.ntmps20
            go_wp2_with fail
            refine Hcon.out.mono ?_
            rintro e w1 ⟨rfl, hb1⟩
            have Hb1 := Lib.hid (HB0.out.trans (hb1.mono HB0.out.size)); clear hb1
            go_wp2_with fail
            refine (Hcon2.out w1 Hb1.out).mono ?_
            rintro e w2 ⟨rfl, hb2⟩
            have Hb2 := Lib.hid ((Hb1.out.alloc Hb1.out.size _).trans (hb2.mono (Nat.le_trans Hb1.out.size (by simp)))); clear hb2
            go_wp2_with fail
            refine (contains_any A m c a v w2 (HA.out.below (monoInt _) Hb2.out)).mono ?_
            rintro e w3 ⟨rfl, rfl⟩
            rw [Hd1.out]
            go_wp2_with fail
            refine (contains_any D p d b (-v) w2 (HD.out.below (monoInt _) Hb2.out)).mono ?_
            rintro e w3 ⟨rfl, rfl⟩
            rw [Hd2.out]
            clear HB0
            go_wp2
            go_loopg [12, 51] (m + 1) (fun g u i wr => ∃ k L : Nat, k ≤ m ∧ i = .int .i64 (k : Int) ∧ g + k = m + 1 ∧ L ≤ k ∧ OwnAt wr 3 1 u L (((a.take k).filter (fun x => x != v)).map (Value.int .i64)) ∧ Below w.heap.size w wr ∧ (∀ g, u.ownBlock = some g → w.heap.size ≤ g))
            case atStart => exact ⟨0, 0, Nat.zero_le _, rfl, rfl, Nat.le_refl _, OwnAt.nil_ _ _ _, Hb2.out, fun g hg => by simp [Value.ownBlock] at hg⟩
            case round =>
              clear Hb1 Hb2
              obtain ⟨k, L, hk, rfl, hgk, hL, hown, hbw, hob⟩ := hrel
              have Hgk := Lib.hid hgk; clear hgk
              have Hown := Lib.hid hown; clear hown
              have Hob := Lib.hid hob; clear hob
              by_cases hlt : k < m
              · obtain ⟨x, bb, off, u, hx, rfl, _, h1, rfl⟩ := (HA.out.below (monoInt _) hbw).at_ hlt
                obtain ⟨hx1, hx2, hx3⟩ := isLit_wf ⟨by omega, by omega⟩ (lit_at (by simpa using Hcl.out) hx)
                have Hx := Lib.hid hx; clear hx hx3
                by_cases he : x = v
                · have hb : (x != v) = false := by simpa using he
                  have Hb := Lib.hid hb; clear he
                  go_wp2
                  go_roundg (gk - 1)
                  case measure => have := Hgk.out; omega
                  case rel =>
                    have := Hgk.out
                    exact ⟨k + 1, L, by omega, by go_num, by omega, by omega, by rw [take_filter_succ _ Hx.out]; simpa [Hb.out] using Hown.out, hbw, Hob.out⟩
                · have hb : (x != v) = true := by simpa using he
                  have Hb := Lib.hid hb; clear he
                  go_wp2_with (at_builtin; refine wpList_append_one _ rfl (.tmp 58) (.tmp 60) 23 rfl 3 (.int .i64 0) 8 Try.underlying23 Try.infoInt rfl _ L _ rfl Hown.out (.int .i64 x) rfl 3 rfl (by omega) (by omega) ?_; intro v' w4 hown' hgr hat)
                  have Hown' := Lib.hid hown'.appended; clear hown'
                  obtain ⟨hb1, hv1⟩ := below_append hbw hbw.size Hob.out hgr hat
                  have Hv1 := Lib.hid hv1; clear hv1 hgr hat
                  go_wp2
                  go_roundg (gk - 1)
                  case measure => have := Hgk.out; omega
                  case rel =>
                    have := Hgk.out
                    exact ⟨k + 1, L + 1, by omega, by go_num, by omega, by omega, by rw [take_filter_succ _ Hx.out]; simpa [Hb.out] using Hown'.out, hb1, Hv1.out⟩
              · have hown := Hown.out
                rw [take_all Hla.out (by omega)] at hown
                have Hown2 := Lib.hid hown; clear hown Hown
                go_wp2
                clear hlt
                go_loopg [12, 65] (p + 1) (fun g u i wr => ∃ k L : Nat, k ≤ p ∧ i = .int .i64 (k : Int) ∧ g + k = p + 1 ∧ L ≤ m + k ∧ OwnAt wr 3 1 u L ((a.filter (fun x => x != v) ++ (b.take k).filter (fun x => x != -v)).map (Value.int .i64)) ∧ Below w.heap.size w wr ∧ (∀ g, u.ownBlock = some g → w.heap.size ≤ g))
                case atStart => exact ⟨0, L, Nat.zero_le _, rfl, rfl, by omega, by simpa using Hown2.out, hbw, Hob.out⟩
                case round =>
                  clear hbw Hob Hown2 hL
                  obtain ⟨k2, L, hk2, rfl, hgk2, hL, hown, hbw, hob⟩ := hrel
                  have Hgk2 := Lib.hid hgk2; clear hgk2
                  have Hown := Lib.hid hown; clear hown
                  have Hob := Lib.hid hob; clear hob
                  by_cases hlt2 : k2 < p
                  · obtain ⟨x, bb, off, u, hx, rfl, _, h1, rfl⟩ := (HD.out.below (monoInt _) hbw).at_ hlt2
                    obtain ⟨hx1, hx2, hx3⟩ := isLit_wf ⟨by omega, by omega⟩ (lit_at (by simpa using Hcl2.out) hx)
                    have Hx := Lib.hid hx; clear hx hx3
                    by_cases he : x = -v
                    · have hb : (x != -v) = false := by simpa using he
                      have Hb := Lib.hid hb; clear he
                      go_wp2
                      go_roundg (gk - 1)
                      case measure => have := Hgk2.out; omega
                      case rel =>
                        have := Hgk2.out
                        exact ⟨k2 + 1, L, by omega, by go_num, by omega, by omega, by rw [take_filter_succ _ Hx.out]; simpa [Hb.out] using Hown.out, hbw, Hob.out⟩
                    · have hb : (x != -v) = true := by simpa using he
                      have Hb := Lib.hid hb; clear he
                      go_wp2_with (at_builtin; refine wpList_append_one _ rfl (.tmp 73) (.tmp 75) 23 rfl 3 (.int .i64 0) 8 Try.underlying23 Try.infoInt rfl _ L _ rfl Hown.out (.int .i64 x) rfl 3 rfl (by omega) (by omega) ?_; intro v' w4 hown' hgr hat)
                      have Hown' := Lib.hid hown'.appended; clear hown'
                      obtain ⟨hb1, hv1⟩ := below_append hbw hbw.size Hob.out hgr hat
                      have Hv1 := Lib.hid hv1; clear hv1 hgr hat
                      go_wp2
                      go_roundg (gk - 1)
                      case measure => have := Hgk2.out; omega
                      case rel =>
                        have := Hgk2.out
                        exact ⟨k2 + 1, L + 1, by omega, by go_num, by omega, by omega, by rw [take_filter_succ _ Hx.out]; simpa [Hb.out] using Hown'.out, hb1, Hv1.out⟩
                  · have hown := Hown.out
                    rw [take_all Hlb.out (by omega)] at hown
                    obtain ⟨A5, c5, hu5⟩ := hown.form
                    subst hu5
                    have Hcon5 := Lib.hid (sort_own _ L _ _ hown (by omega)); clear hown Hown
                    go_wp2_with fail
                    refine Hcon5.out.mono ?_
                    rintro e w5 ⟨rfl, hown5, hg5⟩
                    have Hb5 := Lib.hid (hbw.grown hg5 hbw.size Hob.out)
                    have Hcon6 := Lib.hid (compact_own _ L _ w5 hown5 (by omega)); clear hown5 hg5 Hcon5
                    go_wp2_with fail
                    refine Hcon6.out.mono ?_
                    rintro e w6 ⟨v', rfl, hob6, hown6, hg6⟩
                    obtain ⟨A6, c6, rfl⟩ := hown6.form
                    have Hs6 := Lib.hid hown6.slInts
                    have Hb6 := Lib.hid (Hb5.out.grown hg6 Hb5.out.size Hob.out)
                    clear hown6 hg6 hob6 Hcon6
                    go_wp2
                    go_ret2
                    exact ⟨A6, _, c6, rfl, Hs6.out, Hb6.out⟩
          · rw [if_neg (fun h => hmem2 h.2)]
            have hd1 : decide (v ∈ a) = true := decide_eq_true hmem
            have hd2 : decide (-v ∈ b) = false := decide_eq_false hmem2
            have Hd1 := Lib.hid hd1; clear hd1 hmem
            have Hd2 := Lib.hid hd2; clear hd2 hmem2
            go_enter Try.func20, Try.ntmps20
            go_wp2_with fail
            refine Hcon.out.mono ?_
            rintro e w1 ⟨rfl, hb1⟩
            have Hb1 := Lib.hid (HB0.out.trans (hb1.mono HB0.out.size)); clear hb1
            go_wp2_with fail
            refine (Hcon2.out w1 Hb1.out).mono ?_
            rintro e w2 ⟨rfl, hb2⟩
            have Hb2 := Lib.hid ((Hb1.out.alloc Hb1.out.size _).trans (hb2.mono (Nat.le_trans Hb1.out.size (by simp)))); clear hb2
            go_wp2_with fail
            refine (contains_any A m c a v w2 (HA.out.below (monoInt _) Hb2.out)).mono ?_
            rintro e w3 ⟨rfl, rfl⟩
            rw [Hd1.out]
            go_wp2_with fail
            refine (contains_any D p d b (-v) w2 (HD.out.below (monoInt _) Hb2.out)).mono ?_
            rintro e w3 ⟨rfl, rfl⟩
            rw [Hd2.out]
            go_wp2
            go_ret2
            exact ⟨_, _, _, rfl, SlAt.nil_ _, Hb2.out⟩
        · rw [if_neg (fun h => hmem h.1)]
          have hd1 : decide (v ∈ a) = false := decide_eq_false hmem
          have Hd1 := Lib.hid hd1; clear hd1 hmem
          go_enter Try.func20, Try.ntmps20
          go_wp2_with fail
          refine Hcon.out.mono ?_
          rintro e w1 ⟨rfl, hb1⟩
          have Hb1 := Lib.hid (HB0.out.trans (hb1.mono HB0.out.size)); clear hb1
          go_wp2_with fail
          refine (Hcon2.out w1 Hb1.out).mono ?_
          rintro e w2 ⟨rfl, hb2⟩
          have Hb2 := Lib.hid ((Hb1.out.alloc Hb1.out.size _).trans (hb2.mono (Nat.le_trans Hb1.out.size (by simp)))); clear hb2
          go_wp2_with fail
          refine (contains_any A m c a v w2 (HA.out.below (monoInt _) Hb2.out)).mono ?_
          rintro e w3 ⟨rfl, rfl⟩
          rw [Hd1.out]
          go_wp2
          go_ret2
          exact ⟨_, _, _, rfl, SlAt.nil_ _, Hb2.out⟩
    · subst h0
      have hb : (v2 != 0) = true := by simpa using h2
      have e1 : S.resolveOf n a b v = ([], v2) := by rw [S.resolveOf, if_neg (by rw [← hv1]; simp), if_pos (by rw [← hv2]; exact h2), hv2]
      rw [e1]
      clear hv1 hv2 e1 h2
      go_enter Try.func20, Try.ntmps20
      go_wp2_with fail
      refine Hcon.out.mono ?_
      rintro e w1 ⟨rfl, hb1⟩
      have Hb1 := Lib.hid (HB0.out.trans (hb1.mono HB0.out.size)); clear hb1
      go_wp2_with fail
      refine (Hcon2.out w1 Hb1.out).mono ?_
      rintro e w2 ⟨rfl, hb2⟩
      have Hb2 := Lib.hid ((Hb1.out.alloc Hb1.out.size _).trans (hb2.mono (Nat.le_trans Hb1.out.size (by simp)))); clear hb2
      go_wp2
      go_ret2
      exact ⟨_, _, _, rfl, SlAt.nil_ _, Hb2.out⟩
  · have hb : (v1 != 0) = true := by simpa using h0
    have e1 : S.resolveOf n a b v = ([], v1) := by rw [S.resolveOf, if_pos (by rw [← hv1]; exact h0), hv1]
    rw [e1]
    clear hv1 hv2 e1 h0 Hcon2
    go_enter Try.func20, Try.ntmps20
    go_wp2_with fail
    refine Hcon.out.mono ?_
    rintro e w1 ⟨rfl, hb1⟩
    have Hb1 := Lib.hid (HB0.out.trans (hb1.mono HB0.out.size)); clear hb1
    go_wp2
    go_ret2
    exact ⟨_, _, _, rfl, SlAt.nil_ _, Hb1.out⟩
end Go.Proofs.Ytceelipcclfdmaa
