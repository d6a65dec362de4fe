/- Walks of the laws: ProofResolves. -/
import Derived.Test.YtceelipcclfdmaaW35
namespace Go.Proofs.Ytceelipcclfdmaa
open Go.RowKit Go.Maps Go.Sort
set_option linter.unusedVariables false

namespace S
theorem resolveOf_zero {n : Int} {a b : List Int} {v : Int} (h : (resolveOf n a b v).2 = 0) : validate n [a] = 0 ∧ validate n [b] = 0 ∧ v ∈ a ∧ -v ∈ b ∧ (resolveOf n a b v).1 = resList a b v := by
  unfold resolveOf at h ⊢
  by_cases h1 : validate n [a] ≠ 0
  · rw [if_pos h1] at h; exact absurd h h1
  · rw [if_neg h1] at h ⊢
    by_cases h2 : validate n [b] ≠ 0
    · rw [if_pos h2] at h; exact absurd h h2
    · rw [if_neg h2] at h ⊢
      by_cases h3 : v < 1 ∨ n < v
      · rw [if_pos h3] at h; cases h
      · rw [if_neg h3] at h ⊢
        by_cases h4 : v ∈ a ∧ -v ∈ b
        · rw [if_pos h4] at h ⊢
          exact ⟨by simpa using h1, by simpa using h2, h4.1, h4.2, rfl⟩
        · rw [if_neg h4] at h; cases h
theorem resolve_follows {n : Int} {a b : List Int} {v : Int} (h : (resolveOf n a b v).2 = 0) : followsOf n [a, b] (resolveOf n a b v).1 = (true, 0) := by
  obtain ⟨h1, h2, h3, h4, h5⟩ := resolveOf_zero h
  obtain ⟨n0, n4, _, c1⟩ := validate_zero h1
  obtain ⟨_, _, _, c2⟩ := validate_zero h2
  have c1' : isClause n a = true := by simpa using c1
  have c2' : isClause n b = true := by simpa using c2
  have v1 : validate n [a, b] = 0 := by
    unfold validate
    rw [if_neg (by simp; omega), if_pos (by simp [c1', c2'])]
  have v2 : validate n [resList a b v] = 0 := by
    unfold validate
    rw [if_neg (by simp; omega), if_pos (by simpa using resList_clause c1' c2')]
  rw [h5, followsOf, if_neg (by simp [v1]), if_neg (by simp [v2]), res_fol h3 h4]
theorem resolve_length {n : Int} {a b : List Int} {v : Int} (h : (resolveOf n a b v).2 = 0) : (resolveOf n a b v).1.length ≤ a.length + b.length := by
  rw [(resolveOf_zero h).2.2.2.2]
  unfold resList
  refine Nat.le_trans (Lib.compact_length_le _) ?_
  rw [length_srt, List.length_append]
  exact Nat.add_le_add (List.length_filter_le _ _) (List.length_filter_le _ _)
end S

/-- A list of two clauses, as the text builds it. -/
theorem slTwo {w : World} {A D : Option Addr} {n c m d : Nat} {xs ys : List Int} (h : SlAt (IntR .i64) w A n xs) (h' : SlAt (IntR .i64) w D m ys) (t : TypeId) : SlAt (SlR (IntR .i64)) (w.alloc (.cells #[.slice A n c, .slice D m d] t)) (some ⟨w.heap.size, 0, none⟩) 2 [xs, ys] := by
  have own := OwnAt.of_new (s := 1) (e := t) w #[.slice A n c, .slice D m d] 2 rfl (by simp [maxLen])
  refine own.slAt rfl fun k x u hx hu => ?_
  match k, hx, hu with
  | 0, hx, hu => simp at hx hu; subst hx; subst hu; obtain rfl := h.len; exact ⟨_, _, rfl, slUp h _⟩
  | 1, hx, hu => simp at hx hu; subst hx; subst hu; obtain rfl := h'.len; exact ⟨_, _, rfl, slUp h' _⟩
  | k + 2, hx, hu => simp at hx

set_option maxHeartbeats 4000000 in
set_option maxRecDepth 100000 in
theorem proofResolves_any (n : Int) (A D : Option Addr) (m c p d : Nat) (a b : List Int) (v : Int) (w : World) (hA : SlAt (IntR .i64) w A m a) (hD : SlAt (IntR .i64) w D p b) (hn : -9223372036854775808 ≤ n ∧ n ≤ 9223372036854775807) (hv : -9223372036854775808 ≤ v ∧ v ≤ 9223372036854775807) :
    Calls Try.prog 6 #[.int .i64 n, .agg #[.slice A m c, .slice D p d, .int .i64 v]] w (SomeTrue w) := by
  obtain ⟨w0, hw0⟩ : ∃ W, W = w.alloc (.cells #[.slice A m c, .slice D p d, .int .i64 v] 38) := ⟨_, rfl⟩
  have hb0 : Below w.heap.size w w0 := by rw [hw0]; exact (Below.refl _ _).alloc (Nat.le_refl _) _
  have hs0 : w0.heap.size = w.heap.size + 1 := by rw [hw0]; simp
  have hblk : w0.heap[w.heap.size]? = some (.cells #[.slice A m c, .slice D p d, .int .i64 v] 38 (0, 0)) := by rw [hw0]; exact heap_alloc_new w _
  have hcell0 : ∀ W, Below w0.heap.size w0 W → W.cell? ⟨w.heap.size, 0, none⟩ = some (.slice A m c) := fun W hb => by
    rw [hb.cell (by rw [hs0]; exact Nat.lt_succ_self _), cell_of_row w0 w.heap.size 0 _ _ _ hblk]; rfl
  have hcell1 : ∀ W, Below w0.heap.size w0 W → W.cell? ⟨w.heap.size, 1, none⟩ = some (.slice D p d) := fun W hb => by
    rw [hb.cell (by rw [hs0]; exact Nat.lt_succ_self _), cell_of_row w0 w.heap.size 1 _ _ _ hblk]; rfl
  have hcell2 : ∀ W, Below w0.heap.size w0 W → W.cell? ⟨w.heap.size, 2, none⟩ = some (.int .i64 v) := fun W hb => by
    rw [hb.cell (by rw [hs0]; exact Nat.lt_succ_self _), cell_of_row w0 w.heap.size 2 _ _ _ hblk]; rfl
  have HA := Lib.hid (hA.below (monoInt _) hb0); clear hA
  have HD := Lib.hid (hD.below (monoInt _) hb0); clear hD
  have hal := HA.out.le
  have hdl := HD.out.le
  have HB0 := Lib.hid hb0; clear hb0
  have Hcell0 := Lib.hid hcell0; clear hcell0
  have Hcell1 := Lib.hid hcell1; clear hcell1
  have Hcell2 := Lib.hid hcell2; clear hcell2
  have hz0 := Hcell0.out w0 (Below.refl _ _)
  have hz1 := Hcell1.out w0 (Below.refl _ _)
  have hz2 := Hcell2.out w0 (Below.refl _ _)
  clear hblk
  have fin : ∀ W, Below w0.heap.size w0 W → ∀ W', Below W.heap.size W W' → Below w.heap.size w W' := fun W h W' h' => HB0.out.trans ((h.trans (h'.mono h.size)).mono HB0.out.size)
  have Hfin := Lib.hid fin; clear fin
  by_cases hbig : (300 < n ∧ n ≤ 4000) ∨ 1000 < m ∨ 1000 < p
  · rcases (show (300 < n ∧ n ≤ 4000) ∨ (¬ 300 < n ∧ 1000 < m) ∨ (300 < n ∧ ¬ n ≤ 4000 ∧ 1000 < m) ∨ (¬ 300 < n ∧ ¬ 1000 < m ∧ 1000 < p) ∨ (300 < n ∧ ¬ n ≤ 4000 ∧ ¬ 1000 < m ∧ 1000 < p) by omega) with ⟨g1, g2⟩ | ⟨g1, g2⟩ | ⟨g1, g2, g3⟩ | ⟨g1, g2, g3⟩ | ⟨g1, g2, g3, g4⟩
    all_goals
      clear hbig
      subst hw0
      go_enter Try.func6, Try.ntmps6
      go_wp2_with fail
      refine (known_any _).mono ?_
      rintro e w3 ⟨rfl, hb3⟩
      go_wp2
      go_ret
      exact ⟨rfl, Hfin.out _ (Below.refl _ _) _ hb3⟩
  · obtain ⟨g1, g2, g3⟩ : ¬ (300 < n ∧ n ≤ 4000) ∧ ¬ 1000 < m ∧ ¬ 1000 < p := by omega
    have Hc3 := Lib.hid (resolve_any n A D m c p d a b v w0 HA.out HD.out hv (by omega) (by omega))
    have Hc4 : Hid (∀ W, Below w0.heap.size w0 W → Calls Try.prog 21 #[.int .i64 n, .slice A m c, .slice D p d, .int .i64 v] W (SomeIntsE W (S.resolveOf n a b v))) :=
      Lib.hid fun W hb => refResolve_any n A D m c p d a b v W (HA.out.below (monoInt _) hb) (HD.out.below (monoInt _) hb) hv
    have Hfol := Lib.hid (fun h => S.resolve_follows (n := n) (a := a) (b := b) (v := v) h)
    have Hlen := Lib.hid (fun h => S.resolve_length (n := n) (a := a) (b := b) (v := v) h)
    have hla := HA.out.len
    have hlb := HD.out.len
    have Hla := Lib.hid hla; clear hla
    have Hlb := Lib.hid hlb; clear hlb
    generalize S.resolveOf n a b v = r at Hc3 Hc4 Hfol Hlen
    obtain ⟨R, er⟩ := r
    have hbe : (er != er) = false := by simp
    clear hbig
    rcases (show (¬ 300 < n) ∨ (300 < n ∧ ¬ n ≤ 4000) by omega) with g1 | ⟨g1, g4⟩
    all_goals
      by_cases he : er = 0
      · have hfol : S.followsOf n [a, b] R = (true, 0) := Hfol.out he
        have hlenR : R.length ≤ a.length + b.length := Hlen.out he
        have hlenR2 : R.length ≤ 100000000 := by have := Hla.out; have := Hlb.out; omega
        have htot : tot [a, b] ≤ 10000000 := by have := Hla.out; have := Hlb.out; simp [tot]; omega
        have HlenR := Lib.hid hlenR2; clear hlenR2 hlenR
        have Htot := Lib.hid htot; clear htot
        have Hfl := Lib.hid hfol; clear hfol Hfol Hlen
        subst he
        try subst hw0
        go_enter Try.func6, Try.ntmps6
        go_wp2_with fail
        refine Hc3.out.mono ?_
        rintro e w1 ⟨A1, m1, c1, rfl, s1, hb1⟩
        have Hs1 := Lib.hid s1; clear s1
        have Hb1 := Lib.hid hb1; clear hb1
        have hy0 := Hcell0.out w1 Hb1.out
        have hy1 := Hcell1.out w1 Hb1.out
        have hy2 := Hcell2.out w1 Hb1.out
        go_wp2_with fail
        refine (Hc4.out w1 Hb1.out).mono ?_
        rintro e w2 ⟨A2, m2, c2, rfl, s2, hb2⟩
        have con5 := sameInts_any A1 A2 m1 m2 c1 c2 R R w2 (Hs1.out.below (monoInt _) hb2) s2
        rw [decide_eq_true rfl] at con5
        have Hcon5 := Lib.hid con5; clear con5 s2
        have Hs2 := Lib.hid (Hs1.out.below (monoInt _) hb2)
        have Hb2 := Lib.hid (Hb1.out.trans (hb2.mono Hb1.out.size)); clear hb2
        go_wp2_with fail
        refine Hcon5.out.mono ?_
        rintro e w3 ⟨rfl, hd3⟩
        have Hs3 := Lib.hid (Hs2.out.dr (monoInt _) hd3)
        have Hb3 := Lib.hid (Hb2.out.dr hd3); clear hd3
        have hx0 := Hcell0.out w3 Hb3.out
        have hx1 := Hcell1.out w3 Hb3.out
        have hup : Below w3.heap.size w3 (w3.alloc (.cells #[.slice A m c, .slice D p d] 23)) := (Below.refl _ _).alloc (Nat.le_refl _) _
        have con6 := followsE_any n (some ⟨w3.heap.size, 0, none⟩) A1 2 2 m1 c1 [a, b] R (w3.alloc (.cells #[.slice A m c, .slice D p d] 23)) (slTwo (HA.out.below (monoInt _) Hb3.out) (HD.out.below (monoInt _) Hb3.out) _) (Hs3.out.below (monoInt _) hup) (by rw [← Hs3.out.len]; exact HlenR.out) Htot.out
        rw [Hfl.out] at con6
        have Hcon6 := Lib.hid con6; clear con6
        have Hb4 := Lib.hid (Hb3.out.trans (hup.mono Hb3.out.size)); clear hup
        clear hy0 hy1 hy2 hz0 hz1 hz2
        go_wp2_with fail
        refine Hcon6.out.mono ?_
        rintro e w5 ⟨rfl, hb5⟩
        have Hb5 := Lib.hid (Hb4.out.trans (hb5.mono Hb4.out.size)); clear hb5
        go_wp2_with fail
        refine (known_any w5).mono ?_
        rintro e w6 ⟨rfl, hb6⟩
        go_wp2
        go_ret
        exact ⟨rfl, Hfin.out _ Hb5.out _ hb6⟩
      · have hb : (er != 0) = true := by simpa using he
        clear he Hfol Hlen
        try subst hw0
        go_enter Try.func6, Try.ntmps6
        go_wp2_with fail
        refine Hc3.out.mono ?_
        rintro e w1 ⟨A1, m1, c1, rfl, s1, hb1⟩
        have Hs1 := Lib.hid s1; clear s1
        have Hb1 := Lib.hid hb1; clear hb1
        have hy0 := Hcell0.out w1 Hb1.out
        have hy1 := Hcell1.out w1 Hb1.out
        have hy2 := Hcell2.out w1 Hb1.out
        go_wp2_with fail
        refine (Hc4.out w1 Hb1.out).mono ?_
        rintro e w2 ⟨A2, m2, c2, rfl, s2, hb2⟩
        have con5 := sameInts_any A1 A2 m1 m2 c1 c2 R R w2 (Hs1.out.below (monoInt _) hb2) s2
        rw [decide_eq_true rfl] at con5
        have Hcon5 := Lib.hid con5; clear con5 s2
        have Hb2 := Lib.hid (Hb1.out.trans (hb2.mono Hb1.out.size)); clear hb2
        go_wp2_with fail
        refine Hcon5.out.mono ?_
        rintro e w3 ⟨rfl, hd3⟩
        have Hb3 := Lib.hid (Hb2.out.dr hd3); clear hd3
        go_wp2_with fail
        refine (known_any w3).mono ?_
        rintro e w6 ⟨rfl, hb6⟩
        go_wp2
        go_ret
        exact ⟨rfl, Hfin.out _ Hb3.out _ hb6⟩
end Go.Proofs.Ytceelipcclfdmaa
