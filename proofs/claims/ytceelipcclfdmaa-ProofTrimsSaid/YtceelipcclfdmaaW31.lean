/- Walks of the laws: ProofChecks and ProofFollows. -/
import Derived.Test.YtceelipcclfdmaaW30
namespace Go.Proofs.Ytceelipcclfdmaa
open Go.RowKit Go.Maps Go.Sort

theorem S.long_false {cs : List (List Int)} (h : S.long cs = false) : cs.length ≤ 400 ∧ (∀ x ∈ cs, x.length ≤ 100) ∧ tot cs ≤ 40000 := by
  unfold S.long at h
  simp only [Bool.or_eq_false_iff, decide_eq_false_iff_not, List.any_eq_false, decide_eq_true_eq] at h
  obtain ⟨h1, h2⟩ := h
  have h2' : ∀ x ∈ cs, x.length ≤ 100 := fun x hx => by have := h2 x hx; omega
  refine ⟨by omega, h2', ?_⟩
  have h3 : tot cs ≤ 100 * cs.length := by
    clear h1 h2
    induction cs with
    | nil => simp [tot]
    | cons y r ih =>
      have h4 := h2' y (List.mem_cons_self ..)
      have h5 := ih fun x hx => h2' x (List.mem_cons_of_mem _ hx)
      simp [tot] at h5 ⊢
      omega
  omega
theorem S.many_false {n : Int} {cs : List (List Int)} (h : S.many n cs = false) : S.long cs = false := by
  unfold S.many at h
  simp only [Bool.or_eq_false_iff] at h
  exact h.2

set_option maxHeartbeats 1000000 in
theorem proofChecks_any (n : Int) (A D : Option Addr) (m c p d : Nat) (cs l : List (List Int)) (w : World) (hA : SlAt (SlR (IntR .i64)) w A m cs) (hD : SlAt (SlR (IntR .i64)) w D p l) :
    Calls Try.prog 4 #[.int .i64 n, .slice A m c, .slice D p d] w (SomeTrue w) := by
  have Hc1 := Lib.hid (many_any n A m c cs w hA)
  have Hc2 := Lib.hid (long_any D p d l w hD)
  have HA := Lib.hid hA; clear hA
  have HD := Lib.hid hD; clear hD
  cases hm : S.many n cs
  · rw [hm] at Hc1
    cases hl : S.long l
    · rw [hl] at Hc2
      have h1 := S.long_false (S.many_false hm)
      have h2 := S.long_false hl
      have Hc3 := Lib.hid (checkE_any n A D m c p d cs l w HA.out HD.out (by omega) (by omega))
      have Hc4 : Hid (∀ w1, Below w.heap.size w w1 → Calls Try.prog 17 #[.int .i64 n, .slice A m c, .slice D p d] w1 (SomeII w1 (S.check n cs l))) :=
        Lib.hid fun w1 hb => refCheckE_any n A D m c p d cs l w1 (HA.out.below (monoSl (monoInt _)) hb) (HD.out.below (monoSl (monoInt _)) hb) fun x hx => by have := h2.2.1 x hx; omega
      clear hm hl h1 h2
      generalize S.check n cs l = r at Hc3 Hc4
      obtain ⟨r1, r2⟩ := r
      have hb1 : (r1 == r1) = true := by simp
      have hb2 : (r2 == r2) = true := by simp
      go_enter Try.func4, Try.ntmps4
      go_wp2_with fail
      refine Hc1.out.mono ?_
      rintro e w' ⟨rfl, rfl⟩
      go_wp2_with fail
      refine Hc2.out.mono ?_
      rintro e w' ⟨rfl, rfl⟩
      go_wp2_with fail
      refine Hc3.out.mono ?_
      rintro e w1 ⟨rfl, hb1'⟩
      have Hb1 := Lib.hid hb1'; clear hb1'
      go_wp2_with fail
      refine (Hc4.out w1 Hb1.out).mono ?_
      rintro e w2 ⟨rfl, hb2'⟩
      have Hb2 := Lib.hid (Hb1.out.trans (hb2'.mono Hb1.out.size)); clear hb2'
      go_wp2_with fail
      refine (known_any w2).mono ?_
      rintro e w3 ⟨rfl, hb3⟩
      go_wp2
      go_ret
      exact ⟨rfl, Hb2.out.trans (hb3.mono Hb2.out.size)⟩
    · rw [hl] at Hc2
      clear hm hl
      go_enter Try.func4, Try.ntmps4
      go_wp2_with fail
      refine Hc1.out.mono ?_
      rintro e w' ⟨rfl, rfl⟩
      go_wp2_with fail
      refine Hc2.out.mono ?_
      rintro e w' ⟨rfl, rfl⟩
      go_wp2_with fail
      refine (known_any w).mono ?_
      rintro e w3 ⟨rfl, hb3⟩
      go_wp2
      go_ret
      exact ⟨rfl, hb3⟩
  · rw [hm] at Hc1
    clear hm
    go_enter Try.func4, Try.ntmps4
    go_wp2_with fail
    refine Hc1.out.mono ?_
    rintro e w' ⟨rfl, rfl⟩
    go_wp2_with fail
    refine (known_any w).mono ?_
    rintro e w3 ⟨rfl, hb3⟩
    go_wp2
    go_ret
    exact ⟨rfl, hb3⟩
end Go.Proofs.Ytceelipcclfdmaa
