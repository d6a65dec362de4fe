/- Walks of the program: Units; ProofUnits. -/
import Derived.Test.YtceelipcclfdmaaW37
namespace Go.Proofs.Ytceelipcclfdmaa
open Go.RowKit Go.Maps Go.Sort
set_option linter.unusedVariables false

/-- Units of the program where the clauses or the literals are refused. -/
theorem units_refused (n : Int) (A D : Option Addr) (m c p d : Nat) (cs : List (List Int)) (given : List Int) (w : World) (hA : SlAt (SlR (IntR .i64)) w A m cs) (hD : SlAt (IntR .i64) w D p given) (h : S.validate n cs ≠ 0 ∨ (S.validate n cs = 0 ∧ S.isClause n given = false)) :
    Calls Try.prog 12 #[.int .i64 n, .slice A m c, .slice D p d] w (SomeUnitsP w (S.unitsOf n cs given)) := by
  have hb0 : Below w.heap.size w (w.alloc (.cells #[.int .i64 n] 3)) := (Below.refl _ _).alloc (Nat.le_refl _) _
  have con := validate_any n A m c cs _ (hA.below (monoSl (monoInt _)) hb0)
  have HD := Lib.hid hD; clear hD hA
  have hcell0 : (w.alloc (.cells #[.int .i64 n] 3)).cell? ⟨w.heap.size, 0, none⟩ = some (.int .i64 n) := cell_alloc_box w _ _
  have hmf : ∀ (fn : Fn) (first cap : Array Value) (w : World), (Instr.makeFunc fn first cap).run Try.prog w = .ok (.func fn first cap) w := fun _ _ _ _ => rfl
  rcases h with h | ⟨h, hg⟩
  · obtain ⟨v, hv⟩ : ∃ v, v = S.validate n cs := ⟨_, rfl⟩
    have e1 : S.unitsOf n cs given = ([], false, v) := by rw [S.unitsOf, if_pos h, hv]
    rw [← hv] at con h
    have hb : (v != 0) = true := by simpa using h
    rw [e1]
    have Hcon := Lib.hid con
    clear con hv h e1
    go_enter Try.func12, Try.ntmps12
    go_wp2_with fail
    refine Hcon.out.mono ?_
    rintro e w1 ⟨rfl, hb1⟩
    go_wp2
    go_ret3
    exact ⟨_, _, _, rfl, SlAt.nil_ _, hb0.trans (hb1.mono hb0.size)⟩
  · obtain ⟨hn0, hn4, _, _⟩ := validate_zero h
    have e1 : S.unitsOf n cs given = ([], false, 1) := by rw [S.unitsOf, if_neg (by simp [h]), if_pos hg]
    rw [e1]
    rw [h] at con
    have Hcon := Lib.hid con; clear con h e1
    have HG := Lib.hid hg; clear hg
    go_enter Try.func12, Try.ntmps12
    go_wp2_with fail
    refine Hcon.out.mono ?_
    rintro e w1 ⟨rfl, hb1⟩
    have Hb1 := Lib.hid (hb0.trans (hb1.mono hb0.size))
    have hcell : w1.cell? ⟨w.heap.size, 0, none⟩ = some (.int .i64 n) := (hb1.cell (p := ⟨w.heap.size, 0, none⟩) (by simp)).trans hcell0
    have Hcell := Lib.hid hcell; clear hcell hcell0 hb0 hb1
    have con2 := hasU_any (fun x => !S.isLit n x) w.heap.size D p d given w1 (HD.out.below (monoInt _) Hb1.out) (fun y _ W hW => (cloU_any n y w.heap.size W (by omega) (by omega) (by
        obtain ⟨q, rfl⟩ := hW; exact Hcell.out)).mono fun e w' h => ⟨h.1, h.2 ▸ Dr.refl _⟩)
    rw [any_notLit, HG.out] at con2
    have Hcon2 := Lib.hid con2; clear con2
    go_wp2_with fail
    refine Hcon2.out.mono ?_
    rintro e w2 ⟨rfl, hd2⟩
    have Hb2 := Lib.hid (Hb1.out.dr hd2); clear hd2
    go_wp2
    go_ret3
    exact ⟨_, _, _, rfl, SlAt.nil_ _, Hb2.out⟩

theorem unitsE_any (n : Int) (A D : Option Addr) (m c p d : Nat) (cs : List (List Int)) (given : List Int) (w : World) (hA : SlAt (SlR (IntR .i64)) w A m cs) (hD : SlAt (IntR .i64) w D p given) (ht : tot cs ≤ 10000000) :
    Calls Try.prog 12 #[.int .i64 n, .slice A m c, .slice D p d] w (SomeUnitsP w (S.unitsOf n cs given)) := by
  by_cases h0 : S.validate n cs = 0
  · obtain ⟨hn0, hn4, _, _⟩ := validate_zero h0
    obtain ⟨N, rfl⟩ : ∃ N : Nat, n = N := ⟨n.toNat, by omega⟩
    cases hg : S.isClause (N : Int) given
    · exact units_refused N A D m c p d cs given w hA hD (.inr ⟨h0, hg⟩)
    · by_cases hi : S.Incons cs given
      · rw [S.unitsOf_incons h0 hg hi]
        exact (units_conflict N A D m c p d cs given w hA hD h0 hg hi ht).mono fun e w' h => ⟨none, 0, 0, h.1, SlAt.nil_ _, h.2⟩
      · rw [S.unitsOf_list h0 hg hi]
        exact units_list N A D m c p d cs given w hA hD h0 hg hi ht
  · exact units_refused n A D m c p d cs given w hA hD (.inl h0)

set_option maxHeartbeats 2000000 in
theorem proofUnits_any (n : Int) (A D : Option Addr) (m c p d : Nat) (cs : List (List Int)) (given : List Int) (w : World) (hA : SlAt (SlR (IntR .i64)) w A m cs) (hD : SlAt (IntR .i64) w D p given) :
    Calls Try.prog 3 #[.int .i64 n, .slice A m c, .slice D p d] w (SomeTrue w) := by
  have Hc1 := Lib.hid (many_any n A m c cs w hA)
  have hdl := hD.le
  have HA := Lib.hid hA; clear hA
  have HD := Lib.hid hD; clear hD
  cases hm : S.many n cs
  · rw [hm] at Hc1
    by_cases hp : 1000 < p
    · clear hm
      go_enter Try.func3, Try.ntmps3
      go_wp2_with fail
      refine Hc1.out.mono ?_
      rintro e w' ⟨rfl, rfl⟩
      go_wp2_with fail
      refine (known_any w).mono ?_
      rintro e w3 ⟨rfl, hb3⟩
      go_wp2
      go_ret
      exact ⟨rfl, hb3⟩
    · have h1 := S.long_false (S.many_false hm)
      have Hc3 := Lib.hid (unitsE_any n A D m c p d cs given w HA.out HD.out (by omega))
      have Hc4 : Hid (∀ W, Below w.heap.size w W → Calls Try.prog 13 #[.int .i64 n, .slice A m c, .slice D p d] W (SomeUnitsR W (S.unitsOf n cs given))) :=
        Lib.hid fun W hb => refUnits_any n A D m c p d cs given W (HA.out.below (monoSl (monoInt _)) hb) (HD.out.below (monoInt _) hb)
      clear hm h1
      generalize S.unitsOf n cs given = r at Hc3 Hc4
      obtain ⟨l, b, er⟩ := r
      have hbe : (er == er) = true := by simp
      cases b
      all_goals
        go_enter Try.func3, Try.ntmps3
        go_wp2_with fail
        refine Hc1.out.mono ?_
        rintro e w' ⟨rfl, rfl⟩
        go_wp2_with fail
        refine Hc3.out.mono ?_
        rintro e w1 ⟨A1, m1, c1, rfl, s1, hb1⟩
        have Hs1 := Lib.hid s1; clear s1
        have Hb1 := Lib.hid hb1; clear hb1
        go_wp2_with fail
        refine (Hc4.out w1 Hb1.out).mono ?_
        rintro e w2 ⟨A2, c2, rfl, s2, hb2⟩
        have con5 := sameInts_any A1 A2 m1 l.length c1 c2 l l w2 (Hs1.out.below (monoInt _) hb2) s2
        rw [decide_eq_true rfl] at con5
        have Hcon5 := Lib.hid con5; clear con5 s2
        have Hb2 := Lib.hid (Hb1.out.trans (hb2.mono Hb1.out.size)); clear hb2
        go_wp2_with fail
        refine Hcon5.out.mono ?_
        rintro e w3 ⟨rfl, hd3⟩
        have Hb3 := Lib.hid (Hb2.out.dr hd3); clear hd3
        go_wp2_with fail
        refine (known_any w3).mono ?_
        rintro e w6 ⟨rfl, hb6⟩
        go_wp2
        go_ret
        exact ⟨rfl, Hb3.out.trans (hb6.mono Hb3.out.size)⟩
  · rw [hm] at Hc1
    clear hm
    go_enter Try.func3, Try.ntmps3
    go_wp2_with fail
    refine Hc1.out.mono ?_
    rintro e w' ⟨rfl, rfl⟩
    go_wp2_with fail
    refine (known_any w).mono ?_
    rintro e w3 ⟨rfl, hb3⟩
    go_wp2
    go_ret
    exact ⟨rfl, hb3⟩
end Go.Proofs.Ytceelipcclfdmaa
