/- Walks of the laws: ProofTrims. -/
import Derived.Test.YtceelipcclfdmaaW43
namespace Go.Proofs.Ytceelipcclfdmaa
open Go.RowKit Go.Maps Go.Sort
set_option linter.unusedVariables false

theorem S.trimOf_zero {n : Int} {cs l : List (List Int)} (h : (S.trimOf n cs l).2 = 0) : S.check n cs (S.trimOf n cs l).1 = (((S.trimOf n cs l).1.length : Int), 0) ∧ S.trimOf n cs (S.trimOf n cs l).1 = ((S.trimOf n cs l).1, 0) ∧ (S.trimOf n cs l).1.length ≤ l.length ∧ ∀ x ∈ (S.trimOf n cs l).1, x ∈ l := by
  have he : (S.check n cs l).2 = 0 := by
    unfold S.trimOf at h
    split at h
    · rename_i h1; exact absurd h h1
    · rename_i h1; simpa using h1
  have e0 : S.trimOf n cs l = (S.trim cs l, 0) := by rw [S.trimOf, if_neg (by simp [he])]
  rw [e0]
  obtain ⟨v1, v2, hb, hlast⟩ := S.check_zero' he
  obtain ⟨t1, t2, t3⟩ := S.trim_proof (S.failure_none.2 ⟨hb, hlast⟩)
  obtain ⟨n0, n4, hll, hcl⟩ := validate_zero v2
  have v3 : S.validate n (S.trim cs l) = 0 := by
    unfold S.validate
    rw [if_neg (by simp; omega), if_pos (List.all_eq_true.2 fun x hx => List.all_eq_true.1 hcl x (S.trim_sub x hx))]
  have c1 : S.check n cs (S.trim cs l) = (((S.trim cs l).length : Int), 0) := by
    rw [S.check, if_neg (by simp [v1]), if_neg (by simp [v3]), t1]
  exact ⟨c1, by rw [S.trimOf, if_neg (by simp [c1]), t2], t3, S.trim_sub⟩

theorem same_any (A B : Option Addr) (n m c d : Nat) (xs ys : List (List Int)) (w : World) (hA : SlAt (SlR (IntR .i64)) w A n xs) (hB : SlAt (SlR (IntR .i64)) w B m ys) :
    Calls Try.prog 28 #[.slice A n c, .slice B m d] w fun e w' => e = .returned (.bool (decide (xs = ys))) ∧ Dr w w' := by
  have Hcon := Lib.hid (sameTables_any A B n m c d xs ys w hA hB)
  clear hA hB
  go_enter Try.func28, Try.ntmps28
  go_wp2_with fail
  refine Hcon.out.mono ?_
  rintro e w' ⟨rfl, hd⟩
  go_wp2
  go_ret
  exact ⟨rfl, hd⟩

set_option maxHeartbeats 2000000 in
set_option maxRecDepth 100000 in
theorem proofTrims_any (n : Int) (A D : Option Addr) (m c p d : Nat) (cs l : List (List Int)) (w : World) (hA : SlAt (SlR (IntR .i64)) w A m cs) (hD : SlAt (SlR (IntR .i64)) w D p l) :
    Calls Try.prog 9 #[.int .i64 n, .slice A m c, .slice D p d] w (SomeTrue w) := by
  have Hc1 := Lib.hid (many_any n A m c cs w hA)
  have Hc2 := Lib.hid (long_any D p d l w hD)
  have hdl := hD.le
  have HA := Lib.hid hA; clear hA
  have HD := Lib.hid hD; clear hD
  cases hm : S.many n cs
  · rw [hm] at Hc1
    cases hl : S.long l
    · rw [hl] at Hc2
      by_cases hp : 40 < p
      · clear hm hl
        go_enter Try.func9, Try.ntmps9
        go_wp2_with fail
        refine Hc1.out.mono ?_
        rintro e w' ⟨rfl, rfl⟩
        go_wp2_with fail
        refine Hc2.out.mono ?_
        rintro e w' ⟨rfl, rfl⟩
        go_wp2_with fail
        refine (known_any w).mono ?_
        rintro e w3 ⟨rfl, hb3⟩
        go_wp2
        go_ret
        exact ⟨rfl, hb3⟩
      · have h1 := S.long_false (S.many_false hm)
        have h2 := S.long_false hl
        have htc : tot cs ≤ 10000000 := by omega
        have Hc3 := Lib.hid (trimP_any n A D m c p d cs l w HA.out HD.out htc h2.1 h2.2.1)
        have Hc4 : Hid (∀ W, Below w.heap.size w W → Calls Try.prog 27 #[.int .i64 n, .slice A m c, .slice D p d] W (SomeTabE W (S.trimOf n cs l))) :=
          Lib.hid fun W hb => trimR_any n A D m c p d cs l W (HA.out.below (monoSl (monoInt _)) hb) (HD.out.below (monoSl (monoInt _)) hb) h2.1 h2.2.1
        have Hz := Lib.hid (fun h => S.trimOf_zero (n := n) (cs := cs) (l := l) h)
        have H2 := Lib.hid h2; clear h2 h1 hm hl
        generalize S.trimOf n cs l = r at Hc3 Hc4 Hz
        obtain ⟨R, er⟩ := r
        have hbe : (er != er) = false := by simp
        by_cases he : er = 0
        · have hz := Hz.out he
          have Hzz := Lib.hid hz; clear hz Hz
          subst he
          go_enter Try.func9, Try.ntmps9
          go_wp2_with fail
          refine Hc1.out.mono ?_
          rintro e w' ⟨rfl, rfl⟩
          go_wp2_with fail
          refine Hc2.out.mono ?_
          rintro e w' ⟨rfl, rfl⟩
          go_wp2_with fail
          refine Hc3.out.mono ?_
          rintro e w1 ⟨A1, m1, c1, rfl, s1, hb1⟩
          have hlm : R.length = m1 := s1.len
          have Hs1 := Lib.hid s1; clear s1
          have Hb1 := Lib.hid hb1; clear hb1
          go_wp2_with fail
          refine (Hc4.out w1 Hb1.out).mono ?_
          rintro e w2 ⟨A2, m2, c2, rfl, s2, hb2⟩
          have con5 := same_any A1 A2 m1 m2 c1 c2 R R w2 (Hs1.out.below (monoSl (monoInt _)) hb2) s2
          rw [decide_eq_true rfl] at con5
          have Hcon5 := Lib.hid con5; clear con5 s2
          have Hs2 := Lib.hid (Hs1.out.below (monoSl (monoInt _)) hb2)
          have Hb2 := Lib.hid (Hb1.out.trans (hb2.mono Hb1.out.size)); clear hb2
          go_wp2_with fail
          refine Hcon5.out.mono ?_
          rintro e w3 ⟨rfl, hd3⟩
          have Hs3 := Lib.hid (Hs2.out.dr (monoSl (monoInt _)) hd3)
          have Hb3 := Lib.hid (Hb2.out.dr hd3); clear hd3
          have hR400 : R.length ≤ 400 := Nat.le_trans Hzz.out.2.2.1 H2.out.1
          have hR100 : ∀ x ∈ R, x.length ≤ 100 := fun x hx => H2.out.2.1 x (Hzz.out.2.2.2 x hx)
          have con6 := checkE_any n A A1 m c m1 c1 cs R w3 (HA.out.below (monoSl (monoInt _)) Hb3.out) Hs3.out htc (by have := tot_small hR400 hR100; omega)
          rw [Hzz.out.1] at con6
          have Hcon6 := Lib.hid con6; clear con6
          have HR1 := Lib.hid hR400; clear hR400
          have HR2 := Lib.hid hR100; clear hR100
          have hlmi : ((R.length : Int) == (m1 : Int)) = true := by rw [hlm]; simp
          rw [hlm] at hlmi
          have Hlm := Lib.hid hlm; clear hlm
          go_wp2_with fail
          refine Hcon6.out.mono ?_
          rintro e w4 ⟨rfl, hb4⟩
          have hs4 := Hs3.out.below (monoSl (monoInt _)) hb4
          have Hb4 := Lib.hid (Hb3.out.trans (hb4.mono Hb3.out.size)); clear hb4
          have con7 := trimP_any n A A1 m c m1 c1 cs R w4 (HA.out.below (monoSl (monoInt _)) Hb4.out) hs4 htc HR1.out HR2.out
          rw [Hzz.out.2.1] at con7
          have Hcon7 := Lib.hid con7; clear con7
          have Hs4 := Lib.hid hs4; clear hs4
          rw [Hlm.out]
          go_wp2_with fail
          refine Hcon7.out.mono ?_
          rintro e w5 ⟨A5, m5, c5, rfl, s5, hb5⟩
          have con8 := same_any A5 A1 m5 m1 c5 c1 R R w5 s5 (Hs4.out.below (monoSl (monoInt _)) hb5)
          rw [decide_eq_true rfl] at con8
          have Hcon8 := Lib.hid con8; clear con8 s5
          have Hb5 := Lib.hid (Hb4.out.trans (hb5.mono Hb4.out.size)); clear hb5
          go_wp2_with fail
          refine Hcon8.out.mono ?_
          rintro e w6 ⟨rfl, hd6⟩
          have Hb6 := Lib.hid (Hb5.out.dr hd6); clear hd6
          go_wp2_with fail
          refine (known_any w6).mono ?_
          rintro e w7 ⟨rfl, hb7⟩
          go_wp2
          go_ret
          exact ⟨rfl, Hb6.out.trans (hb7.mono Hb6.out.size)⟩
        · have hb : (er != 0) = true := by simpa using he
          clear he Hz
          go_enter Try.func9, Try.ntmps9
          go_wp2_with fail
          refine Hc1.out.mono ?_
          rintro e w' ⟨rfl, rfl⟩
          go_wp2_with fail
          refine Hc2.out.mono ?_
          rintro e w' ⟨rfl, rfl⟩
          go_wp2_with fail
          refine Hc3.out.mono ?_
          rintro e w1 ⟨A1, m1, c1, rfl, s1, hb1⟩
          have Hs1 := Lib.hid s1; clear s1
          have Hb1 := Lib.hid hb1; clear hb1
          go_wp2_with fail
          refine (Hc4.out w1 Hb1.out).mono ?_
          rintro e w2 ⟨A2, m2, c2, rfl, s2, hb2⟩
          have con5 := same_any A1 A2 m1 m2 c1 c2 R R w2 (Hs1.out.below (monoSl (monoInt _)) hb2) s2
          rw [decide_eq_true rfl] at con5
          have Hcon5 := Lib.hid con5; clear con5 s2
          have Hb2 := Lib.hid (Hb1.out.trans (hb2.mono Hb1.out.size)); clear hb2
          go_wp2_with fail
          refine Hcon5.out.mono ?_
          rintro e w3 ⟨rfl, hd3⟩
          have Hb3 := Lib.hid (Hb2.out.dr hd3); clear hd3
          go_wp2_with fail
          refine (known_any w3).mono ?_
          rintro e w7 ⟨rfl, hb7⟩
          go_wp2
          go_ret
          exact ⟨rfl, Hb3.out.trans (hb7.mono Hb3.out.size)⟩
    · rw [hl] at Hc2
      clear hm hl
      go_enter Try.func9, Try.ntmps9
      go_wp2_with fail
      refine Hc1.out.mono ?_
      rintro e w' ⟨rfl, rfl⟩
      go_wp2_with fail
      refine Hc2.out.mono ?_
      rintro e w' ⟨rfl, rfl⟩
      go_wp2_with fail
      refine (known_any w).mono ?_
      rintro e w3 ⟨rfl, hb3⟩
      go_wp2
      go_ret
      exact ⟨rfl, hb3⟩
  · rw [hm] at Hc1
    clear hm
    go_enter Try.func9, Try.ntmps9
    go_wp2_with fail
    refine Hc1.out.mono ?_
    rintro e w' ⟨rfl, rfl⟩
    go_wp2_with fail
    refine (known_any w).mono ?_
    rintro e w3 ⟨rfl, hb3⟩
    go_wp2
    go_ret
    exact ⟨rfl, hb3⟩
end Go.Proofs.Ytceelipcclfdmaa
