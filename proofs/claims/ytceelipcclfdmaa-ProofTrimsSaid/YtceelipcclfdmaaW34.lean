/- Walks: models by the reference; ProofModels. -/
import Derived.Test.YtceelipcclfdmaaW33
namespace Go.Proofs.Ytceelipcclfdmaa
open Go.RowKit Go.Maps Go.Sort

theorem any_take_succ {α : Type} {p : α → Bool} {xs : List α} {k : Nat} {x : α} (h : xs[k]? = some x) : (xs.take (k + 1)).any p = ((xs.take k).any p || p x) := by rw [take_succ_of h]; simp
theorem all_take_succ {α : Type} {p : α → Bool} {xs : List α} {k : Nat} {x : α} (h : xs[k]? = some x) : (xs.take (k + 1)).all p = ((xs.take k).all p && p x) := by rw [take_succ_of h]; simp

set_option maxRecDepth 100000 in
set_option maxHeartbeats 4000000 in
theorem refCheckModel_any (n : Int) (A B : Option Addr) (m c p d : Nat) (cs : List (List Int)) (model : List Bool) (w : World) (hA : SlAt (SlR (IntR .i64)) w A m cs) (hB : SlAt BoolR w B p model) :
    Calls Try.prog 23 #[.int .i64 n, .slice A m c, .slice B p d] w (SomeII w (S.checkModel n cs model)) := by
  have Hcon := Lib.hid (refValidate_any n A m c cs w hA)
  have hal := hA.le
  have hpl := hB.le
  have HA := Lib.hid hA; clear hA
  have HB := Lib.hid hB; clear hB
  by_cases h0 : S.validate n cs = 0
  · rw [h0] at Hcon
    obtain ⟨hn0, hn4, _, hcl⟩ := validate_zero h0
    obtain ⟨N, rfl⟩ : ∃ N : Nat, n = N := ⟨n.toNat, by omega⟩
    have hpm := HB.out.len
    by_cases hlen : p = N
    · subst hlen
      have e1 : S.checkModel (p : Int) cs model = match S.firstBad (S.sat model) cs with | some k => ((k : Int), 8) | none => (0, 0) := by
        rw [S.checkModel, if_neg (by simp [h0]), if_neg (by simp [hpm])]
        cases S.firstBad (S.sat model) cs <;> rfl
      have E1 := Lib.hid e1; clear e1
      have HC := Lib.hid hcl; clear hcl
      have hbN : ((p : Int) != (p : Int)) = false := by simp
      clear h0
      generalize S.checkModel (p : Int) cs model = r at E1 ⊢
      go_enter Try.func23, Try.ntmps23
      go_wp2_with fail
      refine Hcon.out.mono ?_
      rintro e w' ⟨rfl, rfl⟩
      go_wp2
      go_loop [9] (fun i => ∃ k : Nat, k ≤ m ∧ i = .int .i64 k ∧ Hid ((cs.take k).all (S.sat model) = true)) (fun i => m - (intOf i).toNat)
      case atStart => exact ⟨0, Nat.zero_le _, rfl, by show _ = _; simp⟩
      case round =>
        obtain ⟨k, hk, rfl, HT⟩ := hrel
        by_cases hlt : k < m
        · obtain ⟨x, b, off, u, hx, rfl, _, h1, A1, c1, rfl, s1⟩ := HA.out.at_ hlt
          have hxl := s1.le
          have hxc := List.all_eq_true.1 HC.out x (List.mem_of_getElem? hx)
          have Hx := Lib.hid hx; clear hx
          have Hxc := Lib.hid hxc; clear hxc
          have Hs1 := Lib.hid s1; clear s1
          go_wp2
          go_loop [10, 11] (fun t j => ∃ q : Nat, q ≤ x.length ∧ j = .int .i64 q ∧ ∃ bb, t = .bool bb ∧ Hid (bb = (x.take q).any (S.tl model))) (fun _ j => x.length - (intOf j).toNat)
          case atStart => exact ⟨0, Nat.zero_le _, rfl, false, rfl, by show _ = _; simp⟩
          case round =>
            obtain ⟨q, hq, rfl, bb, rfl, HB2⟩ := hrel
            by_cases hlt2 : q < x.length
            · obtain ⟨y, b3, off3, u3, hy, hA3, _, h3, rfl⟩ := Hs1.out.at_ hlt2
              subst hA3
              have hyl := lit_at Hxc.out hy
              have hyl' : -(p : Int) ≤ y ∧ y ≤ p ∧ y ≠ 0 := by simpa [S.isLit] using hyl
              have Hy := Lib.hid hy; clear hy hyl
              cases bb
              · by_cases hpos : 0 < y
                · obtain ⟨kk, rfl⟩ : ∃ kk : Nat, y = (kk : Int) + 1 := ⟨(y - 1).toNat, by omega⟩
                  obtain ⟨mb, b4, off4, u4, hmb, rfl, _, h4, rfl⟩ := HB.out.at_ (k := kk) (by omega)
                  have htl : S.tl model ((kk : Int) + 1) = mb := by
                    unfold S.tl
                    rw [show ((kk : Int) + 1).natAbs - 1 = kk by omega, decide_eq_true (by omega), List.getD, hmb]; cases mb <;> rfl
                  have Htl := Lib.hid htl; clear htl hmb
                  cases mb
                  all_goals
                    go_wp2
                    go_round
                    case rel => exact ⟨q + 1, by omega, by go_num, _, rfl, by show _ = _; rw [any_take_succ Hy.out, ← HB2.out, Htl.out]; rfl⟩
                    case measure => simp [intOf]; omega
                · obtain ⟨kk, rfl⟩ : ∃ kk : Nat, y = -((kk : Int) + 1) := ⟨(-y - 1).toNat, by omega⟩
                  obtain ⟨mb, b4, off4, u4, hmb, rfl, _, h4, rfl⟩ := HB.out.at_ (k := kk) (by omega)
                  have htl : S.tl model (-((kk : Int) + 1)) = !mb := by
                    unfold S.tl
                    rw [show (-((kk : Int) + 1)).natAbs - 1 = kk by omega, decide_eq_false (by omega), List.getD, hmb]; cases mb <;> rfl
                  have Htl := Lib.hid htl; clear htl hmb
                  cases mb
                  all_goals
                    go_wp2
                    go_round
                    case rel => exact ⟨q + 1, by omega, by go_num, _, rfl, by show _ = _; rw [any_take_succ Hy.out, ← HB2.out, Htl.out]; rfl⟩
                    case measure => simp [intOf]; omega
              · go_wp2
                go_round
                case rel => exact ⟨q + 1, by omega, by go_num, _, rfl, by show _ = _; rw [any_take_succ Hy.out, ← HB2.out]; rfl⟩
                case measure => simp [intOf]; omega
            · have hfin : bb = S.sat model x := by
                have := HB2.out
                rw [take_all rfl (by omega)] at this
                exact this
              cases bb
              · have Hfin := Lib.hid hfin; clear hfin
                go_wp2
                go_ret2
                refine ⟨?_, Below.refl _ _⟩
                obtain rfl : r = ((k : Int), 8) := by rw [E1.out, S.firstBad_at HT.out Hx.out Hfin.out.symm]
                rfl
              · have Hfin := Lib.hid hfin; clear hfin
                go_wp2
                go_round
                case rel => exact ⟨k + 1, by omega, by go_num, by show _ = _; rw [all_take_succ Hx.out, HT.out, ← Hfin.out]; rfl⟩
                case measure => simp [intOf]; omega
        · have hall := HT.out
          rw [take_all HA.out.len (by omega)] at hall
          have Hall := Lib.hid hall; clear hall
          go_wp2
          go_ret2
          refine ⟨?_, Below.refl _ _⟩
          obtain rfl : r = ((0 : Int), 0) := by rw [E1.out, S.firstBad_all Hall.out]
          rfl
    · have hb : ((p : Int) != (N : Int)) = true := by simp only [bne_iff_ne, ne_eq]; omega
      have e1 : S.checkModel (N : Int) cs model = (0, 1) := by
        rw [S.checkModel, if_neg (by simp [h0]), if_pos (by rw [hpm]; omega)]
      rw [e1]
      clear e1 h0 hcl hlen
      go_enter Try.func23, Try.ntmps23
      go_wp2_with fail
      refine Hcon.out.mono ?_
      rintro e w' ⟨rfl, rfl⟩
      go_wp2
      go_ret2
      exact ⟨rfl, Below.refl _ _⟩
  · obtain ⟨v, hv⟩ : ∃ v, v = S.validate n cs := ⟨_, rfl⟩
    rw [← hv] at h0 Hcon
    have hb : (v != 0) = true := by simpa using h0
    have e1 : S.checkModel n cs model = (0, v) := by rw [S.checkModel, if_pos (by rw [← hv]; exact h0), hv]
    rw [e1]
    clear hv h0 e1
    go_enter Try.func23, Try.ntmps23
    go_wp2_with fail
    refine Hcon.out.mono ?_
    rintro e w' ⟨rfl, rfl⟩
    go_wp2
    go_ret2
    exact ⟨rfl, Below.refl _ _⟩

set_option maxHeartbeats 1000000 in
theorem proofModels_any (n : Int) (A B : Option Addr) (m c p d : Nat) (cs : List (List Int)) (model : List Bool) (w : World) (hA : SlAt (SlR (IntR .i64)) w A m cs) (hB : SlAt BoolR w B p model) :
    Calls Try.prog 7 #[.int .i64 n, .slice A m c, .slice B p d] w (SomeTrue w) := by
  have Hc1 := Lib.hid (many_any n A m c cs w hA)
  have hbl := hB.le
  have Hc3 := Lib.hid (checkModel_any n A B m c p d cs model w hA hB)
  have HA := Lib.hid hA; clear hA
  have HB := Lib.hid hB; clear hB
  have Hc4 : Hid (∀ W, Below w.heap.size w W → Calls Try.prog 23 #[.int .i64 n, .slice A m c, .slice B p d] W (SomeII W (S.checkModel n cs model))) :=
    Lib.hid fun W hb => refCheckModel_any n A B m c p d cs model W (HA.out.below (monoSl (monoInt _)) hb) (HB.out.below monoBool hb)
  have Hc5 : Hid (∀ W, Below w.heap.size w W → Calls Try.prog 24 #[.int .i64 n, .slice A m c] W fun e w' => e = .returned (.int .i64 (S.validate n cs)) ∧ Below W.heap.size W w') :=
    Lib.hid fun W hb => validate_any n A m c cs W (HA.out.below (monoSl (monoInt _)) hb)
  have Hc6 : Hid (∀ W, Below w.heap.size w W → Calls Try.prog 25 #[.int .i64 n, .slice A m c] W fun e w' => e = .returned (.int .i64 (S.validate n cs)) ∧ W = w') :=
    Lib.hid fun W hb => refValidate_any n A m c cs W (HA.out.below (monoSl (monoInt _)) hb)
  cases hm : S.many n cs
  · rw [hm] at Hc1
    clear hm
    by_cases hp : 5000 < p
    · go_enter Try.func7, Try.ntmps7
      go_wp2_with fail
      refine Hc1.out.mono ?_
      rintro e w' ⟨rfl, rfl⟩
      go_wp2_with fail
      refine (known_any w).mono ?_
      rintro e w3 ⟨rfl, hb3⟩
      go_wp2
      go_ret
      exact ⟨rfl, hb3⟩
    · generalize S.checkModel n cs model = s at Hc3 Hc4
      generalize S.validate n cs = v at Hc5 Hc6
      obtain ⟨s1, s2⟩ := s
      have hb1 : (s1 == s1) = true := by simp
      have hb2 : (s2 == s2) = true := by simp
      have hbv : (v == v) = true := by simp
      go_enter Try.func7, Try.ntmps7
      go_wp2_with fail
      refine Hc1.out.mono ?_
      rintro e w' ⟨rfl, rfl⟩
      go_wp2_with fail
      refine Hc3.out.mono ?_
      rintro e w1 ⟨rfl, hb1'⟩
      have Hb1 := Lib.hid hb1'; clear hb1'
      go_wp2_with fail
      refine (Hc4.out w1 Hb1.out).mono ?_
      rintro e w2 ⟨rfl, hb2'⟩
      have Hb2 := Lib.hid (Hb1.out.trans (hb2'.mono Hb1.out.size)); clear hb2'
      go_wp2_with fail
      refine (Hc5.out w2 Hb2.out).mono ?_
      rintro e w3 ⟨rfl, hb3'⟩
      have Hb3 := Lib.hid (Hb2.out.trans (hb3'.mono Hb2.out.size)); clear hb3'
      go_wp2_with fail
      refine (Hc6.out w3 Hb3.out).mono ?_
      rintro e w4 ⟨rfl, rfl⟩
      go_wp2_with fail
      refine (known_any w3).mono ?_
      rintro e w5 ⟨rfl, hb5⟩
      go_wp2
      go_ret
      exact ⟨rfl, Hb3.out.trans (hb5.mono Hb3.out.size)⟩
  · rw [hm] at Hc1
    clear hm
    go_enter Try.func7, Try.ntmps7
    go_wp2_with fail
    refine Hc1.out.mono ?_
    rintro e w' ⟨rfl, rfl⟩
    go_wp2_with fail
    refine (known_any w).mono ?_
    rintro e w3 ⟨rfl, hb3⟩
    go_wp2
    go_ret
    exact ⟨rfl, hb3⟩
end Go.Proofs.Ytceelipcclfdmaa
