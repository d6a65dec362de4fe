/- Walks of the laws: ProofFollows. -/
import Derived.Test.YtceelipcclfdmaaW31
namespace Go.Proofs.Ytceelipcclfdmaa
open Go.RowKit Go.Maps Go.Sort

theorem S.fol_self {cs : List (List Int)} {c : List Int} (h : c ∈ cs) : S.fol cs c = true :=
  S.fol_iff.2 (S.incons_all h fun m hm => .given_ (List.mem_map.2 ⟨m, hm, rfl⟩))
theorem S.validate_one {n : Int} {cs : List (List Int)} {c : List Int} (h : S.validate n cs = 0) (hc : c ∈ cs) : S.validate n [c] = 0 := by
  obtain ⟨h1, h2, _, h4⟩ := validate_zero h
  unfold S.validate
  rw [if_neg (by simp; omega), if_pos (by simpa using List.all_eq_true.1 h4 c hc)]
theorem S.followsOf_self {n : Int} {cs : List (List Int)} {c : List Int} (h : S.validate n cs = 0) (hc : c ∈ cs) : S.followsOf n cs c = (true, 0) := by
  rw [S.followsOf, if_neg (by simp [h]), if_neg (by simp [S.validate_one h hc]), S.fol_self hc]
theorem S.followsOf_zero {n : Int} {cs : List (List Int)} {c : List Int} (h : (S.followsOf n cs c).2 = 0) : S.validate n cs = 0 := by
  unfold S.followsOf at h
  split at h
  · exact h
  · rename_i h1; simpa using h1

set_option maxHeartbeats 2000000 in
set_option maxRecDepth 100000 in
theorem proofFollows_any (n : Int) (A D : Option Addr) (m c p d : Nat) (cs : List (List Int)) (cl : List Int) (w : World) (hA : SlAt (SlR (IntR .i64)) w A m cs) (hD : SlAt (IntR .i64) w D p cl) :
    Calls Try.prog 5 #[.int .i64 n, .slice A m c, .slice D p d] w (SomeTrue w) := by
  have Hc1 := Lib.hid (many_any n A m c cs w hA)
  have hdl := hD.le
  have hal := hA.le
  have HA := Lib.hid hA; clear hA
  have HD := Lib.hid hD; clear hD
  cases hm : S.many n cs
  · rw [hm] at Hc1
    by_cases hp : 1000 < p
    · clear hm
      go_enter Try.func5, Try.ntmps5
      go_wp2_with fail
      refine Hc1.out.mono ?_
      rintro e w' ⟨rfl, rfl⟩
      go_wp2_with fail
      refine (known_any w).mono ?_
      rintro e w3 ⟨rfl, hb3⟩
      go_wp2
      go_ret
      exact ⟨rfl, hb3⟩
    · have h1 := S.long_false (S.many_false hm)
      have Hlen := Lib.hid h1.2.1
      have hlen := h1.1
      have Hc3 : Hid (∀ w1 (A' : Option Addr) (p' d' : Nat) (x : List Int), Below w.heap.size w w1 → SlAt (IntR .i64) w1 A' p' x → p' ≤ 100000000 → Calls Try.prog 18 #[.int .i64 n, .slice A m c, .slice A' p' d'] w1 (SomeBE w1 (S.followsOf n cs x).1 (S.followsOf n cs x).2)) :=
        Lib.hid fun w1 A' p' d' x hb hx hp' => followsE_any n A A' m c p' d' cs x w1 (HA.out.below (monoSl (monoInt _)) hb) hx hp' (by have := h1.2.2; omega)
      have Hc4 : Hid (∀ w1, Below w.heap.size w w1 → Calls Try.prog 19 #[.int .i64 n, .slice A m c, .slice D p d] w1 (SomeBE w1 (S.followsOf n cs cl).1 (S.followsOf n cs cl).2)) :=
        Lib.hid fun w1 hb => refFollowsE_any n A D m c p d cs cl w1 (HA.out.below (monoSl (monoInt _)) hb) (HD.out.below (monoInt _) hb) (by omega)
      clear hm h1
      have Hz := Lib.hid (fun h => S.followsOf_zero (n := n) (cs := cs) (c := cl) h)
      have Hc3' := Lib.hid (Hc3.out w D p d cl (Below.refl _ _) HD.out (by omega))
      generalize S.followsOf n cs cl = r at Hc3' Hc4 Hz
      obtain ⟨r1, r2⟩ := r
      have hb1 : (r1 != r1) = false := by simp
      have hb2 : (r2 != r2) = false := by simp
      by_cases hr : r2 = 0
      · subst hr
        have hv := Hz.out rfl
        have Hv := Lib.hid hv; clear hv Hz
        go_enter Try.func5, Try.ntmps5
        go_wp2_with fail
        refine Hc1.out.mono ?_
        rintro e w' ⟨rfl, rfl⟩
        go_wp2_with fail
        refine Hc3'.out.mono ?_
        rintro e w1 ⟨rfl, hb1'⟩
        have Hb1 := Lib.hid hb1'; clear hb1'
        go_wp2_with fail
        refine (Hc4.out w1 Hb1.out).mono ?_
        rintro e w2 ⟨rfl, hb2'⟩
        have Hb2 := Lib.hid (Hb1.out.trans (hb2'.mono Hb1.out.size)); clear hb2'
        clear Hc3' Hc4 Hc1
        go_wp2
        go_loopg [11] (m + 1) (fun g i wr => ∃ k : Nat, k ≤ m ∧ i = .int .i64 (k : Int) ∧ g + k = m + 1 ∧ Below w.heap.size w wr)
        case atStart => exact ⟨0, Nat.zero_le _, rfl, rfl, Hb2.out⟩
        case round =>
          clear Hb1 Hb2
          obtain ⟨k, hk, rfl, hgk, hbw⟩ := hrel
          have Hgk := Lib.hid hgk; clear hgk
          by_cases hlt : k < m
          · by_cases hlt5 : k < 5
            · obtain ⟨x, b, off, u, hx, rfl, _, h1, A1, c1, rfl, s1⟩ := (HA.out.below (monoSl (monoInt _)) hbw).at_ hlt
              have hxm := List.mem_of_getElem? hx
              have con := Hc3.out wr A1 x.length c1 x hbw s1 (by have := Hlen.out x hxm; omega)
              rw [S.followsOf_self Hv.out hxm] at con
              have Hcon := Lib.hid con; clear con s1 hx hxm
              go_wp2_with fail
              refine Hcon.out.mono ?_
              rintro e w3 ⟨rfl, hb3⟩
              have Hb3 := Lib.hid (hbw.trans (hb3.mono hbw.size)); clear hb3
              go_wp2
              go_roundg (gk - 1)
              case measure => have := Hgk.out; omega
              case rel => have := Hgk.out; exact ⟨k + 1, by omega, by go_num, by omega, Hb3.out⟩
            · go_wp2_with fail
              refine (known_any wr).mono ?_
              rintro e w3 ⟨rfl, hb3⟩
              go_wp2
              go_ret
              exact ⟨rfl, hbw.trans (hb3.mono hbw.size)⟩
          · go_wp2_with fail
            refine (known_any wr).mono ?_
            rintro e w3 ⟨rfl, hb3⟩
            go_wp2
            go_ret
            exact ⟨rfl, hbw.trans (hb3.mono hbw.size)⟩
      · have hb : (r2 != 0) = true := by simpa using hr
        clear hr Hz
        go_enter Try.func5, Try.ntmps5
        go_wp2_with fail
        refine Hc1.out.mono ?_
        rintro e w' ⟨rfl, rfl⟩
        go_wp2_with fail
        refine Hc3'.out.mono ?_
        rintro e w1 ⟨rfl, hb1'⟩
        have Hb1 := Lib.hid hb1'; clear hb1'
        go_wp2_with fail
        refine (Hc4.out w1 Hb1.out).mono ?_
        rintro e w2 ⟨rfl, hb2'⟩
        have Hb2 := Lib.hid (Hb1.out.trans (hb2'.mono Hb1.out.size)); clear hb2'
        go_wp2_with fail
        refine (known_any w2).mono ?_
        rintro e w3 ⟨rfl, hb3⟩
        go_wp2
        go_ret
        exact ⟨rfl, Hb2.out.trans (hb3.mono Hb2.out.size)⟩
  · rw [hm] at Hc1
    clear hm
    go_enter Try.func5, Try.ntmps5
    go_wp2_with fail
    refine Hc1.out.mono ?_
    rintro e w' ⟨rfl, rfl⟩
    go_wp2_with fail
    refine (known_any w).mono ?_
    rintro e w3 ⟨rfl, hb3⟩
    go_wp2
    go_ret
    exact ⟨rfl, hb3⟩
end Go.Proofs.Ytceelipcclfdmaa
