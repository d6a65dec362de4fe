/- Walks of the program: Check and Follows. -/
import Derived.Test.YtceelipcclfdmaaW25
namespace Go.Proofs.Ytceelipcclfdmaa
open Go.RowKit Go.Maps

set_option maxHeartbeats 800000 in
theorem checkE_any (n : Int) (A D : Option Addr) (m c p d : Nat) (cs l : List (List Int)) (w : World) (hA : SlAt (SlR (IntR .i64)) w A m cs) (hD : SlAt (SlR (IntR .i64)) w D p l) (ht : tot cs ≤ 10000000) (htl : tot l ≤ 10000000) :
    Calls Try.prog 16 #[.int .i64 n, .slice A m c, .slice D p d] w (SomeII w (S.check n cs l)) := by
  have Hcon := Lib.hid (validate_any n A m c cs w hA)
  have HA := Lib.hid hA; clear hA
  have HD := Lib.hid hD; clear hD
  by_cases h0 : S.validate n cs = 0
  · rw [h0] at Hcon
    by_cases h2 : S.validate n l = 0
    · obtain ⟨hn0, hn4, hm, hc1⟩ := validate_zero h0
      obtain ⟨_, _, hp, hc2⟩ := validate_zero h2
      obtain ⟨N, rfl⟩ : ∃ N : Nat, n = N := ⟨n.toNat, by omega⟩
      have hlen := HD.out.len
      have hle := HD.out.le
      obtain ⟨r, hr⟩ : ∃ r, r = S.failInt cs l := ⟨_, rfl⟩
      have e1 : (r = -1 ∧ S.check (N : Int) cs l = ((p : Int), 0)) ∨ (0 ≤ r ∧ S.check (N : Int) cs l = (r, 8)) := by
        unfold S.failInt at hr
        unfold S.check; rw [if_neg (by simp [h0]), if_neg (by simp [h2])]
        cases hf : S.failure cs l with
        | none => rw [hf] at hr; exact .inl ⟨hr, by rw [hlen]⟩
        | some k => rw [hf] at hr; exact .inr ⟨by rw [hr]; exact Int.natCast_nonneg k, by rw [hr]⟩
      have Hcon3 : Hid (∀ w2, Below w.heap.size w w2 → Calls Try.prog 38 #[.slice A m c, .slice D p d] w2 fun e w' => e = .returned (.int .i64 r) ∧ Below w2.heap.size w2 w') :=
        Lib.hid fun w2 hb2 => by rw [hr]; exact failure_any N A D m c p d cs l w2 (HA.out.below (monoSl (monoInt _)) hb2) (HD.out.below (monoSl (monoInt _)) hb2) hc1 hc2 (by omega) (by rw [← HA.out.len]; omega) (by rw [← HD.out.len]; omega) ht htl
      have Hcon2 : Hid (∀ w1, Below w.heap.size w w1 → Calls Try.prog 24 #[.int .i64 N, .slice D p d] w1 fun e w' => e = .returned (.int .i64 0) ∧ Below w1.heap.size w1 w') :=
        Lib.hid fun w1 hb1 => by have := validate_any (N : Int) D p d l w1 (HD.out.below (monoSl (monoInt _)) hb1); rwa [h2] at this
      clear hc1 hc2 h0 h2 hr hlen
      rcases e1 with ⟨rfl, e1⟩ | ⟨hr0, e1⟩
      all_goals
        rw [e1]
        clear e1
        go_enter Try.func16, Try.ntmps16
        go_wp2_with fail
        refine Hcon.out.mono ?_
        rintro e w1 ⟨rfl, hb1⟩
        have Hb1 := Lib.hid hb1; clear hb1
        go_wp2_with fail
        refine (Hcon2.out w1 Hb1.out).mono ?_
        rintro e w2 ⟨rfl, hb2⟩
        have Hb2 := Lib.hid (Hb1.out.trans (hb2.mono Hb1.out.size)); clear hb2
        go_wp2_with fail
        refine (Hcon3.out w2 Hb2.out).mono ?_
        rintro e w3 ⟨rfl, hb3⟩
        have Hb3 := Lib.hid (Hb2.out.trans (hb3.mono Hb2.out.size)); clear hb3
        go_wp2
        go_ret2
        exact ⟨rfl, Hb3.out⟩
    · obtain ⟨v, hv⟩ : ∃ v, v = S.validate n l := ⟨_, rfl⟩
      rw [← hv] at h2
      have hb : (v != 0) = true := by simpa using h2
      have e1 : S.check n cs l = (0, v) := by rw [S.check, if_neg (by rw [h0]; simp), if_pos (by rw [← hv]; exact h2), hv]
      rw [e1]
      go_enter Try.func16, Try.ntmps16
      go_wp2_with fail
      refine Hcon.out.mono ?_
      rintro e w1 ⟨rfl, hb1⟩
      have Hcon2 := Lib.hid (validate_any n D p d l w1 (HD.out.below (monoSl (monoInt _)) hb1))
      rw [← hv] at Hcon2
      clear hv h2 h0 e1
      go_wp2_with fail
      refine Hcon2.out.mono ?_
      rintro e w2 ⟨rfl, hb2'⟩
      go_wp2
      go_ret2
      exact ⟨rfl, hb1.trans (hb2'.mono hb1.size)⟩
  · obtain ⟨v, hv⟩ : ∃ v, v = S.validate n cs := ⟨_, rfl⟩
    rw [← hv] at Hcon h0
    have hb : (v != 0) = true := by simpa using h0
    have e1 : S.check n cs l = (0, v) := by rw [S.check, if_pos (by rw [← hv]; exact h0), hv]
    rw [e1]
    clear hv h0 e1
    go_enter Try.func16, Try.ntmps16
    go_wp2_with fail
    refine Hcon.out.mono ?_
    rintro e w1 ⟨rfl, hb1⟩
    go_wp2
    go_ret2
    exact ⟨rfl, hb1⟩

set_option maxHeartbeats 1000000 in
theorem followsE_any (n : Int) (A D : Option Addr) (m c p d : Nat) (cs : List (List Int)) (cl : List Int) (w : World) (hA : SlAt (SlR (IntR .i64)) w A m cs) (hD : SlAt (IntR .i64) w D p cl) (hp : p ≤ 100000000) (ht : tot cs ≤ 10000000) :
    Calls Try.prog 18 #[.int .i64 n, .slice A m c, .slice D p d] w (SomeBE w (S.followsOf n cs cl).1 (S.followsOf n cs cl).2) := by
  have Hcon := Lib.hid (validate_any n A m c cs w hA)
  have HA := Lib.hid hA; clear hA
  have HD := Lib.hid hD; clear hD
  obtain ⟨v, hv⟩ : ∃ v, v = S.validate n cs := ⟨_, rfl⟩
  obtain ⟨v2, hv2⟩ : ∃ v, v = S.validate n [cl] := ⟨_, rfl⟩
  rw [← hv] at Hcon
  have Hcon2 : Hid (∀ w1, Below w.heap.size w w1 → Calls Try.prog 24 #[.int .i64 n, .slice (some ⟨w1.heap.size, 0, none⟩) 1 1] (w1.alloc (.cells #[.slice D p d] 23)) fun e w' => e = .returned (.int .i64 v2) ∧ Below (w1.alloc (.cells #[.slice D p d] 23)).heap.size (w1.alloc (.cells #[.slice D p d] 23)) w') :=
    Lib.hid fun w1 hb => by rw [hv2]; exact validate_any n _ 1 1 [cl] _ (slOne (HD.out.below (monoInt _) hb) _)
  by_cases h0 : v = 0
  · by_cases h2 : v2 = 0
    · subst h0
      subst h2
      obtain ⟨hn0, hn4, hm, hcl⟩ := validate_zero hv.symm
      obtain ⟨_, _, _, hcl2⟩ := validate_zero hv2.symm
      obtain ⟨N, rfl⟩ : ∃ N : Nat, n = N := ⟨n.toNat, by omega⟩
      have e1 : S.followsOf (N : Int) cs cl = (S.fol cs cl, 0) := by rw [S.followsOf, if_neg (by rw [← hv]; simp), if_neg (by rw [← hv2]; simp)]
      rw [e1]
      clear hv hv2 e1
      have Hcl := Lib.hid hcl; clear hcl
      have Hcl2 := Lib.hid hcl2; clear hcl2
      go_enter Try.func18, Try.ntmps18
      go_wp2_with fail
      refine Hcon.out.mono ?_
      rintro e w1 ⟨rfl, hb1⟩
      have Hb1 := Lib.hid hb1; clear hb1
      go_wp2_with fail
      refine (Hcon2.out w1 Hb1.out).mono ?_
      rintro e w2 ⟨rfl, hb2⟩
      have Hb2 := Lib.hid (show Below w.heap.size w w2 from (Hb1.out.alloc Hb1.out.size _).trans (hb2.mono (Nat.le_trans Hb1.out.size (by simp)))); clear hb2
      have Hcon3 := Lib.hid (open_any N A m c cs w2 (HA.out.below (monoSl (monoInt _)) Hb2.out) Hcl.out (by omega) ht (by rw [← HA.out.len]; omega))
      go_wp2_with fail
      refine Hcon3.out.mono ?_
      rintro e w3 ⟨Bk, Mw, cv, us, lw, blk, rfl, hbk, hidx, hb3⟩
      have Hb3 := Lib.hid (Hb2.out.trans (hb3.mono Hb2.out.size))
      have Hcon4 := Lib.hid (book_follows_any w2 w2.heap.size Bk Mw cv us cs lw blk (tot cs) N D p d cl w3 hbk hidx hb3 (HD.out.below (monoInt _) Hb3.out) (by simpa using Hcl2.out) Hcl.out (by omega) hp)
      clear hbk hidx hb3
      go_wp2_with fail
      refine Hcon4.out.mono ?_
      rintro e w4 ⟨rfl, hb4⟩
      go_wp2
      go_ret2
      exact ⟨rfl, Hb3.out.trans (hb4.mono Hb3.out.size)⟩
    · subst h0
      have hb : (v2 != 0) = true := by simpa using h2
      have e1 : S.followsOf n cs cl = (false, v2) := by rw [S.followsOf, if_neg (by rw [← hv]; simp), if_pos (by rw [← hv2]; exact h2), hv2]
      rw [e1]
      clear hv hv2 e1 h2
      go_enter Try.func18, Try.ntmps18
      go_wp2_with fail
      refine Hcon.out.mono ?_
      rintro e w1 ⟨rfl, hb1⟩
      have Hb1 := Lib.hid hb1; clear hb1
      go_wp2_with fail
      refine (Hcon2.out w1 Hb1.out).mono ?_
      rintro e w2 ⟨rfl, hb2⟩
      go_wp2
      go_ret2
      exact ⟨rfl, (Hb1.out.alloc Hb1.out.size _).trans (hb2.mono (Nat.le_trans Hb1.out.size (by simp)))⟩
  · have hb : (v != 0) = true := by simpa using h0
    have e1 : S.followsOf n cs cl = (false, v) := by rw [S.followsOf, if_pos (by rw [← hv]; exact h0), hv]
    rw [e1]
    clear hv hv2 e1 h0 Hcon2
    go_enter Try.func18, Try.ntmps18
    go_wp2_with fail
    refine Hcon.out.mono ?_
    rintro e w1 ⟨rfl, hb1⟩
    go_wp2
    go_ret2
    exact ⟨rfl, hb1⟩
end Go.Proofs.Ytceelipcclfdmaa
