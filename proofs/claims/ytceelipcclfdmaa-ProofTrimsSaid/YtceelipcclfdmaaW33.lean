/- Walks of the laws: ProofSound. What holds in a model holds of what follows. -/
import Derived.Test.YtceelipcclfdmaaW32
namespace Go.Proofs.Ytceelipcclfdmaa
open Go.RowKit Go.Maps Go.Sort

namespace S
def tl (model : List Bool) (x : Int) : Bool := model.getD (x.natAbs - 1) false == decide (0 < x)
theorem sat_iff {model : List Bool} {c : List Int} : sat model c = true ↔ ∃ x ∈ c, tl model x = true := by unfold sat tl; rw [List.any_eq_true]
theorem tl_neg (model : List Bool) {x : Int} (h : x ≠ 0) : tl model (-x) = !tl model x := by
  unfold tl
  rw [Int.natAbs_neg]
  by_cases h0 : 0 < x
  · rw [decide_eq_true h0, decide_eq_false (by omega)]
    cases model.getD (x.natAbs - 1) false <;> rfl
  · rw [decide_eq_false h0, decide_eq_true (by omega)]
    cases model.getD (x.natAbs - 1) false <;> rfl

theorem der_model {n : Int} {model : List Bool} {cs : List (List Int)} {given : List Int} (hcs : cs.all (isClause n) = true) (hg : isClause n given = true) (hs : ∀ c ∈ cs, sat model c = true) (hgt : ∀ l ∈ given, tl model l = true) {l : Int} (h : Der cs given l) : isLit n l = true ∧ tl model l = true := by
  induction h with
  | given_ h => exact ⟨List.all_eq_true.1 hg _ h, hgt _ h⟩
  | @unit_ l c hc hl _ ih =>
    have hlc := List.all_eq_true.1 hcs c hc
    refine ⟨List.all_eq_true.1 hlc l hl, ?_⟩
    obtain ⟨x, hx, hxt⟩ := sat_iff.1 (hs c hc)
    by_cases e : x = l
    · rw [← e]; exact hxt
    · have h2 := (ih x hx e).2
      rw [tl_neg model (isLit_ne (List.all_eq_true.1 hlc x hx)), hxt] at h2
      cases h2

theorem fol_model {n : Int} {model : List Bool} {cs : List (List Int)} {c : List Int} (hcs : cs.all (isClause n) = true) (hc : isClause n c = true) (hs : ∀ c ∈ cs, sat model c = true) (h : fol cs c = true) : sat model c = true := by
  cases hsat : sat model c
  · exfalso
    have hgt : ∀ l ∈ negs c, tl model l = true := by
      intro l hl
      obtain ⟨x, hx, rfl⟩ := List.mem_map.1 hl
      rw [tl_neg model (isLit_ne (List.all_eq_true.1 hc x hx))]
      cases ht : tl model x
      · rfl
      · have : sat model c = true := sat_iff.2 ⟨x, hx, ht⟩
        rw [hsat] at this; cases this
    have hd := fun l (h : Der cs (negs c) l) => der_model hcs (isClause_negs hc) hs hgt h
    rcases fol_iff.1 h with ⟨l, h1, h2⟩ | ⟨d, hd1, hd2⟩
    · have := (hd _ h2).2
      rw [tl_neg model (isLit_ne (hd _ h1).1), (hd _ h1).2] at this
      cases this
    · obtain ⟨x, hx, hxt⟩ := sat_iff.1 (hs d hd1)
      have := (hd _ (hd2 x hx)).2
      rw [tl_neg model (isLit_ne (List.all_eq_true.1 (List.all_eq_true.1 hcs d hd1) x hx)), hxt] at this
      cases this
  · rfl

theorem bad_model {n : Int} {model : List Bool} : ∀ {l cs : List (List Int)}, cs.all (isClause n) = true → l.all (isClause n) = true → (∀ c ∈ cs, sat model c = true) → bad cs l = none → ∀ c ∈ l, sat model c = true
  | [], _, _, _, _, _ => fun c hc => by cases hc
  | x :: r, cs, hcs, hl, hs, hb => by
    simp only [List.all_cons, Bool.and_eq_true] at hl
    rw [bad] at hb
    split at hb
    · rename_i hf
      have hx := fol_model hcs hl.1 hs hf
      have hr := bad_model (l := r) (cs := cs ++ [x]) (by rw [List.all_append, hcs]; simp [hl.1]) hl.2 (by
        intro c hc
        rcases List.mem_append.1 hc with hc | hc
        · exact hs c hc
        · rw [List.mem_singleton.1 hc]; exact hx) (by simpa using hb)
      intro c hc
      rcases List.mem_cons.1 hc with rfl | hc
      · exact hx
      · exact hr c hc
    · cases hb

theorem firstBad_none {α : Type} {p : α → Bool} {l : List α} (h : firstBad p l = none) : ∀ x ∈ l, p x = true := by
  induction l with
  | nil => intro x hx; cases hx
  | cons y r ih =>
    rw [firstBad] at h
    split at h
    · rename_i hp
      intro x hx
      rcases List.mem_cons.1 hx with rfl | hx
      · exact hp
      · exact ih (by simpa using h) x hx
    · cases h

theorem checkModel_zero {n : Int} {cs : List (List Int)} {model : List Bool} (h : (checkModel n cs model).2 = 0) : validate n cs = 0 ∧ (model.length : Int) = n ∧ ∀ c ∈ cs, sat model c = true := by
  unfold checkModel at h
  split at h
  · rename_i h1; exact absurd h h1
  · rename_i h1
    split at h
    · cases h
    · rename_i h2
      split at h
      · cases h
      · rename_i h3
        exact ⟨by simpa using h1, by simpa using h2, firstBad_none h3⟩

theorem check_zero' {n : Int} {cs l : List (List Int)} (h : (check n cs l).2 = 0) : validate n cs = 0 ∧ validate n l = 0 ∧ bad cs l = none ∧ l.getLast? = some [] := by
  unfold check at h
  split at h
  · rename_i h1; exact absurd h h1
  · rename_i h1
    split at h
    · rename_i h2; exact absurd h h2
    · rename_i h2
      refine ⟨by simpa using h1, by simpa using h2, ?_⟩
      unfold failure at h
      split at h
      · cases h
      · rename_i hf
        split at hf
        · cases hf
        · rename_i hb
          split at hf
          · rename_i hlast; exact ⟨hb, hlast⟩
          · cases hf

theorem sound {n : Int} {cs l : List (List Int)} {model : List Bool} (h1 : (check n cs l).2 = 0) (h2 : (checkModel n cs model).2 = 0) : False := by
  obtain ⟨v1, v2, hb, hlast⟩ := check_zero' h1
  obtain ⟨_, _, hs⟩ := checkModel_zero h2
  have hx := bad_model (validate_zero v1).2.2.2 (validate_zero v2).2.2.2 hs hb [] (List.mem_of_getLast? hlast)
  cases hx

theorem sound_one {n : Int} {cs : List (List Int)} {c : List Int} {model : List Bool} (h1 : (followsOf n cs c) = (true, 0)) (h2 : (checkModel n cs model).2 = 0) : (checkModel n [c] model).2 = 0 := by
  obtain ⟨v1, hlen, hs⟩ := checkModel_zero h2
  unfold followsOf at h1
  rw [if_neg (by simp [v1])] at h1
  split at h1
  · cases h1
  · rename_i v2
    have v2' : validate n [c] = 0 := by simpa using v2
    have hf : fol cs c = true := (Prod.mk.inj h1).1
    have hc : isClause n c = true := by simpa using (validate_zero v2').2.2.2
    have hsat := fol_model (validate_zero v1).2.2.2 hc hs hf
    rw [checkModel, if_neg (by simp [v2']), if_neg (by simp [hlen]), firstBad, if_pos hsat]
    rfl
end S

set_option maxHeartbeats 4000000 in
set_option maxRecDepth 100000 in
theorem proofSound_any (n : Int) (A D F : Option Addr) (m c p d q e' : Nat) (cs l : List (List Int)) (model : List Bool) (w : World) (hA : SlAt (SlR (IntR .i64)) w A m cs) (hD : SlAt (SlR (IntR .i64)) w D p l) (hF : SlAt BoolR w F q model) :
    Calls Try.prog 8 #[.int .i64 n, .slice A m c, .agg #[.slice D p d, .slice F q e']] w (SomeTrue w) := by
  obtain ⟨w0, hw0⟩ : ∃ W, W = w.alloc (.cells #[.slice D p d, .slice F q e'] 47) := ⟨_, rfl⟩
  have hb0 : Below w.heap.size w w0 := by rw [hw0]; exact (Below.refl _ _).alloc (Nat.le_refl _) _
  have hs0 : w0.heap.size = w.heap.size + 1 := by rw [hw0]; simp
  have hblk : w0.heap[w.heap.size]? = some (.cells #[.slice D p d, .slice F q e'] 47 (0, 0)) := by rw [hw0]; exact heap_alloc_new w _
  have hcell0 : ∀ W, Below w0.heap.size w0 W → W.cell? ⟨w.heap.size, 0, none⟩ = some (.slice D p d) := fun W hb => by
    rw [hb.cell (by rw [hs0]; exact Nat.lt_succ_self _), cell_of_row w0 w.heap.size 0 _ _ _ hblk]; rfl
  have hcell1 : ∀ W, Below w0.heap.size w0 W → W.cell? ⟨w.heap.size, 1, none⟩ = some (.slice F q e') := fun W hb => by
    rw [hb.cell (by rw [hs0]; exact Nat.lt_succ_self _), cell_of_row w0 w.heap.size 1 _ _ _ hblk]; rfl
  have HA := Lib.hid (hA.below (monoSl (monoInt _)) hb0); clear hA
  have HD := Lib.hid (hD.below (monoSl (monoInt _)) hb0); clear hD
  have HF := Lib.hid (hF.below monoBool hb0); clear hF
  have Hc1 := Lib.hid (many_any n A m c cs w0 HA.out)
  have Hc2 := Lib.hid (long_any D p d l w0 HD.out)
  have hdl := HD.out.le
  have hfl := HF.out.le
  have HB0 := Lib.hid hb0; clear hb0
  have Hcell0 := Lib.hid hcell0; clear hcell0
  have Hcell1 := Lib.hid hcell1; clear hcell1
  have hz0 := Hcell0.out w0 (Below.refl _ _)
  have hz1 := Hcell1.out w0 (Below.refl _ _)
  have Hblk := Lib.hid hblk; clear hblk
  have fin : ∀ W, Below w0.heap.size w0 W → ∀ W', Below W.heap.size W W' → Below w.heap.size w W' := fun W h W' h' => HB0.out.trans ((h.trans (h'.mono h.size)).mono HB0.out.size)
  have Hfin := Lib.hid fin; clear fin
  cases hm : S.many n cs
  · rw [hm] at Hc1
    cases hl : S.long l
    · rw [hl] at Hc2
      by_cases hq : 5000 < q
      · clear hm hl
        subst hw0
        go_enter Try.func8, Try.ntmps8
        go_wp2_with fail
        refine Hc1.out.mono ?_
        rintro e w' ⟨rfl, rfl⟩
        go_wp2_with fail
        refine Hc2.out.mono ?_
        rintro e w' ⟨rfl, rfl⟩
        go_wp2_with fail
        refine (known_any _).mono ?_
        rintro e w3 ⟨rfl, hb3⟩
        go_wp2
        go_ret
        exact ⟨rfl, Hfin.out _ (Below.refl _ _) _ hb3⟩
      · have h1 := S.long_false (S.many_false hm)
        have h2 := S.long_false hl
        have Hc3 := Lib.hid (checkE_any n A D m c p d cs l w0 HA.out HD.out (by omega) (by omega))
        have Hc4 : Hid (∀ W, Below w0.heap.size w0 W → ∀ (A' : Option Addr) (m' c' : Nat) (xs : List (List Int)), SlAt (SlR (IntR .i64)) W A' m' xs → Calls Try.prog 22 #[.int .i64 n, .slice A' m' c', .slice F q e'] W fun e w' => e = .returned (.tuple #[.int .i64 (S.checkModel n xs model).1, .int .i64 (S.checkModel n xs model).2]) ∧ Below W.heap.size W w') :=
          Lib.hid fun W hb A' m' c' xs hx => checkModel_any n A' F m' c' q e' xs model W hx (HF.out.below monoBool hb)
        have Hc5 : Hid (∀ W, Below w0.heap.size w0 W → ∀ (A' : Option Addr) (p' d' : Nat) (x : List Int), SlAt (IntR .i64) W A' p' x → p' ≤ 100000000 → Calls Try.prog 18 #[.int .i64 n, .slice A m c, .slice A' p' d'] W (SomeBE W (S.followsOf n cs x).1 (S.followsOf n cs x).2)) :=
          Lib.hid fun W hb A' p' d' x hx hp' => followsE_any n A A' m c p' d' cs x W (HA.out.below (monoSl (monoInt _)) hb) hx hp' (by have := h1.2.2; omega)
        have Hlen := Lib.hid h2.2.1
        have Hsound := Lib.hid (fun h h' => S.sound (n := n) (cs := cs) (l := l) (model := model) h h')
        have Hone := Lib.hid (fun c h h' => S.sound_one (n := n) (cs := cs) (c := c) (model := model) h h')
        clear hm hl h1 h2
        generalize S.check n cs l = r at Hc3 Hsound
        obtain ⟨r1, r2⟩ := r
        have Hc4' : Hid (∀ W, Below w0.heap.size w0 W → Calls Try.prog 22 #[.int .i64 n, .slice A m c, .slice F q e'] W fun e w' => e = .returned (.tuple #[.int .i64 (S.checkModel n cs model).1, .int .i64 (S.checkModel n cs model).2]) ∧ Below W.heap.size W w') :=
          Lib.hid fun W hb => Hc4.out W hb A m c cs (HA.out.below (monoSl (monoInt _)) hb)
        generalize S.checkModel n cs model = s at Hc4' Hsound Hone
        obtain ⟨s1, s2⟩ := s
        by_cases hs : s2 = 0
        · subst hs
          have hr : (r2 == 0) = false := by simpa using fun h => Hsound.out h rfl
          clear Hsound
          subst hw0
          go_enter Try.func8, Try.ntmps8
          go_wp2_with fail
          refine Hc1.out.mono ?_
          rintro e w' ⟨rfl, rfl⟩
          go_wp2_with fail
          refine Hc2.out.mono ?_
          rintro e w' ⟨rfl, rfl⟩
          go_wp2_with fail
          refine Hc3.out.mono ?_
          rintro e w1 ⟨rfl, hb1⟩
          have Hb1 := Lib.hid hb1; clear hb1
          have hz2 := Hcell1.out w1 Hb1.out
          go_wp2_with fail
          refine (Hc4'.out w1 Hb1.out).mono ?_
          rintro e w2 ⟨rfl, hb2⟩
          have Hb2 := Lib.hid (Hb1.out.trans (hb2.mono Hb1.out.size)); clear hb2
          clear Hc1 Hc2 Hc3 Hc4'
          go_wp2
          clear hz0 hz1 hz2 hr
          go_loopg [11] (p + 1) (fun g i wr => ∃ k : Nat, k ≤ p ∧ i = .int .i64 (k : Int) ∧ g + k = p + 1 ∧ Below (w.heap.size + 1) (w.alloc (.cells #[.slice D p d, .slice F q e'] 47)) wr)
          case atStart => exact ⟨0, Nat.zero_le _, rfl, rfl, by have := Hb2.out; rwa [hs0] at this⟩
          case round =>
            clear Hb1 Hb2
            obtain ⟨k, hk, rfl, hgk, hbw⟩ := hrel
            rw [← hs0] at hbw
            have Hgk := Lib.hid hgk; clear hgk
            have Hbw := Lib.hid hbw; clear hbw
            have hz0 := Hcell0.out wr Hbw.out
            have hz1 := Hcell1.out wr Hbw.out
            by_cases hlt : k < p
            · by_cases hlt8 : k < 8
              · obtain ⟨x, b, off, u, hx, rfl, hbl, h1, A1, c1, rfl, s1'⟩ := (HD.out.below (monoSl (monoInt _)) Hbw.out).at_ hlt
                have hxm := List.mem_of_getElem? hx
                have con := Hc5.out wr Hbw.out A1 x.length c1 x s1' (by have := Hlen.out x hxm; omega)
                have Hone' := Lib.hid (Hone.out x); clear hxm hx
                generalize S.followsOf n cs x = fo at con Hone'
                obtain ⟨f1, f2⟩ := fo
                have Hcon := Lib.hid con; clear con
                have Hs1 := Lib.hid s1'; clear s1'
                have hcase : (f2 == 0) = false ∨ (f2 = 0 ∧ f1 = false) ∨ (f2 = 0 ∧ f1 = true ∧ (S.checkModel n [x] model).2 = 0) := by
                  by_cases hf : f2 = 0
                  · subst hf
                    cases f1
                    · exact .inr (.inl ⟨rfl, rfl⟩)
                    · exact .inr (.inr ⟨rfl, rfl, Hone'.out (by first | rfl | trivial) (by first | rfl | trivial)⟩)
                  · exact .inl (by simpa using hf)
                clear Hone' Hone
                generalize hcm : S.checkModel n [x] model = cm at hcase
                obtain ⟨g1, g2⟩ := cm
                have Hcm := Lib.hid hcm; clear hcm
                have Hcase := Lib.hid hcase; clear hcase
                go_wp2_with fail
                refine Hcon.out.mono ?_
                rintro e w3 ⟨rfl, hb3⟩
                have Hb3 := Lib.hid (Hbw.out.trans (hb3.mono Hbw.out.size))
                have h13 := (hb3.cell (p := ⟨b, off + k, none⟩) hbl).trans h1
                have hy0 := Hcell0.out w3 Hb3.out
                have hy1 := Hcell1.out w3 Hb3.out
                have Hs3 := Lib.hid (show SlAt (IntR .i64) w3.drew A1 x.length x from Hs1.out.below (monoInt _) hb3.drew)
                clear hb3 h1 hz0 hz1
                have hb4 := Hb3.out.drew.alloc Hb3.out.size (.cells #[.slice A1 x.length c1] 23)
                have hy0' := Hcell0.out _ hb4
                have hy1' := Hcell1.out _ hb4
                have hb5' := Hb3.out.alloc Hb3.out.size (.cells #[.slice A1 x.length c1] 23)
                have hy0'' := Hcell0.out _ hb5'
                have hy1'' := Hcell1.out _ hb5'
                clear hb5'
                have con6 := Hc4.out _ hb4 (some ⟨w3.heap.size, 0, none⟩) 1 1 [x] (slOne Hs3.out _)
                rw [Hcm.out] at con6
                have Hcon6 := Lib.hid con6; clear con6
                have Hb4 := Lib.hid hb4; clear hb4
                go_wp2_with fail
                go_region_with ((go_at_call 22; refine Hcon6.out.mono ?_; rintro e w5 ⟨rfl, hb5⟩))
                all_goals
                  have Hb5 := Lib.hid (Hb4.out.trans (hb5.mono Hb4.out.size))
                  clear hb5 hy0 hy1 hy0' hy1' hy0'' hy1'' h13
                  rcases Hcase.out with hf2 | ⟨rfl, rfl⟩ | ⟨rfl, rfl, hg⟩
                  · go_wp2
                    go_roundg (gk - 1)
                    case measure => have := Hgk.out; omega
                    case rel => have := Hgk.out; exact ⟨k + 1, by omega, by go_num, by omega, by have := Hb5.out; rwa [hs0] at this⟩
                  · go_wp2
                    go_roundg (gk - 1)
                    case measure => have := Hgk.out; omega
                    case rel => have := Hgk.out; exact ⟨k + 1, by omega, by go_num, by omega, by have := Hb5.out; rwa [hs0] at this⟩
                  · have hg' : g2 = 0 := hg
                    clear hg
                    subst hg'
                    go_wp2
                    go_roundg (gk - 1)
                    case measure => have := Hgk.out; omega
                    case rel => have := Hgk.out; exact ⟨k + 1, by omega, by go_num, by omega, by have := Hb5.out; rwa [hs0] at this⟩
              · go_wp2_with fail
                refine (known_any wr).mono ?_
                rintro e w3 ⟨rfl, hb3⟩
                go_wp2
                go_ret
                exact ⟨rfl, Hfin.out _ Hbw.out _ hb3⟩
            · go_wp2_with fail
              refine (known_any wr).mono ?_
              rintro e w3 ⟨rfl, hb3⟩
              go_wp2
              go_ret
              exact ⟨rfl, Hfin.out _ Hbw.out _ hb3⟩
        · have hsb : (s2 == 0) = false := by simpa using hs
          have hsb2 : (s2 != 0) = true := by simpa using hs
          clear Hsound hs Hone Hc4 Hc5
          by_cases hr : r2 = 0
          all_goals
            have hrb : (r2 == 0) = decide (r2 = 0) := by by_cases h : r2 = 0 <;> simp [h]
            first | rw [decide_eq_true hr] at hrb | rw [decide_eq_false hr] at hrb
            try subst hw0
            go_enter Try.func8, Try.ntmps8
            go_wp2_with fail
            refine Hc1.out.mono ?_
            rintro e w' ⟨rfl, rfl⟩
            go_wp2_with fail
            refine Hc2.out.mono ?_
            rintro e w' ⟨rfl, rfl⟩
            go_wp2_with fail
            refine Hc3.out.mono ?_
            rintro e w1 ⟨rfl, hb1⟩
            have Hb1 := Lib.hid hb1; clear hb1
            have hz2 := Hcell1.out w1 Hb1.out
            go_wp2_with fail
            refine (Hc4'.out w1 Hb1.out).mono ?_
            rintro e w2 ⟨rfl, hb2⟩
            have Hb2 := Lib.hid (Hb1.out.trans (hb2.mono Hb1.out.size)); clear hb2
            go_wp2_with fail
            refine (known_any w2).mono ?_
            rintro e w3 ⟨rfl, hb3⟩
            go_wp2
            go_ret
            exact ⟨rfl, Hfin.out _ Hb2.out _ hb3⟩
    · rw [hl] at Hc2
      clear hm hl
      subst hw0
      go_enter Try.func8, Try.ntmps8
      go_wp2_with fail
      refine Hc1.out.mono ?_
      rintro e w' ⟨rfl, rfl⟩
      go_wp2_with fail
      refine Hc2.out.mono ?_
      rintro e w' ⟨rfl, rfl⟩
      go_wp2_with fail
      refine (known_any _).mono ?_
      rintro e w3 ⟨rfl, hb3⟩
      go_wp2
      go_ret
      exact ⟨rfl, Hfin.out _ (Below.refl _ _) _ hb3⟩
  · rw [hm] at Hc1
    clear hm
    subst hw0
    go_enter Try.func8, Try.ntmps8
    go_wp2_with fail
    refine Hc1.out.mono ?_
    rintro e w' ⟨rfl, rfl⟩
    go_wp2_with fail
    refine (known_any _).mono ?_
    rintro e w3 ⟨rfl, hb3⟩
    go_wp2
    go_ret
    exact ⟨rfl, Hfin.out _ (Below.refl _ _) _ hb3⟩
end Go.Proofs.Ytceelipcclfdmaa
