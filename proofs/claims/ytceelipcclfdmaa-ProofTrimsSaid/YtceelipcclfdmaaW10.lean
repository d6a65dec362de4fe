/- Walks of the reference: the literals that follow; models. -/
import Derived.Test.YtceelipcclfdmaaW9
namespace Go.Proofs.Ytceelipcclfdmaa
open Go.RowKit

namespace S
noncomputable def derB (cs : List (List Int)) (given : List Int) (l : Int) : Bool := @decide (Der cs given l) (Classical.propDecidable _)
theorem derB_iff {cs : List (List Int)} {given : List Int} {l : Int} : derB cs given l = true ↔ Der cs given l := by unfold derB; exact @decide_eq_true_iff _ (Classical.propDecidable _)
def below (n : Nat) (k : Nat) : List Int := (List.range k).map fun (j : Nat) => -(n : Int) + (j : Int)
def above (k : Nat) : List Int := (List.range k).map fun (j : Nat) => (j : Int) + 1
noncomputable def unitsList (n : Nat) (cs : List (List Int)) (given : List Int) : List Int := (below n n).filter (derB cs given) ++ (above n).filter (derB cs given)
theorem below_succ (n k : Nat) : below n (k + 1) = below n k ++ [-(n : Int) + k] := by simp [below, List.range_succ]
theorem above_succ (k : Nat) : above (k + 1) = above k ++ [(k : Int) + 1] := by simp [above, List.range_succ]
noncomputable def unitsOf (n : Int) (cs : List (List Int)) (given : List Int) : List Int × Bool × Int :=
  if validate n cs ≠ 0 then ([], false, validate n cs) else if isClause n given = false then ([], false, 1) else
  if @decide (Incons cs given) (Classical.propDecidable _) = true then ([], true, 0) else (unitsList n.toNat cs given, false, 0)
theorem unitsOf_incons {n : Nat} {cs : List (List Int)} {given : List Int} (h0 : validate n cs = 0) (hg : isClause n given = true) (h : Incons cs given) : unitsOf n cs given = ([], true, 0) := by
  rw [unitsOf, if_neg (by simp [h0]), if_neg (by simp [hg]), if_pos]
  exact (@decide_eq_true_iff _ (Classical.propDecidable _)).2 h
theorem unitsOf_list {n : Nat} {cs : List (List Int)} {given : List Int} (h0 : validate n cs = 0) (hg : isClause n given = true) (h : ¬ Incons cs given) : unitsOf n cs given = (unitsList n cs given, false, 0) := by
  rw [unitsOf, if_neg (by simp [h0]), if_neg (by simp [hg]), if_neg]
  · simp
  · intro hd; exact h ((@decide_eq_true_iff _ (Classical.propDecidable _)).1 hd)

/-- What the numbers of a state say at its end. -/
def Says (cs : List (List Int)) (given : List Int) (n : Nat) (of : List Int) : Prop := Wf n of ∧ ∀ l, isLit n l = true → (val of l = 1 ↔ Der cs given l)
theorem Says.neg {cs : List (List Int)} {given : List Int} {n : Nat} {of : List Int} (h : Says cs given n of) {v : Nat} (h1 : 1 ≤ v) (h2 : v ≤ n) : derB cs given (-(v : Int)) = decide (of.getD v 0 < 0) := by
  have hl : isLit n (-(v : Int)) = true := by simp only [isLit, decide_eq_true_eq]; omega
  have := h.2 _ hl
  have hv : val of (-(v : Int)) = - of.getD v 0 := by simp only [val, Int.neg_neg, Int.toNat_natCast]; rw [if_neg (by omega)]
  rw [hv] at this
  have ht := h.1.tri v
  rw [Bool.eq_iff_iff, derB_iff, ← this, decide_eq_true_eq]; omega
theorem Says.pos {cs : List (List Int)} {given : List Int} {n : Nat} {of : List Int} (h : Says cs given n of) {v : Nat} (h1 : 1 ≤ v) (h2 : v ≤ n) : derB cs given (v : Int) = decide (0 < of.getD v 0) := by
  have hl : isLit n (v : Int) = true := by simp only [isLit, decide_eq_true_eq]; omega
  have := h.2 _ hl
  have hv : val of (v : Int) = of.getD v 0 := by simp only [val, Int.toNat_natCast]; rw [if_pos (by omega)]
  rw [hv] at this
  have ht := h.1.tri v
  rw [Bool.eq_iff_iff, derB_iff, ← this, decide_eq_true_eq]; omega
end S

def SomeUnitsR (w : World) (r : List Int × Bool × Int) (e : Ending) (w' : World) : Prop :=
  ∃ A c, e = .returned (.tuple #[.slice A r.1.length c, .bool r.2.1, .int .i64 r.2.2]) ∧ SlAt (IntR .i64) w' A r.1.length r.1 ∧ Below w.heap.size w w'

theorem filter_snoc_true {l : List Int} {p : Int → Bool} {x : Int} (h : p x = true) : (l ++ [x]).filter p = l.filter p ++ [x] := by rw [List.filter_append]; simp [h]
theorem filter_snoc_false {l : List Int} {p : Int → Bool} {x : Int} (h : p x = false) : (l ++ [x]).filter p = l.filter p := by rw [List.filter_append]; simp [h]
theorem length_filter_below (n k : Nat) (p : Int → Bool) : ((S.below n k).filter p).length ≤ k := by
  have := List.length_filter_le p (S.below n k); simpa [S.below] using this
theorem length_filter_above (k : Nat) (p : Int → Bool) : ((S.above k).filter p).length ≤ k := by
  have := List.length_filter_le p (S.above k); simpa [S.above] using this

set_option maxRecDepth 100000 in
set_option maxHeartbeats 2000000 in
theorem refUnits_any (n : Int) (A D : Option Addr) (m c p d : Nat) (cs : List (List Int)) (given : List Int) (w : World) (hA : SlAt (SlR (IntR .i64)) w A m cs) (hD : SlAt (IntR .i64) w D p given) :
    Calls Try.prog 13 #[.int .i64 n, .slice A m c, .slice D p d] w (SomeUnitsR w (S.unitsOf n cs given)) := by
  have Hcon := Lib.hid (refValidate_any n A m c cs w hA)
  have HA := Lib.hid hA; clear hA
  have HD := Lib.hid hD; clear hD
  obtain ⟨v, hv⟩ : ∃ v, v = S.validate n cs := ⟨_, rfl⟩
  rw [← hv] at Hcon
  by_cases h0 : v = 0
  case neg =>
    have hb : (v != 0) = true := by simpa using h0
    have e1 : S.unitsOf n cs given = ([], false, v) := by rw [S.unitsOf, if_pos (by rw [← hv]; exact h0), hv]
    rw [e1]
    clear hv e1 h0
    go_enter Try.func13, Try.ntmps13
    go_wp2_with fail
    refine Hcon.out.mono ?_
    rintro e w' ⟨rfl, rfl⟩
    go_wp2
    go_ret3
    exact ⟨none, 0, rfl, SlAt.nil_ _, Below.refl _ _⟩
  subst h0
  obtain ⟨hn0, hn4, _, hcl⟩ := validate_zero hv.symm
  obtain ⟨N, rfl⟩ : ∃ N : Nat, n = N := ⟨n.toNat, by omega⟩
  have Hcon2 := Lib.hid (refIsClause_any N D p d given w HD.out (by omega) (by omega))
  have Hv := Lib.hid hv.symm; clear hv
  have HC := Lib.hid hcl; clear hcl
  cases hg : S.isClause N given
  · rw [hg] at Hcon2
    have e1 : S.unitsOf N cs given = ([], false, 1) := by rw [S.unitsOf, if_neg (by rw [Hv.out]; simp), if_pos hg]
    rw [e1]
    clear e1 hg
    go_enter Try.func13, Try.ntmps13
    go_wp2_with fail
    refine Hcon.out.mono ?_
    rintro e w' ⟨rfl, rfl⟩
    go_wp2_with fail
    refine Hcon2.out.mono ?_
    rintro e w' ⟨rfl, rfl⟩
    go_wp2
    go_ret3
    exact ⟨none, 0, rfl, SlAt.nil_ _, Below.refl _ _⟩
  rw [hg] at Hcon2
  have Hcon3 := Lib.hid (units_any N A D m c p d cs given w HA.out HD.out HC.out hg (by omega))
  have HG := Lib.hid hg; clear hg
  go_enter Try.func13, Try.ntmps13
  go_wp2_with fail
  refine Hcon.out.mono ?_
  rintro e w' ⟨rfl, rfl⟩
  go_wp2_with fail
  refine Hcon2.out.mono ?_
  rintro e w' ⟨rfl, rfl⟩
  go_wp2_with fail
  refine Hcon3.out.mono ?_
  rintro e w1 ⟨B, O, of, conf, rfl, hst, hb1, hwf, hpost⟩
  have Hst := Lib.hid hst; clear hst
  rcases hpost with ⟨rfl, hinc⟩ | ⟨rfl, hinc, hsay⟩
  · have Hinc := Lib.hid hinc; clear hinc
    have hc1 := Hst.out.c1
    go_wp2
    go_ret3
    rw [S.unitsOf_incons Hv.out HG.out Hinc.out]
    exact ⟨none, 0, rfl, SlAt.nil_ _, hb1⟩
  · have Hinc := Lib.hid hinc; clear hinc
    have HS := Lib.hid (show S.Says cs given N of from ⟨hwf, hsay⟩); clear hsay hwf
    have hc1 := Hst.out.c1
    have hc0 := Hst.out.c0
    have hsB := Hst.out.ltB
    have hsO := Hst.out.ltO
    go_wp2
    clear hc1 hc0
    go_loopg [11, 12] (N + 1) (fun g v i wr => ∃ k vn L : Nat, vn + k = N ∧ i = .int .i64 (vn : Int) ∧ g = vn + 1 ∧ L = ((S.below N k).filter (S.derB cs given)).length ∧ OwnAt wr 3 1 v L (((S.below N k).filter (S.derB cs given)).map (Value.int .i64)) ∧ Below w1.heap.size w1 wr ∧ (∀ g, v.ownBlock = some g → w1.heap.size ≤ g))
    case atStart => exact ⟨0, N, 0, rfl, rfl, rfl, rfl, OwnAt.nil_ _ _ _, Below.refl _ _, fun g hg => by simp [Value.ownBlock] at hg⟩
    case round =>
      rename_i v0 _
      obtain ⟨k, vn, L, hkv, rfl, hgk, hL, hown, hbw, hob⟩ := hrel
      have Hgk := Lib.hid hgk; clear hgk
      have Hown := Lib.hid hown; clear hown
      have Hob := Lib.hid hob; clear hob
      have Hkv := Lib.hid hkv
      have HL := Lib.hid hL
      have hLk : L ≤ k := by rw [hL]; exact length_filter_below _ _ _
      have hvN : vn ≤ N := by omega
      have hkN : k ≤ N := by omega
      clear hL hkv
      have hst2 : StAt wr B O N of false := Hst.out.same (hbw.block B hsB) (hbw.block O hsO)
      by_cases hlt : 1 ≤ vn
      · have hc0 := hst2.c0
        have hcn := hst2.cn hvN
        obtain ⟨x, hx⟩ : ∃ x, x = of.getD vn 0 := ⟨_, rfl⟩
        rw [← hx] at hcn
        have hneg := HS.out.neg hlt hvN
        rw [← hx] at hneg
        have Hneg := Lib.hid hneg
        clear hneg hst2 hx
        obtain ⟨u, rfl⟩ : ∃ u, vn = u + 1 := ⟨vn - 1, by omega⟩
        by_cases hxn : x < 0
        · go_wp2_with (at_builtin; refine wpList_append_one _ rfl (.tmp 45) (.tmp 48) 23 rfl 3 (.int .i64 0) 8 Try.underlying23 Try.infoInt rfl _ L _ rfl Hown.out (.int .i64 (-((u : Int) + 1))) rfl 3 rfl (by omega) (by omega) ?_; intro v' w2 hown' hgr hat)
          have Hown' := Lib.hid hown'.appended; clear hown'
          obtain ⟨hb2, hv2⟩ := below_append hbw hbw.size Hob.out hgr hat
          have Hv2 := Lib.hid hv2; clear hv2 hgr hat
          go_wp2
          go_roundg (gk - 1)
          case measure => have := Hgk.out; omega
          case rel =>
            have e1 := Hkv.out
            have e2 := Hgk.out
            refine ⟨k + 1, u, L + 1, by omega, by go_num, by omega, ?_, ?_, hb2, Hv2.out⟩
            · rw [S.below_succ, filter_snoc_true (by rw [show -(N : Int) + k = -((u + 1 : Nat) : Int) from by omega, Hneg.out]; simpa using hxn)]
              simp [HL.out]
            · rw [S.below_succ, filter_snoc_true (by rw [show -(N : Int) + k = -((u + 1 : Nat) : Int) from by omega, Hneg.out]; simpa using hxn), show -(N : Int) + k = -((u : Int) + 1) from by omega]
              exact Hown'.out
        · go_wp2
          go_roundg (gk - 1)
          case measure => have := Hgk.out; omega
          case rel =>
            have e1 := Hkv.out
            have e2 := Hgk.out
            have e3 : (S.below N (k + 1)).filter (S.derB cs given) = (S.below N k).filter (S.derB cs given) := by
              rw [S.below_succ, filter_snoc_false (by rw [show -(N : Int) + k = -((u + 1 : Nat) : Int) from by omega, Hneg.out]; simp; omega)]
            refine ⟨k + 1, u, L, by omega, by go_num, by omega, by rw [e3]; exact HL.out, by rw [e3]; exact Hown.out, hbw, Hob.out⟩
      · obtain rfl : vn = 0 := by omega
        obtain rfl : k = N := by have := Hkv.out; omega
        clear hst2
        go_wp2
        go_loopg [11, 13] (k + 1) (fun g v i wr => ∃ j M : Nat, j ≤ k ∧ i = .int .i64 ((j : Int) + 1) ∧ g + j = k + 1 ∧ M = L + ((S.above j).filter (S.derB cs given)).length ∧ OwnAt wr 3 1 v M ((((S.below k k).filter (S.derB cs given)) ++ ((S.above j).filter (S.derB cs given))).map (Value.int .i64)) ∧ Below w1.heap.size w1 wr ∧ (∀ g, v.ownBlock = some g → w1.heap.size ≤ g))
        case atStart => exact ⟨0, L, Nat.zero_le _, by go_num, rfl, rfl, by have := Hown.out; simpa [S.above] using this, hbw, Hob.out⟩
        case round =>
          clear hbw Hob Hown Hgk
          rename_i v1 _
          obtain ⟨j, M, hj, rfl, hgk, hM, hown, hbw, hob⟩ := hrel
          have Hgk := Lib.hid hgk; clear hgk
          have Hown := Lib.hid hown; clear hown
          have Hob := Lib.hid hob; clear hob
          have HM := Lib.hid hM
          have hMk : M ≤ L + j := by rw [hM]; have := length_filter_above j (S.derB cs given); omega
          clear hM
          have hst2 : StAt wr B O k of false := Hst.out.same (hbw.block B hsB) (hbw.block O hsO)
          by_cases hlt : j < k
          · have hc0 := hst2.c0
            have hcn := hst2.cn (k := j + 1) (by omega)
            obtain ⟨x, hx⟩ : ∃ x, x = of.getD (j + 1) 0 := ⟨_, rfl⟩
            rw [← hx] at hcn
            have hpos := HS.out.pos (v := j + 1) (by omega) (by omega)
            rw [← hx] at hpos
            have Hpos := Lib.hid hpos
            clear hpos hst2 hx
            by_cases hxn : 0 < x
            · go_wp2_with (at_builtin; refine wpList_append_one _ rfl (.tmp 63) (.tmp 65) 23 rfl 3 (.int .i64 0) 8 Try.underlying23 Try.infoInt rfl _ M _ rfl Hown.out (.int .i64 ((j : Int) + 1)) rfl 3 rfl (by omega) (by omega) ?_; intro v' w2 hown' hgr hat)
              have Hown' := Lib.hid hown'.appended; clear hown'
              obtain ⟨hb2, hv2⟩ := below_append hbw hbw.size Hob.out hgr hat
              have Hv2 := Lib.hid hv2; clear hv2 hgr hat
              go_wp2
              go_roundg (gk - 1)
              case measure => have := Hgk.out; omega
              case rel =>
                have e2 := Hgk.out
                refine ⟨j + 1, M + 1, by omega, by go_num, by omega, ?_, ?_, hb2, Hv2.out⟩
                · rw [S.above_succ, filter_snoc_true (by rw [show (j : Int) + 1 = ((j + 1 : Nat) : Int) from by omega, Hpos.out]; simpa using hxn)]
                  simp [HM.out, Nat.add_assoc]
                · rw [S.above_succ, filter_snoc_true (by rw [show (j : Int) + 1 = ((j + 1 : Nat) : Int) from by omega, Hpos.out]; simpa using hxn), ← List.append_assoc]
                  exact Hown'.out
            · go_wp2
              go_roundg (gk - 1)
              case measure => have := Hgk.out; omega
              case rel =>
                have e2 := Hgk.out
                have e3 : (S.above (j + 1)).filter (S.derB cs given) = (S.above j).filter (S.derB cs given) := by
                  rw [S.above_succ, filter_snoc_false (by rw [show (j : Int) + 1 = ((j + 1 : Nat) : Int) from by omega, Hpos.out]; simp; omega)]
                exact ⟨j + 1, M, by omega, by go_num, by omega, by rw [e3]; exact HM.out, by rw [e3]; exact Hown.out, hbw, Hob.out⟩
          · obtain rfl : j = k := by omega
            have hown := Hown.out
            obtain ⟨A2, c2, rfl⟩ := hown.form
            clear hst2 hown
            go_wp2
            go_ret3
            rw [S.unitsOf_list Hv.out HG.out Hinc.out]
            have hlen : (S.unitsList j cs given).length = M := by rw [HM.out, HL.out]; simp [S.unitsList]
            have hs := Hown.out.slInts
            refine ⟨A2, c2, ?_, ?_, hb1.trans (hbw.mono hb1.size)⟩
            · show _ = Ending.returned (.tuple #[.slice A2 (S.unitsList j cs given).length c2, .bool false, .int .i64 0])
              rw [hlen]; rfl
            · show SlAt _ _ _ (S.unitsList j cs given).length (S.unitsList j cs given)
              rw [hlen]; exact hs
end Go.Proofs.Ytceelipcclfdmaa
