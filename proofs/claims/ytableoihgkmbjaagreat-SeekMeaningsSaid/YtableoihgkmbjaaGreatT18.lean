/- The value of a term: the program, where the term and the environment are right. -/
import Derived.Test.YtableoihgkmbjaaGreatT17
namespace Go.Proofs.YtableoihgkmbjaaGreat
open Go.RowKit
set_option linter.unusedVariables false
set_option linter.unusedSimpArgs false

namespace T
/-- an environment that fits -/
structure EnvOk (t : List Nd) (env : List Int) : Prop where
  len : env.length = 4
  word : ∀ x ∈ env, 0 ≤ x ∧ x < 4294967296
  fit : ∀ (v : Nat) (z : Int), (widths t)[v]? = some z → z ≠ 0 → env.getD v 0 < B.pw z

theorem shaped_weak {k : Nat} {x : Nd} {z : Bool} (h : shaped z k x = true) : shaped false k x = true := by
  unfold shaped at h ⊢
  simp only [Bool.and_eq_true, Bool.or_eq_true, Bool.not_eq_true'] at h ⊢
  obtain ⟨⟨⟨⟨⟨⟨⟨h1, h2⟩, h3⟩, _⟩, h5⟩, h6⟩, h7⟩, h8⟩ := h
  exact ⟨⟨⟨⟨⟨⟨⟨h1, h2⟩, h3⟩, .inl (by first | rfl | trivial)⟩, h5⟩, h6⟩, h7⟩, h8⟩

theorem std_of {z : Bool} {t : List Nd} {env : List Int} (hv : valid z t = 0) (hi : ∀ y ∈ t, 0 ≤ y.imm) (he : EnvOk t env) : Std t env := by
  obtain ⟨v1, v2, v3, v4, v5⟩ := valid_ok hv
  refine ⟨fun i x hx => shaped_weak (v3 i x hx), fun i x hx => v4 x (List.mem_of_getElem? hx), hi, he.len, fun i x hx h33 => ?_⟩
  have hs := shaped_args (v3 i x hx)
  have him : x.imm < 4 := by have := hs.2.2.2.2.1; unfold immOk at this; rw [if_neg (by omega), if_pos h33] at this; simpa using this
  have h0 := hi x (List.mem_of_getElem? hx)
  have hw := widths_at v5 hi hx h33 him
  refine ⟨?_, he.fit _ _ hw (by omega)⟩
  have hl : x.imm.toNat < env.length := by have := he.len; omega
  rw [getD_lt hl]
  exact (he.word _ (List.getElem_mem hl)).1
end T

set_option maxRecDepth 100000 in
set_option maxHeartbeats 1000000 in
theorem pValues_ok (t : List T.Nd) (env : List Int) (n ct ce : Nat) (At Ae : Option Addr) (W : World) (hT : StAt 5 NdR W At n t) (hE : SlAt (IntR .u32) W Ae 4 env) (hv : T.valid true t = 0) (he : T.EnvOk t env) :
    Calls Tryz.prog 69 #[.slice At n ct, .slice Ae 4 ce] W fun e w' => ∃ g, e = .returned (.tuple #[.slice (some ⟨g, 0, none⟩) n n, .int .i64 0]) ∧ W.heap.size ≤ g ∧ w'.heap[g]? = some (.cells ((T.vals t env).map (Value.int .u32)).toArray 39 (0, 0)) ∧ Below W.heap.size W w' := by
  have HWs := Lib.hid (pWidths_any t n ct At W hT)
  have hlen := hT.len
  have hn := (valid_ok hv).2.1
  have HV := Lib.hid (fun W' (hb : Below W.heap.size W W') => pvalues_any t env n ct ce At Ae W' (hT.below monoNd hb) (hE.below (monoInt _) hb) (T.std_of hv (nd_imm hT) he) (by omega))
  obtain ⟨v1, v2, v3, v4, v5⟩ := valid_ok hv
  have Hok := Lib.hid (T.okVars_of v3 (nd_imm hT))
  have HE := Lib.hid hE
  have Hv := Lib.hid hv
  have He := Lib.hid he
  have Hi := Lib.hid (nd_imm hT)
  have HM := Lib.hid (fun z (h0 : 1 ≤ z) (h1 : z ≤ 32) W' => Mask_any z W')
  have Hsh := Lib.hid v3
  have hle := hT.le
  clear hT hE hv he v1 v2 v3 v4 v5 hlen hn
  go_enter Tryz.func69, Tryz.ntmps69
  go_wp2_with fail
  (with_reducible refine HWs.out.mono ?_)
  rintro e w1 ⟨hb1, h | ⟨_, g, rfl, hg, hrow⟩⟩
  · exact absurd Hv.out h.1
  have Hb1 := Lib.hid hb1
  have Hrow := Lib.hid hrow
  clear hb1 hrow
  go_wp2
  go_loopg [25] (5) (fun gh i wr => ∃ (k : Nat), k ≤ 4 ∧ i = .int .i64 (k : Int) ∧ gh + k = 5 ∧ w1 = wr)
  case atStart => exact ⟨0, by omega, rfl, rfl, rfl⟩
  case round =>
    obtain ⟨k, hk, rfl, hgk, rfl⟩ := hrel
    have Hgk := Lib.hid hgk; clear hgk
    by_cases hlt : k < 4
    · obtain ⟨z, hz⟩ := wd_four t hlt
      have hc : w1.cell? ⟨g, k, none⟩ = some (.int .i64 z) := by rw [cell_of_row _ _ _ _ _ (0, 0) Hrow.out, List.getElem?_toArray, List.getElem?_map, hz]; rfl
      by_cases hz0 : z = 0
      · subst hz0
        clear hz
        go_wp2
        go_roundg (gk - 1)
        case measure => have := Hgk.out; omega
        case rel => have := Hgk.out; exact ⟨k + 1, by omega, by go_num, by omega, rfl⟩
      · obtain ⟨i, y, hy, h33, hyv, hyw⟩ := T.widths_mem hz hz0
        have hs := T.shaped_args (Hsh.out i y hy)
        have hz1 : 1 ≤ z := by rw [← hyw]; exact hs.2.2.1
        have hz2 : z ≤ 32 := by rw [← hyw]; exact hs.2.2.2.1
        obtain ⟨x, be, offe, ue, hx, rfl, hbe, hce, hue⟩ := (HE.out.below (monoInt _) Hb1.out).at_ hlt
        obtain rfl : ue = .int .u32 x := hue
        have hfit := He.out.fit k z hz hz0
        rw [getD_of hx] at hfit
        have hm : decide (B.pw z - 1 < x) = false := by simp; omega
        have hq : (z == 0) = false := by simpa using hz0
        have hM := HM.out z hz1 hz2
        rw [B.isWd_iff.2 ⟨hz1, hz2⟩] at hM
        have HM2 := Lib.hid hM
        clear hx hbe hfit hy h33 hyv hyw hs hz hz0 hz1 hz2 hM
        go_wp2_with (go_at_call 22; (with_reducible refine (HM2.out _).mono ?_); rintro e w3 ⟨rfl, rfl⟩)
        go_roundg (gk - 1)
        case measure => have := Hgk.out; omega
        case rel => have := Hgk.out; exact ⟨k + 1, by omega, by go_num, by omega, rfl⟩
    · obtain rfl : k = 4 := by omega
      go_wp2_with fail
      (with_reducible refine (HV.out _ Hb1.out).mono ?_)
      rintro e w2 ⟨g2, rfl, hg2, hrow2, hb2⟩
      have Hb2 := Lib.hid (Hb1.out.trans (hb2.mono Hb1.out.size))
      have Hg2 := Lib.hid (Nat.le_trans Hb1.out.size hg2)
      have Hrow2 := Lib.hid hrow2
      clear hb2 hg2 hrow2
      go_wp2
      go_ret2
      exact ⟨g2, rfl, Hg2.out, Hrow2.out, Hb2.out⟩

set_option maxRecDepth 100000 in
set_option maxHeartbeats 1000000 in
theorem pEval_ok (t : List T.Nd) (env : List Int) (n ct ce : Nat) (At Ae : Option Addr) (W : World) (hT : StAt 5 NdR W At n t) (hE : SlAt (IntR .u32) W Ae 4 env) (hv : T.valid true t = 0) (he : T.EnvOk t env) :
    Calls Tryz.prog 51 #[.slice At n ct, .slice Ae 4 ce] W fun e w' => e = .returned (.tuple #[.int .u32 ((T.vals t env).getD (n - 1) 0), .int .i64 0]) ∧ Below W.heap.size W w' := by
  have HV := Lib.hid (pValues_ok t env n ct ce At Ae W hT hE hv he)
  have hlen := hT.len
  have hn := (valid_ok hv).1
  have hle := hT.le
  have Hl := Lib.hid (show (T.vals t env).length = n from (T.vals_len t env).trans hlen)
  rw [hlen] at hn
  obtain ⟨v, hvv⟩ : ∃ v, v = (T.vals t env).getD (n - 1) 0 := ⟨_, rfl⟩
  rw [← hvv]
  have Hvv := Lib.hid hvv
  clear hT hE hv he hlen hvv
  go_enter Tryz.func51, Tryz.ntmps51
  go_wp2_with fail
  (with_reducible refine HV.out.mono ?_)
  rintro e w1 ⟨g, rfl, hg, hrow, hb1⟩
  have Hb1 := Lib.hid hb1
  have hx : (T.vals t env)[n - 1]? = some v := by rw [Hvv.out, T.getD_lt (by rw [Hl.out]; omega)]; exact List.getElem?_eq_getElem _
  have hc : w1.cell? ⟨g, n - 1, none⟩ = some (.int .u32 v) := by rw [cell_of_row _ _ _ _ _ (0, 0) hrow, List.getElem?_toArray, List.getElem?_map, hx]; rfl
  have hs : ((n : Int) - 1).toNat = n - 1 := by omega
  clear hb1 hrow hx hg
  go_wp2
  go_ret2
  exact ⟨rfl, Hb1.out⟩
end Go.Proofs.YtableoihgkmbjaaGreat
