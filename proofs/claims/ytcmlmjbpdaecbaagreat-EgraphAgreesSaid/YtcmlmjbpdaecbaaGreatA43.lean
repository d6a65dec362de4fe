/- Merged: QT7x, QT18, QPA3. -/
import Derived.Test.YtcmlmjbpdaecbaaGreatA30
import Derived.Test.YtcmlmjbpdaecbaaGreatA42
import Derived.Test.YtcmlmjbpdaecbaaGreatA38
set_option linter.unusedVariables false
set_option linter.unusedSimpArgs false
section
namespace Go.Proofs.YtcmlmjbpdaecbaaGreat
open Go.RowKit
set_option linter.unusedVariables false
set_option linter.unusedSimpArgs false

set_option maxRecDepth 100000 in
set_option maxHeartbeats 1000000 in
theorem pWidths_any (t : List T.Nd) (n ct : Nat) (At : Option Addr) (W : World) (hT : StAt 5 NdR W At n t) : Calls Tryz.prog 153 #[.slice At n ct] W (WsR t W) := by
  have HV := Lib.hid (pValidate_any t n ct At W hT)
  have HT := Lib.hid hT
  have hlen := hT.len
  clear hT
  by_cases hv : T.valid true t = 0
  · obtain ⟨v1, v2, v3, v4, v5⟩ := valid_ok hv
    rw [hv] at HV
    have HW := Lib.hid (fun W' (h : Below W.heap.size W W') => pwidths_any t n ct At W' (HT.out.below monoNd h) (T.okVars_of v3 (nd_imm HT.out)) (by omega))
    have Hv := Lib.hid hv
    have Hc := Lib.hid v5
    clear hv v1 v2 v3 v4 v5 hlen
    go_enter Tryz.func153, Tryz.ntmps153
    go_wp2_with fail
    refine HV.out.mono ?_
    rintro e w1 ⟨rfl, hb1⟩
    have Hb1 := Lib.hid hb1
    clear hb1
    go_wp2_with fail
    refine (HW.out _ Hb1.out).mono ?_
    rintro e w2 ⟨hb2, (⟨hc, rfl⟩ | ⟨_, g, rfl, hg, hrow⟩)⟩
    · rw [Hc.out] at hc; cases hc
    · have Hb2 := Lib.hid (Hb1.out.trans (hb2.mono Hb1.out.size))
      have Hg := Lib.hid (Nat.le_trans Hb1.out.size hg)
      have Hrow := Lib.hid hrow
      clear hb2 hg hrow
      go_wp2
      go_ret2
      exact ⟨Hb2.out, .inr ⟨Hv.out, g, rfl, Hg.out, Hrow.out⟩⟩
  · have Hv := Lib.hid hv
    obtain ⟨er, her⟩ : ∃ er, er = T.valid true t := ⟨_, rfl⟩
    rw [← her] at HV hv
    have hvb : (er != 0) = true := by simpa using hv
    have Her := Lib.hid her
    clear her hlen
    go_enter Tryz.func153, Tryz.ntmps153
    go_wp2_with fail
    refine HV.out.mono ?_
    rintro e w1 ⟨rfl, hb1⟩
    have Hb1 := Lib.hid hb1
    clear hb1
    go_wp2
    go_ret2
    exact ⟨Hb1.out, .inl ⟨Hv.out, by rw [← Her.out]; rfl⟩⟩

end Go.Proofs.YtcmlmjbpdaecbaaGreat
end
section
namespace Go.Proofs.YtcmlmjbpdaecbaaGreat
open Go.RowKit
set_option linter.unusedVariables false
set_option linter.unusedSimpArgs false

namespace T
/-- an environment that fits -/
structure EnvOk (t : List Nd) (env : List Int) : Prop where
  len : env.length = 4
  word : ∀ x ∈ env, 0 ≤ x ∧ x < 4294967296
  fit : ∀ (v : Nat) (z : Int), (widths t)[v]? = some z → z ≠ 0 → env.getD v 0 < B.pw z

theorem shaped_weak {k : Nat} {x : Nd} {z : Bool} (h : shaped z k x = true) : shaped false k x = true := by
  unfold shaped at h ⊢
  simp only [Bool.and_eq_true, Bool.or_eq_true, Bool.not_eq_true'] at h ⊢
  obtain ⟨⟨⟨⟨⟨⟨⟨h1, h2⟩, h3⟩, _⟩, h5⟩, h6⟩, h7⟩, h8⟩ := h
  exact ⟨⟨⟨⟨⟨⟨⟨h1, h2⟩, h3⟩, .inl (by first | rfl | trivial)⟩, h5⟩, h6⟩, h7⟩, h8⟩

theorem std_of {z : Bool} {t : List Nd} {env : List Int} (hv : valid z t = 0) (hi : ∀ y ∈ t, 0 ≤ y.imm) (he : EnvOk t env) : Std t env := by
  obtain ⟨v1, v2, v3, v4, v5⟩ := valid_ok hv
  refine ⟨fun i x hx => shaped_weak (v3 i x hx), fun i x hx => v4 x (List.mem_of_getElem? hx), hi, he.len, fun i x hx h33 => ?_⟩
  have hs := shaped_args (v3 i x hx)
  have him : x.imm < 4 := by have := hs.2.2.2.2.1; unfold immOk at this; rw [if_neg (by omega), if_pos h33] at this; simpa using this
  have h0 := hi x (List.mem_of_getElem? hx)
  have hw := widths_at v5 hi hx h33 him
  refine ⟨?_, he.fit _ _ hw (by omega)⟩
  have hl : x.imm.toNat < env.length := by have := he.len; omega
  rw [getD_lt hl]
  exact (he.word _ (List.getElem_mem hl)).1
end T

set_option maxRecDepth 100000 in
set_option maxHeartbeats 1000000 in
theorem pValues_ok (t : List T.Nd) (env : List Int) (n ct ce : Nat) (At Ae : Option Addr) (W : World) (hT : StAt 5 NdR W At n t) (hE : SlAt (IntR .u32) W Ae 4 env) (hv : T.valid true t = 0) (he : T.EnvOk t env) :
    Calls Tryz.prog 115 #[.slice At n ct, .slice Ae 4 ce] W fun e w' => ∃ g, e = .returned (.tuple #[.slice (some ⟨g, 0, none⟩) n n, .int .i64 0]) ∧ W.heap.size ≤ g ∧ w'.heap[g]? = some (.cells ((T.vals t env).map (Value.int .u32)).toArray 61 (0, 0)) ∧ Below W.heap.size W w' := by
  have HWs := Lib.hid (pWidths_any t n ct At W hT)
  have hlen := hT.len
  have hn := (valid_ok hv).2.1
  have HV := Lib.hid (fun W' (hb : Below W.heap.size W W') => pvalues_any t env n ct ce At Ae W' (hT.below monoNd hb) (hE.below (monoInt _) hb) (T.std_of hv (nd_imm hT) he) (by omega))
  obtain ⟨v1, v2, v3, v4, v5⟩ := valid_ok hv
  have Hok := Lib.hid (T.okVars_of v3 (nd_imm hT))
  have HE := Lib.hid hE
  have Hv := Lib.hid hv
  have He := Lib.hid he
  have Hi := Lib.hid (nd_imm hT)
  have HM := Lib.hid (fun z (h0 : 1 ≤ z) (h1 : z ≤ 32) W' => Mask_any z W')
  have Hsh := Lib.hid v3
  have hle := hT.le
  clear hT hE hv he v1 v2 v3 v4 v5 hlen hn
  go_enter Tryz.func115, Tryz.ntmps115
  go_wp2_with fail
  (with_reducible refine HWs.out.mono ?_)
  rintro e w1 ⟨hb1, h | ⟨_, g, rfl, hg, hrow⟩⟩
  · exact absurd Hv.out h.1
  have Hb1 := Lib.hid hb1
  have Hrow := Lib.hid hrow
  clear hb1 hrow
  go_wp2
  go_loopg [25] (5) (fun gh i wr => ∃ (k : Nat), k ≤ 4 ∧ i = .int .i64 (k : Int) ∧ gh + k = 5 ∧ w1 = wr)
  case atStart => exact ⟨0, by omega, rfl, rfl, rfl⟩
  case round =>
    obtain ⟨k, hk, rfl, hgk, rfl⟩ := hrel
    have Hgk := Lib.hid hgk; clear hgk
    by_cases hlt : k < 4
    · obtain ⟨z, hz⟩ := wd_four t hlt
      have hc : w1.cell? ⟨g, k, none⟩ = some (.int .i64 z) := by rw [cell_of_row _ _ _ _ _ (0, 0) Hrow.out, List.getElem?_toArray, List.getElem?_map, hz]; rfl
      by_cases hz0 : z = 0
      · subst hz0
        clear hz
        go_wp2
        go_roundg (gk - 1)
        case measure => have := Hgk.out; omega
        case rel => have := Hgk.out; exact ⟨k + 1, by omega, by go_num, by omega, rfl⟩
      · obtain ⟨i, y, hy, h33, hyv, hyw⟩ := T.widths_mem hz hz0
        have hs := T.shaped_args (Hsh.out i y hy)
        have hz1 : 1 ≤ z := by rw [← hyw]; exact hs.2.2.1
        have hz2 : z ≤ 32 := by rw [← hyw]; exact hs.2.2.2.1
        obtain ⟨x, be, offe, ue, hx, rfl, hbe, hce, hue⟩ := (HE.out.below (monoInt _) Hb1.out).at_ hlt
        obtain rfl : ue = .int .u32 x := hue
        have hfit := He.out.fit k z hz hz0
        rw [getD_of hx] at hfit
        have hm : decide (B.pw z - 1 < x) = false := by simp; omega
        have hq : (z == 0) = false := by simpa using hz0
        have hM := HM.out z hz1 hz2
        rw [B.isWd_iff.2 ⟨hz1, hz2⟩] at hM
        have HM2 := Lib.hid hM
        clear hx hbe hfit hy h33 hyv hyw hs hz hz0 hz1 hz2 hM
        go_wp2_with (go_at_call 35; (with_reducible refine (HM2.out _).mono ?_); rintro e w3 ⟨rfl, rfl⟩)
        go_roundg (gk - 1)
        case measure => have := Hgk.out; omega
        case rel => have := Hgk.out; exact ⟨k + 1, by omega, by go_num, by omega, rfl⟩
    · obtain rfl : k = 4 := by omega
      go_wp2_with fail
      (with_reducible refine (HV.out _ Hb1.out).mono ?_)
      rintro e w2 ⟨g2, rfl, hg2, hrow2, hb2⟩
      have Hb2 := Lib.hid (Hb1.out.trans (hb2.mono Hb1.out.size))
      have Hg2 := Lib.hid (Nat.le_trans Hb1.out.size hg2)
      have Hrow2 := Lib.hid hrow2
      clear hb2 hg2 hrow2
      go_wp2
      go_ret2
      exact ⟨g2, rfl, Hg2.out, Hrow2.out, Hb2.out⟩

set_option maxRecDepth 100000 in
set_option maxHeartbeats 1000000 in
theorem pEval_ok (t : List T.Nd) (env : List Int) (n ct ce : Nat) (At Ae : Option Addr) (W : World) (hT : StAt 5 NdR W At n t) (hE : SlAt (IntR .u32) W Ae 4 env) (hv : T.valid true t = 0) (he : T.EnvOk t env) :
    Calls Tryz.prog 78 #[.slice At n ct, .slice Ae 4 ce] W fun e w' => e = .returned (.tuple #[.int .u32 ((T.vals t env).getD (n - 1) 0), .int .i64 0]) ∧ Below W.heap.size W w' := by
  have HV := Lib.hid (pValues_ok t env n ct ce At Ae W hT hE hv he)
  have hlen := hT.len
  have hn := (valid_ok hv).1
  have hle := hT.le
  have Hl := Lib.hid (show (T.vals t env).length = n from (T.vals_len t env).trans hlen)
  rw [hlen] at hn
  obtain ⟨v, hvv⟩ : ∃ v, v = (T.vals t env).getD (n - 1) 0 := ⟨_, rfl⟩
  rw [← hvv]
  have Hvv := Lib.hid hvv
  clear hT hE hv he hlen hvv
  go_enter Tryz.func78, Tryz.ntmps78
  go_wp2_with fail
  (with_reducible refine HV.out.mono ?_)
  rintro e w1 ⟨g, rfl, hg, hrow, hb1⟩
  have Hb1 := Lib.hid hb1
  have hx : (T.vals t env)[n - 1]? = some v := by rw [Hvv.out, T.getD_lt (by rw [Hl.out]; omega)]; exact List.getElem?_eq_getElem _
  have hc : w1.cell? ⟨g, n - 1, none⟩ = some (.int .u32 v) := by rw [cell_of_row _ _ _ _ _ (0, 0) hrow, List.getElem?_toArray, List.getElem?_map, hx]; rfl
  have hs : ((n : Int) - 1).toNat = n - 1 := by omega
  clear hb1 hrow hx hg
  go_wp2
  go_ret2
  exact ⟨rfl, Hb1.out⟩
end Go.Proofs.YtcmlmjbpdaecbaaGreat
end
section
namespace Go.Proofs.YtcmlmjbpdaecbaaGreat
set_option linter.unusedVariables false
set_option linter.unusedSimpArgs false
namespace E
def kn (x : Opn) : Nat := (T.ar x.op).toNat
def ndc (w v : Int) : T.Nd := ⟨0, w, 0, [], v⟩
def ndo (x : Opn) : T.Nd := ⟨x.op, x.w, 0, (List.range (kn x)).map fun i => ((i : Nat) : Int), x.imm⟩
/-- constants for the operands -/
def tmC (wd : List Int) (x : Opn) (vs : List Int) (j : Nat) : List T.Nd := (List.range j).map fun i => ndc (argW wd x i) (vs.getD i 0)
/-- an operation over constants -/
def tmV (wd : List Int) (x : Opn) (vs : List Int) : List T.Nd := tmC wd x vs (kn x) ++ [ndo x]
/-- the value of an operation -/
def opv (wd env : List Int) (x : Opn) (vs : List Int) : Int := T.val (tmV wd x vs) vs env (ndo x)
def vsOf (V : Nat → Int) (x : Opn) : List Int := (List.range (kn x)).map fun i => V (arg x i).toNat
theorem tmV_len (wd : List Int) (x : Opn) (vs : List Int) : (tmV wd x vs).length = kn x + 1 := by simp [tmV, tmC]
theorem tmV_lt {wd : List Int} {x : Opn} {vs : List Int} {i : Nat} (h : i < kn x) : (tmV wd x vs)[i]? = some (ndc (argW wd x i) (vs.getD i 0)) := by
  unfold tmV tmC
  rw [List.getElem?_append_left (by simpa using h), List.getElem?_map, List.getElem?_range h]
  rfl
theorem tmV_eq (wd : List Int) (x : Opn) (vs : List Int) : (tmV wd x vs)[kn x]? = some (ndo x) := by
  unfold tmV tmC
  rw [List.getElem?_append_right (by simp)]
  simp
theorem tmV_cases {wd : List Int} {x : Opn} {vs : List Int} {i : Nat} {y : T.Nd} (h : (tmV wd x vs)[i]? = some y) : (i < kn x ∧ y = ndc (argW wd x i) (vs.getD i 0)) ∨ (i = kn x ∧ y = ndo x) := by
  have hl := (List.getElem?_eq_some_iff.1 h).1
  rw [tmV_len] at hl
  rcases Nat.lt_or_ge i (kn x) with hi | hi
  · rw [tmV_lt hi] at h; cases h; exact .inl ⟨hi, rfl⟩
  · have : i = kn x := by omega
    subst this
    rw [tmV_eq] at h; cases h; exact .inr ⟨rfl, rfl⟩
theorem ndo_arg {x : Opn} {i : Nat} (h : i < kn x) : (ndo x).args.getD i 0 = (i : Int) := by
  unfold ndo
  rw [List.getD_eq_getElem?_getD, List.getElem?_map, List.getElem?_range h]
  rfl
theorem tm_wd {wd : List Int} {x : Opn} {vs : List Int} {i : Nat} (h : i < kn x) : T.wd (tmV wd x vs) (ndo x) i = argW wd x i := by
  unfold T.wd
  rw [ndo_arg h, Int.toNat_natCast, List.getD_eq_getElem?_getD, tmV_lt h]
  rfl
theorem tm_at {x : Opn} {vs : List Int} {i : Nat} (h : i < kn x) : T.at_ vs (ndo x) i = vs.getD i 0 := by
  unfold T.at_
  rw [ndo_arg h, Int.toNat_natCast]
theorem Ty.kn_le {wd : List Int} {x : Opn} (h : Ty wd x) : ((kn x : Nat) : Int) = T.ar x.op ∧ kn x ≤ 3 := by
  have := h.n
  have := ar_3 x.op
  unfold kn
  omega
/-- the term is valid -/
theorem Ty.valid {wd : List Int} {x : Opn} (h : Ty wd x) {vs : List Int} (hv : ∀ i, i < kn x → 0 ≤ vs.getD i 0 ∧ vs.getD i 0 < B.pw (argW wd x i)) : T.valid true (tmV wd x vs) = 0 := by
  obtain ⟨k1, k2⟩ := h.kn_le
  have h2 : 1 ≤ x.op → x.op ≤ 14 → T.ar x.op = 2 := fun a b => by unfold T.ar; rw [if_neg (by omega), if_pos ⟨a, b⟩]
  have h15 : x.op = 15 → T.ar x.op = 3 := fun a => by unfold T.ar; rw [if_neg (by omega), if_neg (by omega), if_pos a]
  have h16 : 16 ≤ x.op → x.op ≤ 18 → T.ar x.op = 1 := fun a b => by unfold T.ar; rw [if_neg (by omega), if_neg (by omega), if_neg (by omega), if_pos ⟨a, b⟩]
  refine valid_iff.2 ⟨by rw [tmV_len]; omega, by rw [tmV_len]; omega, fun i y hy => ?_, fun y hy => ?_, ?_⟩
  · rcases tmV_cases hy with ⟨hi, rfl⟩ | ⟨rfl, rfl⟩
    · have hw := h.ws i (by omega)
      have hvi := hv i hi
      unfold T.shaped ndc
      have e1 : T.ar (0 : Int) = 0 := by decide
      have e2 : T.immOk ⟨0, argW wd x i, 0, [], vs.getD i 0⟩ = true := by
        unfold T.immOk
        rw [if_pos rfl]
        show B.isW (argW wd x i) (vs.getD i 0) = true
        unfold B.isW
        rw [B.isWd_iff.2 hw, decide_eq_true hvi.2]
        rfl
      simp only [e1, e2, Bool.and_eq_true, Bool.or_eq_true, decide_eq_true_eq]
      refine ⟨⟨⟨⟨⟨⟨⟨by omega, hw.1⟩, hw.2⟩, .inr ?_⟩, ?_⟩, ?_⟩, .inl ?_⟩, ?_⟩
      all_goals first | rfl | trivial | simp [T.argsOk]
    · have hn := h.n
      have hc := h.c1
      unfold T.shaped
      have e2 : T.immOk (ndo x) = true := h.im
      have e3 : T.argsOk (kn x) (ndo x).args = true := by
        unfold T.argsOk ndo
        rw [List.all_eq_true]
        intro a ha
        obtain ⟨j, hj, rfl⟩ := List.mem_map.1 ha
        have := List.mem_range.1 hj
        simp; omega
      have e4 : (((ndo x).args.length : Nat) : Int) = T.ar (ndo x).op := by
        show (((List.range (kn x)).map fun i => ((i : Nat) : Int)).length : Int) = T.ar x.op
        rw [List.length_map, List.length_range]; exact k1
      rw [e2, e3]
      simp only [Bool.and_eq_true, Bool.or_eq_true, decide_eq_true_eq]
      refine ⟨⟨⟨⟨⟨⟨⟨hn, h.w.1⟩, h.w.2⟩, .inr rfl⟩, e4⟩, trivial⟩, ?_⟩, trivial⟩
      by_cases ho : x.op = 14
      · exact .inr (hc ho)
      · refine .inl ?_
        show (!decide (x.op = 14)) = true
        simp [ho]
  · obtain ⟨i, hi⟩ := List.getElem?_of_mem hy
    rcases tmV_cases hi with ⟨hi, rfl⟩ | ⟨rfl, rfl⟩
    · unfold T.typed ndc
      simp
    · unfold T.typed
      have eo : (ndo x).op = x.op := rfl
      have ew : (ndo x).w = x.w := rfl
      rw [eo, ew]
      split
      · rename_i c
        have := h2 c.1 (by omega)
        have := h.bin c.1 c.2
        rw [tm_wd (by omega), tm_wd (by omega)]
        simp [this.1, this.2]
      · split
        · rename_i c
          have := h2 (by omega) (by omega)
          rw [tm_wd (by omega), tm_wd (by omega)]
          simp [h.cmp c]
        · split
          · rename_i c
            have := h15 c
            have := h.ite c
            rw [tm_wd (by omega), tm_wd (by omega), tm_wd (by omega)]
            simp [this.1, this.2.1, this.2.2]
          · split
            · rename_i c
              have := h16 (by omega) (by omega)
              rw [tm_wd (by omega)]
              simpa using h.up c
            · split
              · rename_i c
                have := h16 (by omega) (by omega)
                rw [tm_wd (by omega)]
                simpa using h.down c
              · rfl
  · rw [T.clashes_iff]
    intro i j y z hij hy hz
    have hj := (List.getElem?_eq_some_iff.1 hz).1
    rw [tmV_len] at hj
    rcases tmV_cases hy with ⟨hi, rfl⟩ | ⟨rfl, rfl⟩
    · unfold T.clash ndc
      simp
    · omega
/-- an environment that fits the variables -/
structure EnvG (vr : Vr) (env : List Int) : Prop where
  len : env.length = 4
  word : ∀ x ∈ env, 0 ≤ x ∧ x < 4294967296
  fit : ∀ i, i < 4 → 0 < vr.get i → env.getD i 0 < B.pw (vr.get i)
theorem EnvG.tm {vr : Vr} {env : List Int} (h : EnvG vr env) {wd : List Int} {x : Opn} (ht : Ty wd x) (hv : x.op = 33 → vr.get x.imm.toNat = x.w) (vs : List Int) : T.EnvOk (tmV wd x vs) env := by
  refine ⟨h.len, h.word, fun v z hz h0 => ?_⟩
  obtain ⟨i, y, hy, ho, hv', hw⟩ := T.widths_mem hz h0
  rcases tmV_cases hy with ⟨_, rfl⟩ | ⟨_, rfl⟩
  · have h1 : (0 : Int) = 33 := ho
    exact absurd h1 (by decide)
  · have ho' : x.op = 33 := ho
    have hi : x.imm.toNat = v := hv'
    have hw' : x.w = z := hw
    have h4 : x.imm < 4 := by
      have := ht.im
      unfold T.immOk at this
      rw [if_neg (by dsimp only; omega), if_pos ho'] at this
      exact of_decide_eq_true this
    have e := hv ho'
    rw [hi] at e
    have hwr := ht.w
    have := h.fit v (by have := ht.i0; omega) (by omega)
    rwa [e, hw'] at this
theorem tm_std {vr : Vr} {env : List Int} (h : EnvG vr env) {wd : List Int} {x : Opn} (ht : Ty wd x) (hv : x.op = 33 → vr.get x.imm.toNat = x.w) {vs : List Int} (hw : ∀ i, i < kn x → 0 ≤ vs.getD i 0 ∧ vs.getD i 0 < B.pw (argW wd x i)) : T.Std (tmV wd x vs) env :=
  T.std_of (ht.valid hw) (fun y hy => by
    obtain ⟨i, hi⟩ := List.getElem?_of_mem hy
    rcases tmV_cases hi with ⟨hk, rfl⟩ | ⟨_, rfl⟩
    · exact (hw i hk).1
    · exact ht.i0.1) (h.tm ht hv vs)
theorem tm_words {wd : List Int} {x : Opn} {vs : List Int} (hl : vs.length = kn x) (hw : ∀ i, i < kn x → 0 ≤ vs.getD i 0 ∧ vs.getD i 0 < B.pw (argW wd x i)) : T.Words (tmV wd x vs) vs := fun i y hi hy => by
  rw [hl] at hi
  rw [tmV_lt hi] at hy
  cases hy
  exact hw i hi
/-- what the node of an operation has -/
theorem tm_nod {vr : Vr} {env : List Int} (h : EnvG vr env) {wd : List Int} {x : Opn} (ht : Ty wd x) (hv : x.op = 33 → vr.get x.imm.toNat = x.w) {vs : List Int} (hl : vs.length = kn x) (hw : ∀ i, i < kn x → 0 ≤ vs.getD i 0 ∧ vs.getD i 0 < B.pw (argW wd x i)) : T.Nod (tmV wd x vs) env vs (ndo x) :=
  (tm_std h ht hv hw).nod (tm_words hl hw) (by rw [hl]; exact tmV_eq wd x vs)
theorem opv_word {vr : Vr} {env : List Int} (h : EnvG vr env) {wd : List Int} {x : Opn} (ht : Ty wd x) (hv : x.op = 33 → vr.get x.imm.toNat = x.w) {vs : List Int} (hl : vs.length = kn x) (hw : ∀ i, i < kn x → 0 ≤ vs.getD i 0 ∧ vs.getD i 0 < B.pw (argW wd x i)) : 0 ≤ opv wd env x vs ∧ opv wd env x vs < B.pw x.w :=
  T.val_word (tm_std h ht hv hw) (tm_words hl hw) (by rw [hl]; exact tmV_eq wd x vs)
/-- Eval tells it -/
theorem tm_vals {wd env : List Int} {x : Opn} {vs : List Int} (hl : vs.length = kn x) : (T.vals (tmV wd x vs) env).getD (kn x) 0 = opv wd env x vs := by
  have hk : ∀ j, j ≤ kn x → T.valsTo (tmV wd x vs) env j = vs.take j := by
    intro j
    induction j with
    | zero => intro _; simp [T.valsTo]
    | succ j ih =>
      intro hj
      have hn : (tmV wd x vs).getD j default = ndc (argW wd x j) (vs.getD j 0) := by rw [List.getD_eq_getElem?_getD, tmV_lt (by omega)]; rfl
      rw [T.valsTo, ih (by omega), hn]
      have : T.val (tmV wd x vs) (vs.take j) env (ndc (argW wd x j) (vs.getD j 0)) = vs.getD j 0 := T.val_0 rfl
      rw [this, List.take_add_one, List.getD_eq_getElem?_getD, List.getElem?_eq_getElem (by omega)]
      rfl
  have hn : (tmV wd x vs).getD (kn x) default = ndo x := by rw [List.getD_eq_getElem?_getD, tmV_eq]; rfl
  unfold T.vals
  rw [tmV_len, T.valsTo, hk _ (Nat.le_refl _), hn, List.take_of_length_le (by omega)]
  have := T.getD_end (l := vs) (d := (0 : Int)) (a := T.val (tmV wd x vs) vs env (ndo x))
  rw [hl] at this
  exact this

/-- all operations agree -/
def Cons (s : Gr) (env : List Int) (V : Nat → Int) : Prop := ∀ e ∈ s.es, V (root s.p e.2) = opv s.wd env e.1 (vsOf V e.1)
theorem Alike.cons {s r : Gr} (h : Alike s r) (env : List Int) (V : Nat → Int) : Cons s env V ↔ Cons r env V := by
  refine ⟨fun c f hf => ?_, fun c e he => ?_⟩
  · obtain ⟨e, he, e1, e2⟩ := h.back f hf
    have := c e he
    rw [e1, e2, h.rt, h.wd] at this
    exact this
  · obtain ⟨f, hf, f1, f2⟩ := h.l e he
    have := c f hf
    rw [f1, f2, ← h.rt, ← h.wd] at this
    exact this
/-- what both need of a graph -/
structure Ag (s : Gr) (env : List Int) : Prop where
  down : Down s.p
  ty : ∀ e ∈ s.es, Ty s.wd e.1
  inn : In s.p s.es
  vr : ∀ e ∈ s.es, e.1.op = 33 → s.vr.get e.1.imm.toNat = e.1.w
  cw : ∀ e ∈ s.es, s.wd.getD (root s.p e.2) 0 = e.1.w
  gr : ∀ c, c < s.p.length → Grd s.p s.es c
  keys : Keys s
  ar : ∀ e ∈ s.es, Ar s.p.length e.1
  env : EnvG s.vr env
theorem Two.ag {s r : Gr} (h : Two s r) (t : Typ s) (v : TypV s) {env : List Int} (he : EnvG s.vr env) : Ag s env ∧ Ag r env := by
  refine ⟨⟨h.s.ok.down, t.ty, h.s.ok.inn, v.vr, fun e he' => by rw [t.rw _ (h.s.ok.inn e he')]; exact t.cw e he', t.gr, h.s.keys, h.s.ok.ar, he⟩, ⟨h.r.ok.down, fun f hf => ?_, h.r.ok.inn, fun f hf ho => ?_, fun f hf => ?_, fun c hc => ?_, h.r.keys, h.r.ok.ar, h.al.vr ▸ he⟩⟩
  · obtain ⟨e, he', e1, _⟩ := h.al.back f hf
    rw [← h.al.wd, ← e1]; exact t.ty e he'
  · obtain ⟨e, he', e1, _⟩ := h.al.back f hf
    rw [← h.al.vr, ← e1]; exact v.vr e he' (e1 ▸ ho)
  · obtain ⟨e, he', e1, e2⟩ := h.al.back f hf
    rw [← h.al.wd, ← h.al.rt, ← e2, ← e1, t.rw _ (h.s.ok.inn e he')]; exact t.cw e he'
  · have hg := t.gr c (h.al.len ▸ hc)
    clear hc
    induction hg with
    | @mk e c he' h1 ha ih =>
      obtain ⟨f, hf, f1, f2⟩ := h.al.l e he'
      refine .mk hf ?_ fun i hi h0 => ?_
      · rw [f2, ← h.al.rt, ← h.al.rt]; exact h1
      · rw [f1] at h0 ⊢; exact ih i hi h0
/-- values that are known so far -/
structure Val (s : Gr) (env : List Int) (f : Nat → Option Int) : Prop where
  sub : ∀ V, Cons s env V → ∀ c m, f c = some m → V c = m
  word : ∀ c m, f c = some m → c < s.p.length ∧ 0 ≤ m ∧ m < B.pw (s.wd.getD c 0)
def Known (f : Nat → Option Int) (x : Opn) : Prop := ∀ i, i < kn x → ∃ m, f (arg x i).toNat = some m
def fv (f : Nat → Option Int) (c : Nat) : Int := (f c).getD 0
theorem vsOf_getD {V : Nat → Int} {x : Opn} {i : Nat} (h : i < kn x) : (vsOf V x).getD i 0 = V (arg x i).toNat := by
  unfold vsOf
  rw [List.getD_eq_getElem?_getD, List.getElem?_map, List.getElem?_range h]
  rfl
theorem vsOf_len (V : Nat → Int) (x : Opn) : (vsOf V x).length = kn x := by simp [vsOf]
theorem Val.start (s : Gr) (env : List Int) : Val s env (fun _ => none) := ⟨(fun _ _ _ _ h => by cases h), (fun _ _ h => by cases h)⟩
section
variable {s : Gr} {env : List Int} {f : Nat → Option Int} {e : Opn × Nat}
theorem Val.words (h : Val s env f) (hk : Known f e.1) : ∀ i, i < kn e.1 → 0 ≤ (vsOf (fv f) e.1).getD i 0 ∧ (vsOf (fv f) e.1).getD i 0 < B.pw (argW s.wd e.1 i) := fun i hi => by
  rw [vsOf_getD hi]
  obtain ⟨m, hm⟩ := hk i hi
  have := (h.word _ _ hm).2
  unfold fv
  rw [hm]
  exact this
theorem Val.same (h : Val s env f) (hk : Known f e.1) {V : Nat → Int} (hV : Cons s env V) : vsOf V e.1 = vsOf (fv f) e.1 := by
  unfold vsOf
  apply List.map_congr_left
  intro i hi
  obtain ⟨m, hm⟩ := hk i (List.mem_range.1 hi)
  rw [h.sub V hV _ _ hm]
  unfold fv
  rw [hm]; rfl
/-- an operation with a class that has another value -/
theorem Val.bad (h : Val s env f) (he : e ∈ s.es) (hk : Known f e.1) {m : Int} (hm : f (root s.p e.2) = some m) (hne : m ≠ opv s.wd env e.1 (vsOf (fv f) e.1)) : ¬ ∃ V, Cons s env V := by
  rintro ⟨V, hV⟩
  have h1 := hV e he
  rw [h.same hk hV, h.sub V hV _ _ hm] at h1
  exact hne h1
/-- a class becomes known -/
theorem Val.set (h : Val s env f) (a : Ag s env) (he : e ∈ s.es) (hk : Known f e.1) : Val s env (fun c => if c = root s.p e.2 then some (opv s.wd env e.1 (vsOf (fv f) e.1)) else f c) := by
  refine ⟨fun V hV c m hm => ?_, fun c m hm => ?_⟩
  · split at hm
    · rename_i hc
      cases hm
      have h1 := hV e he
      rw [h.same hk hV] at h1
      rw [hc]; exact h1
    · exact h.sub V hV c m hm
  · split at hm
    · rename_i hc
      cases hm
      rw [hc]
      refine ⟨root_lt (a.inn e he), ?_⟩
      rw [a.cw e he]
      exact opv_word a.env (a.ty e he) (a.vr e he) (vsOf_len _ _) (h.words hk)
    · exact h.word c m hm
theorem Ag.arg_root (a : Ag s env) (he : e ∈ s.es) {i : Nat} (hi : i < kn e.1) : 0 ≤ arg e.1 i ∧ root s.p (arg e.1 i).toNat = (arg e.1 i).toNat ∧ (arg e.1 i).toNat < s.p.length := by
  obtain ⟨k1, k2⟩ := (a.ty e he).kn_le
  have h0 := (a.ty e he).hi i (by omega)
  have hc : cr s.p (arg e.1 i) = arg e.1 i := by rw [← arg_can, a.keys e he]
  unfold cr at hc
  rw [if_neg (by omega)] at hc
  have har : ArOk s.p.length (arg e.1 i) := by
    rcases i with _ | _ | i
    · exact (a.ar e he).1
    · exact (a.ar e he).2.1
    · exact (a.ar e he).2.2
  refine ⟨h0, by omega, ?_⟩
  rcases har with e | e <;> omega
/-- every class is known where nothing new is to be told -/
theorem Ag.all (a : Ag s env) (hc : ∀ e ∈ s.es, Known f e.1 → ∃ m, f (root s.p e.2) = some m) {c : Nat} (h : Grd s.p s.es c) : ∃ m, f (root s.p c) = some m := by
  induction h with
  | @mk e c he h1 ha ih =>
    rw [h1]
    refine hc e he fun i hi => ?_
    obtain ⟨g0, g1, _⟩ := a.arg_root he hi
    obtain ⟨_, k2⟩ := (a.ty e he).kn_le
    obtain ⟨m, hm⟩ := ih i (by omega) g0
    rw [g1] at hm
    exact ⟨m, hm⟩
theorem Ag.known (a : Ag s env) (hc : ∀ e ∈ s.es, Known f e.1 → ∃ m, f (root s.p e.2) = some m) (he : e ∈ s.es) : Known f e.1 := fun i hi => by
  obtain ⟨g0, g1, g2⟩ := a.arg_root he hi
  obtain ⟨m, hm⟩ := a.all hc (a.gr _ g2)
  rw [g1] at hm
  exact ⟨m, hm⟩
/-- all operations were asked, and none has a class with another value -/
theorem Ag.good (a : Ag s env) (hc : ∀ e ∈ s.es, Known f e.1 → f (root s.p e.2) = some (opv s.wd env e.1 (vsOf (fv f) e.1))) : ∃ V, Cons s env V := by
  refine ⟨fv f, fun e he => ?_⟩
  have hk := a.known (fun e he hk => ⟨_, hc e he hk⟩) he
  unfold fv
  rw [hc e he hk]
  rfl
end
end E
end Go.Proofs.YtcmlmjbpdaecbaaGreat
end
