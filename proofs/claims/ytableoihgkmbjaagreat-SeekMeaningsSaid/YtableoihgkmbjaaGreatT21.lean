/- The table of a term: the reference's MeaningOf, the program's; the law SeekTerms. -/
import Derived.Test.YtableoihgkmbjaaGreatT20
namespace Go.Proofs.YtableoihgkmbjaaGreat
open Go.RowKit
set_option linter.unusedVariables false
set_option linter.unusedSimpArgs false

theorem splice_fill (xs : List Int) (h : xs.length ≤ 4) : splice (List.replicate 4 (.int .u32 0)) 0 (xs.map (Value.int .u32)) = fillC xs 4 := by
  unfold splice fillC
  rw [List.take_zero, List.nil_append, Nat.zero_add, List.length_map, List.drop_replicate]

theorem src_of {w : World} {A : Option Addr} {us : List Value} (h : ∀ j u, us[j]? = some u → ∃ ad : Addr, A = some ad ∧ w.cell? (ad.add j) = some u) (hp : 0 < us.length) : ∃ ad, A = some ad ∧ ∀ j v, us[j]? = some v → w.cell? (ad.add j) = some v := by
  obtain ⟨ad, he, _⟩ := h 0 us[0] (List.getElem?_eq_getElem hp)
  refine ⟨ad, he, fun j v hv => ?_⟩
  obtain ⟨ad', he', hc⟩ := h j v hv
  rw [he] at he'
  cases he'
  exact hc
set_option maxRecDepth 100000 in
set_option maxHeartbeats 4000000 in
theorem rmeaningOf_any (t : List T.Nd) (k w : Nat) (hk : k = 1 ∨ k = 2) (hw : w = 1 ∨ w = 2 ∨ w = 3) (n ct : Nat) (At : Option Addr) (W : World) (hT : StAt 5 NdR W At n t) (hask : K.askedT t k w = 0) :
    Calls Tryz.prog 27 #[.slice At n ct, .int .i64 k, .int .i64 w] W fun e w' => ∃ v, e = .returned v ∧ OwnAt w' 39 1 v (K.size k w) ((K.tblOf t k w).map (Value.int .u32)) ∧ (∀ g, v.ownBlock = some g → W.heap.size ≤ g) ∧ Below W.heap.size W w' := by
  have hv : T.valid true t = 0 := by
    apply Classical.byContradiction
    intro h
    unfold K.askedT at hask
    rw [if_pos h] at hask
    exact h hask
  have hom : K.odd t w = false ∧ K.more t k = false := by
    unfold K.askedT at hask
    rw [if_neg (by simpa using hv), if_neg (by rw [K.over_iff.2 (by omega)]; simp)] at hask
    split at hask
    · omega
    · rename_i h
      split at hask
      · omega
      · rename_i h2
        rw [Int.toNat_natCast] at h2
        exact ⟨by simpa using fun h' => h (.inr h'), by simpa using h2⟩
  have HR := Lib.hid (fun W' => rinputs_any k w hk hw W')
  have hln := hT.len
  have hle := hT.le
  obtain ⟨v1, v2, v3, v4, v5⟩ := valid_ok hv
  rw [hln] at v1 v2
  have HEv := Lib.hid (fun env X Ae (hb : Below W.heap.size W X) (hE : SlAt (IntR .u32) X Ae 4 env) (he : T.EnvOk t env) => rBelow_any t env n ct 4 At Ae X (hT.below monoNd hb) hE (T.std_of hv (nd_imm hT) he) (by omega))
  have hN := K.size_le (k := k) (w := w) (by omega) (by omega)
  have HEn := Lib.hid (fun a (ha : a < K.size k w) => K.env_ok hk (by omega) ha hom.1 hom.2)
  have Hil := Lib.hid (fun a => K.inp_len (k := k) (w := w) (i := a) hk)
  have Hin := Lib.hid (fun a (ha : a < K.size k w) => K.inputs_at (k := k) (w := w) ha)
  obtain ⟨tb, htb⟩ : ∃ tb, tb = K.tblOf t k w := ⟨_, rfl⟩
  rw [← htb]
  have Htl := Lib.hid (show tb.length = K.size k w from by rw [htb]; simp [K.tblOf, K.inputs_len])
  have Hta := Lib.hid (show ∀ a, a < K.size k w → tb.take (a + 1) = tb.take a ++ [(T.vals t (K.envOf (K.inp k w a))).getD (n - 1) 0] from fun a ha => K.take_succ_at (by
    rw [htb]; unfold K.tblOf; rw [List.getElem?_map, K.inputs_at ha, hln]; rfl))
  have Hvl := Lib.hid (fun env => (T.vals_len t env).trans hln)
  generalize K.inputs k w = ins at HR Hin
  generalize K.size k w = N at *
  have hk2 : k ≤ 2 := by omega
  have hs1 : ((n : Int) - 1).toNat = n - 1 := by omega
  clear htb hk hw hom hv v3 v4 v5 hT hln hask
  go_enter Tryz.func27, Tryz.ntmps27
  go_wp2_with fail
  (with_reducible refine (HR.out _).mono ?_)
  rintro e w1 ⟨Ai, ci, rfl, hI, hb1⟩
  have HI := Lib.hid hI
  have hiL := hI.le
  have Hb1 := Lib.hid hb1
  clear hI hb1
  go_wp2
  go_loopg [7, 9] (N + 1) (fun gh v i wr => ∃ (a : Nat), a ≤ N ∧ i = .int .i64 (a : Int) ∧ gh + a = N + 1 ∧ Hid (OwnAt wr 39 1 v a ((tb.take a).map (Value.int .u32))) ∧ Hid (Below w1.heap.size w1 wr) ∧ Hid (∀ g, v.ownBlock = some g → w1.heap.size ≤ g))
  case atStart => exact ⟨0, Nat.zero_le _, rfl, rfl, Lib.hid (OwnAt.nil_ _ _ _), Lib.hid (Below.refl _ _), Lib.hid (fun g hg => by simp [Value.ownBlock] at hg)⟩
  case round =>
    obtain ⟨a, ha, rfl, hgk, Hown, Hbo, Hob⟩ := hrel
    have Hgk := Lib.hid hgk; clear hgk
    by_cases hla : a < N
    · have hmk := fun (W' : World) => run_make_n (P := Tryz.prog) 26 39 (.int .u32 0) 4 Tryz.underlying26 infoU32 rfl .i64 .i64 4 (4 : Int) rfl (by omega) (by omega) W'
      have hb5 : Below wr.heap.size wr (wr.alloc (.cells (Array.replicate 4 (.int .u32 0)) 39)) := (Below.refl _ _).alloc (Nat.le_refl _) _
      obtain ⟨x, bi, offi, u, hx, rfl, hbi, hci, hu⟩ := ((HI.out.below (monoSl (monoInt _)) Hbo.out).below (monoSl (monoInt _)) hb5).at_ hla
      obtain ⟨Ax, cx, rfl, hX⟩ := hu
      rw [Hin.out a hla] at hx
      obtain rfl := Option.some.inj hx
      have hlx := hX.len
      rw [Hil.out] at hX hci
      obtain ⟨us, hus1, hus2, hus3⟩ := hX.cells
      have hus : us = (K.inp k w a).map (Value.int .u32) := by
        apply List.ext_getElem?
        intro i
        rcases Nat.lt_or_ge i k with hi | hi
        · obtain ⟨y, hy⟩ : ∃ y, (K.inp k w a)[i]? = some y := ⟨_, List.getElem?_eq_getElem (by rw [Hil.out]; exact hi)⟩
          obtain ⟨z, hz⟩ : ∃ z, us[i]? = some z := ⟨_, List.getElem?_eq_getElem (by omega)⟩
          have h2 : z = .int .u32 y := hus3 i y z hy hz
          rw [hz, List.getElem?_map, hy, h2]
          rfl
        · rw [List.getElem?_eq_none (by omega), List.getElem?_eq_none (by rw [List.length_map, Hil.out]; exact hi)]
      rw [hus] at hus2
      have Hsrc := Lib.hid hus2
      have hlk : ((K.inp k w a).map (Value.int .u32)).length = k := by rw [List.length_map, Hil.out]
      have Hlk := Lib.hid hlk
      have hmin : ((K.inp k w a).map (Value.int .u32)).length = Nat.min k 4 := by rw [hlk]; exact (Nat.min_eq_left (by omega)).symm
      have Hsz := Lib.hid (show (wr.alloc (.cells (Array.replicate 4 (.int .u32 0)) 39)).heap.size = wr.heap.size + 1 from by simp)
      clear hus hus1 hus2 hus3 hX hx hlx hlk hb5 hbi
      go_wp2_with (with_reducible refine wpList_copy_splice rfl (.tmp 22) (.tmp 26) 26 26 rfl 39 Tryz.underlying26 sizeU32 _ _ _ _ _ _ rfl rfl wr.heap.size 0 (List.replicate 4 (.int .u32 0)) 39 (heap_alloc_new wr _) ((K.inp k w a).map (Value.int .u32)) hmin (fun hp => ⟨rfl, src_of Hsrc.out hp⟩) (by rw [Hlk.out]; simp; omega) (one_ints _) wr.heap.size wr ((Below.refl _ _).alloc (Nat.le_refl _) _) (Nat.le_refl _) ?_; intro w6 hr6 hb6)
      have hr6 := hr6.out
      rw [splice_fill _ (by rw [Hil.out]; omega)] at hr6
      have Hb6 := Lib.hid (show Below wr.heap.size wr w6 from hb6)
      have hE := slAt_fill hr6 (by rw [Hil.out]; omega) (by omega)
      have HEv2 := Lib.hid (HEv.out (K.envOf (K.inp k w a)) _ _ (Hb1.out.trans ((Hbo.out.trans (hb6.mono Hbo.out.size)).mono Hb1.out.size)) hE (HEn.out a hla))
      have Hta2 := Lib.hid (Hta.out a hla)
      have hvl := Hvl.out (K.envOf (K.inp k w a))
      have Hx := Lib.hid (show (T.vals t (K.envOf (K.inp k w a)))[n - 1]? = some ((T.vals t (K.envOf (K.inp k w a))).getD (n - 1) 0) from by rw [T.getD_lt (by omega)]; exact List.getElem?_eq_getElem _)
      generalize T.vals t (K.envOf (K.inp k w a)) = vl at HEv2 Hta2 Hx
      generalize vl.getD (n - 1) 0 = ev at Hta2 Hx
      clear hr6 hE hmk hb6 hci hvl hmin
      go_wp2_with fail
      (with_reducible refine HEv2.out.mono ?_)
      rintro e w7 ⟨v7, rfl, hown7, hb7, hob7⟩
      obtain ⟨Av, cv, rfl⟩ := hown7.form
      obtain ⟨y, bv, offv, uv, hy, hAv, _, hcv, huv⟩ := hown7.slInts.at_ (k := n - 1) (by omega)
      rw [Hx.out] at hy
      obtain rfl := Option.some.inj hy
      subst hAv
      have huv' : uv = .int .u32 _ := huv
      subst huv'
      have Hb7 := Lib.hid (Hb6.out.trans (hb7.mono Hb6.out.size))
      have Hown7 := Lib.hid (Hown.out.below Hb7.out Hown.out.lt)
      have Hs7 := Lib.hid (Hbo.out.trans (Hb7.out.mono Hbo.out.size))
      clear hb7 hown7 hob7
      go_wp2_with (at_builtin; refine wpList_append_one' rfl (.tmp 31) (.tmp 38) 26 rfl 39 (.int .u32 0) 4 Tryz.underlying26 infoU32 rfl _ a _ rfl Hown7.out (.int .u32 ev) rfl 39 w7.heap.size rfl rfl (by omega) (by omega) ?_; intro v' w8 hown' hgr hat)
      obtain ⟨hb8, hv8⟩ := below_append Hs7.out Hs7.out.size Hob.out hgr hat
      have Hown8 := Lib.hid hown'
      have Hv8 := Lib.hid hv8
      have Hb8 := Lib.hid hb8
      clear hown' hgr hat hb8 hv8 hcv
      go_wp2
      go_roundg (gk - 1)
      case measure => have := Hgk.out; omega
      case rel => have := Hgk.out; exact ⟨a + 1, by omega, by go_num, by omega, Lib.hid (by rw [Hta2.out, List.map_append]; exact Hown8.out), Hb8, Hv8⟩
    · obtain rfl : a = N := by omega
      have hown := Hown.out
      rw [List.take_of_length_le (by rw [Htl.out]; exact Nat.le_refl _)] at hown
      have Hown2 := Lib.hid hown
      clear hown
      go_wp2
      go_ret
      exact ⟨_, rfl, Hown2.out, fun g hg => Nat.le_trans Hb1.out.size (Hob.out g hg), Hb1.out.trans (Hbo.out.mono Hb1.out.size)⟩

set_option maxHeartbeats 1000000 in
theorem rMeaningOf_any (t : List T.Nd) (k w : Int) (n ct : Nat) (At : Option Addr) (W : World) (hT : StAt 5 NdR W At n t) :
    Calls Tryz.prog 13 #[.slice At n ct, .int .i64 k, .int .i64 w] W (TabR t k w W) := by
  have HA := Lib.hid (rasked_any t k w n ct At W hT)
  by_cases ha : K.askedT t k w = 0
  · have hkw : 1 ≤ k ∧ k ≤ 2 ∧ 1 ≤ w ∧ w ≤ 3 := by
      have ha' := ha
      unfold K.askedT at ha'
      split at ha'
      · rename_i h; exact absurd ha' h
      · split at ha'
        · omega
        · rename_i h
          have := K.over_iff.1 (show K.over k w = true by simpa using h)
          omega
    obtain ⟨kN, rfl⟩ : ∃ kN : Nat, k = kN := ⟨k.toNat, by omega⟩
    obtain ⟨wN, rfl⟩ : ∃ wN : Nat, w = wN := ⟨w.toNat, by omega⟩
    have HM := Lib.hid (fun X (h : Below W.heap.size W X) => rmeaningOf_any t kN wN (by omega) (by omega) n ct At X (hT.below monoNd h) ha)
    have Ha := Lib.hid ha
    rw [ha] at HA
    clear hT ha hkw
    go_enter Tryz.func13, Tryz.ntmps13
    go_wp2_with fail
    (with_reducible refine HA.out.mono ?_)
    rintro e w1 ⟨rfl, hb1⟩
    have Hb1 := Lib.hid hb1
    clear hb1
    go_wp2_with fail
    (with_reducible refine (HM.out _ Hb1.out).mono ?_)
    rintro e w2 ⟨v, rfl, hown, hob, hb2⟩
    have Hown := Lib.hid hown
    have Hob := Lib.hid hob
    have Hb2 := Lib.hid hb2
    clear hown hob hb2
    go_wp2
    go_ret2
    refine ⟨Hb1.out.trans (Hb2.out.mono Hb1.out.size), .inr ⟨Ha.out, v, rfl, ?_, fun g hg => Nat.le_trans Hb1.out.size (Hob.out g hg)⟩⟩
    rw [Int.toNat_natCast, Int.toNat_natCast]
    exact Hown.out
  · obtain ⟨er, her⟩ : ∃ er, er = K.askedT t k w := ⟨_, rfl⟩
    rw [← her] at HA ha
    have hvb : (er != 0) = true := by simpa using ha
    have Ha := Lib.hid ha
    have Her := Lib.hid her.symm
    clear hT ha her
    go_enter Tryz.func13, Tryz.ntmps13
    go_wp2_with fail
    (with_reducible refine HA.out.mono ?_)
    rintro e w1 ⟨rfl, hb1⟩
    have Hb1 := Lib.hid hb1
    clear hb1
    go_wp2
    go_ret2
    exact TabR.bad Her.out Ha.out Hb1.out rfl

theorem ptabled_any (t : List T.Nd) (k w : Int) (n ct : Nat) (At : Option Addr) (W : World) (hT : StAt 5 NdR W At n t) :
    Calls Tryz.prog 28 #[.agg #[.int .i64 k, .int .i64 w], .slice At n ct] W (TabR t k w W) := by
  by_cases hv : T.valid true t = 0
  · cases ho : K.over k w
    · exact ptabled_bad t k w n ct At W hT (.inr ho)
    · have hkw := K.over_iff.1 ho
      obtain ⟨kN, rfl⟩ : ∃ kN : Nat, k = kN := ⟨k.toNat, by omega⟩
      obtain ⟨wN, rfl⟩ : ∃ wN : Nat, w = wN := ⟨w.toNat, by omega⟩
      exact ptabled_ok t kN wN (by omega) (by omega) n ct At W hT hv
  · exact ptabled_bad t k w n ct At W hT (.inl hv)

theorem pMeaningOf_any (t : List T.Nd) (k w : Int) (n ct : Nat) (At : Option Addr) (W : World) (hT : StAt 5 NdR W At n t) :
    Calls Tryz.prog 15 #[.slice At n ct, .int .i64 k, .int .i64 w] W (TabR t k w W) := by
  have HP := Lib.hid (ptabled_any t k w n ct At W hT)
  clear hT
  go_enter Tryz.func15, Tryz.ntmps15
  go_wp2_with fail
  (with_reducible refine HP.out.mono ?_)
  rintro e w1 ⟨hb1, ⟨h0, rfl⟩ | ⟨h0, v, rfl, hown, hob⟩⟩
  · have H0 := Lib.hid h0
    have Hb1 := Lib.hid hb1
    clear hb1 h0
    go_wp2
    go_ret2
    exact ⟨Hb1.out, .inl ⟨H0.out, rfl⟩⟩
  · have H0 := Lib.hid h0
    have Hb1 := Lib.hid hb1
    have Hown := Lib.hid hown
    have Hob := Lib.hid hob
    clear hb1 h0 hown hob
    go_wp2
    go_ret2
    exact ⟨Hb1.out, .inr ⟨H0.out, v, rfl, Hown.out, Hob.out⟩⟩
end Go.Proofs.YtableoihgkmbjaaGreat
