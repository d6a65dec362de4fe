/- The table of a term: the program. -/
import Derived.Test.YtableoihgkmbjaaGreatT18
namespace Go.Proofs.YtableoihgkmbjaaGreat
open Go.RowKit
set_option linter.unusedVariables false
set_option linter.unusedSimpArgs false

namespace K
def rootW (t : List T.Nd) : Int := (t.getD (t.length - 1) default).w
def odd (t : List T.Nd) (w : Int) : Bool := (T.widths t).any fun z => !decide (z = 0) && !decide (z = w)
def more (t : List T.Nd) (k : Nat) : Bool := ((T.widths t).drop k).any fun z => !decide (z = 0)
/-- the first error of a term over inputs -/
def askedT (t : List T.Nd) (k w : Int) : Int :=
  if T.valid true t ≠ 0 then T.valid true t
  else if over k w = false then 1
  else if rootW t ≠ w ∨ odd t w = true then 6
  else if more t k.toNat = true then 7 else 0
def envOf (l : List Int) : List Int := l ++ List.replicate (4 - l.length) 0
def tblOf (t : List T.Nd) (k w : Nat) : List Int := (inputs k w).map fun l => (T.vals t (envOf l)).getD (t.length - 1) 0

theorem inp_words {k w i : Nat} (hk : k = 1 ∨ k = 2) (hw : w ≤ 3) (hi : i < size k w) : ∀ x ∈ inp k w i, 0 ≤ x ∧ x < B.pw w := by
  have hp : B.pw w = ((2 ^ w : Nat) : Int) := B.pw_nat w
  intro x hx
  unfold inp at hx
  rw [hp]
  rcases hk with rfl | rfl
  · simp at hx
    subst hx
    unfold size at hi
    rw [Nat.one_mul] at hi
    omega
  · rw [if_neg (by decide)] at hx
    simp only [List.mem_cons, List.not_mem_nil, or_false] at hx
    unfold size at hi
    have h2 : 2 ^ (2 * w) = 2 ^ w * 2 ^ w := by rw [Nat.two_mul, Nat.pow_add]
    have hpos : 0 < 2 ^ w := Nat.pow_pos (by decide)
    have h3 : i / 2 ^ w < 2 ^ w := Nat.div_lt_of_lt_mul (by rw [← h2]; exact hi)
    have h4 : i % 2 ^ w < 2 ^ w := Nat.mod_lt _ hpos
    rcases hx with rfl | rfl
    · exact ⟨Int.natCast_nonneg _, Int.ofNat_lt.2 h3⟩
    · exact ⟨Int.natCast_nonneg _, Int.ofNat_lt.2 h4⟩

theorem env_ok {t : List T.Nd} {k w i : Nat} (hk : k = 1 ∨ k = 2) (hw : w ≤ 3) (hi : i < size k w) (ho : odd t w = false) (hm : more t k = false) : T.EnvOk t (envOf (inp k w i)) := by
  have hl := inp_len (w := w) (i := i) hk
  have hwd := inp_words hk hw hi
  have hp : B.pw w ≤ 8 := by
    have := B.pw_mono (m := (w : Int)) (n := 3) (by omega)
    have e : B.pw 3 = 8 := by decide
    omega
  refine ⟨by unfold envOf; simp; omega, ?_, ?_⟩
  · intro x hx
    unfold envOf at hx
    rcases List.mem_append.1 hx with hx | hx
    · have := hwd x hx; omega
    · have := (List.mem_replicate.1 hx).2; omega
  · intro v z hz hz0
    have hzw : z = w := by
      unfold odd at ho
      rw [List.any_eq_false] at ho
      have := ho z (List.mem_of_getElem? hz)
      simpa [hz0] using this
    have hvk : v < k := by
      unfold more at hm
      rw [List.any_eq_false] at hm
      rcases Nat.lt_or_ge v k with h | h
      · exact h
      · have := hm z (List.mem_of_getElem? (i := v - k) (by rw [List.getElem?_drop, show k + (v - k) = v by omega]; exact hz))
        simp [hz0] at this
    subst hzw
    unfold envOf
    rw [T.getD_l (by omega), T.getD_lt (by omega)]
    exact (hwd _ (List.getElem_mem _)).2
end K

theorem tabClo1 (w : Int) (k : Int) (g : Nat) (W : World) (hc : W.cell? ⟨g, 1, none⟩ = some (.int .i64 w)) :
    Answers 48 #[.pointer (some ⟨g, 0, none⟩)] (fun z => !decide (z = 0) && !decide (z = w)) W := by
  refine ⟨enters_of Tryz.func48 (by kernel_rfl) rfl, fun x => ?_⟩
  dsimp only
  simp only [List.append_toArray, List.nil_append, List.cons_append]
  by_cases h0 : x = 0
  · have q0 : (x != 0) = false := by simpa using h0
    have e : (!decide (x = 0) && !decide (x = w)) = false := by simp [h0]
    rw [e]
    clear e h0
    go_enter Tryz.func48, Tryz.ntmps48
    go_wp2
    go_ret
    exact ⟨rfl, rfl⟩
  · have q0 : (x != 0) = true := by simpa using h0
    have e : (!decide (x = 0) && !decide (x = w)) = (x != w) := by
      by_cases h : x = w <;> simp [h0, h] <;> omega
    rw [e]
    clear e h0
    go_enter Tryz.func48, Tryz.ntmps48
    go_wp2
    go_ret
    exact ⟨rfl, rfl⟩

theorem tabClo2 (W : World) : Answers 49 #[] (fun z => !decide (z = 0)) W := by
  refine ⟨enters_of Tryz.func49 (by kernel_rfl) rfl, fun x => ?_⟩
  dsimp only
  simp only [List.append_toArray, List.nil_append, List.cons_append, List.append_nil]
  have e : (!decide (x = 0)) = (x != 0) := by by_cases h : x = 0 <;> simp [h]
  rw [e]
  clear e
  go_enter Tryz.func49, Tryz.ntmps49
  go_wp2
  go_ret
  exact ⟨rfl, rfl⟩

theorem slAt_row {W : World} {g k : Nat} {xs : List Int} {T : TypeId} (h : W.heap[g]? = some (.cells (xs.map (Value.int .i64)).toArray T (0, 0))) (hn : xs.length ≤ 1000000) : SlAt (IntR .i64) W (some ⟨g, k, none⟩) (xs.length - k) (xs.drop k) := by
  refine ⟨by simp, by omega, fun i x hx => ⟨g, k, .int .i64 x, rfl, (Array.getElem?_eq_some_iff.1 h).1, ?_, rfl⟩⟩
  rw [cell_of_row _ _ _ _ _ (0, 0) h, List.getElem?_toArray, List.getElem?_map]
  rw [List.getElem?_drop] at hx
  rw [hx]
  rfl

def TabR (t : List T.Nd) (k w : Int) (W : World) (e : Ending) (w' : World) : Prop :=
  Below W.heap.size W w' ∧ ((K.askedT t k w ≠ 0 ∧ e = .returned (.tuple #[.slice none 0 0, .int .i64 (K.askedT t k w)])) ∨
    (K.askedT t k w = 0 ∧ ∃ v, e = .returned (.tuple #[v, .int .i64 0]) ∧ OwnAt w' 39 1 v (K.size k.toNat w.toNat) ((K.tblOf t k.toNat w.toNat).map (Value.int .u32)) ∧ (∀ g, v.ownBlock = some g → W.heap.size ≤ g)))
theorem TabR.bad {t : List T.Nd} {k w a : Int} {W w' : World} {e : Ending} (h : K.askedT t k w = a) (h0 : a ≠ 0) (hb : Below W.heap.size W w') (he : e = .returned (.tuple #[.slice none 0 0, .int .i64 a])) : TabR t k w W e w' :=
  ⟨hb, .inl ⟨by rw [h]; exact h0, by rw [h]; exact he⟩⟩

abbrev sp3 (k w : Int) (W : World) : World := W.alloc (.cells #[.int .i64 k, .int .i64 w] 48)
theorem sp3_cells {k w : Int} {W X : World} (h : Below (sp3 k w W).heap.size (sp3 k w W) X) : X.cell? ⟨W.heap.size, 0, none⟩ = some (.int .i64 k) ∧ X.cell? ⟨W.heap.size, 1, none⟩ = some (.int .i64 w) := by
  have hr : X.heap[W.heap.size]? = some (.cells #[.int .i64 k, .int .i64 w] 48 (0, 0)) := row_step (Lib.hid h) (heap_alloc_new W _)
  refine ⟨?_, ?_⟩
  all_goals rw [cell_of_row _ _ _ _ _ (0, 0) hr]; rfl

set_option maxRecDepth 100000 in
set_option maxHeartbeats 2000000 in
theorem ptabled_bad (t : List T.Nd) (k w : Int) (n ct : Nat) (At : Option Addr) (W : World) (hT : StAt 5 NdR W At n t) (hbad : T.valid true t ≠ 0 ∨ K.over k w = false) :
    Calls Tryz.prog 28 #[.agg #[.int .i64 k, .int .i64 w], .slice At n ct] W (TabR t k w W) := by
  have hB0 : Below W.heap.size W (sp3 k w W) := (Below.refl _ _).alloc (Nat.le_refl _) _
  have HB0 := Lib.hid hB0
  have HWs := Lib.hid (pWidths_any t n ct At (sp3 k w W) (hT.below monoNd hB0))
  by_cases hv : T.valid true t = 0
  · have ho : K.over k w = false := by rcases hbad with h | h; exact absurd hv h; exact h
    have Hfin := Lib.hid (show K.askedT t k w = 1 from by unfold K.askedT; rw [if_neg (by simpa using hv), if_pos ho])
    have HR := Lib.hid (fun W' => isRight_any k w W')
    rw [ho] at HR
    have Hv := Lib.hid hv
    clear hT hbad hv ho hB0
    go_enter Tryz.func28, Tryz.ntmps28
    go_wp2_with fail
    (with_reducible refine HWs.out.mono ?_)
    rintro e w1 ⟨hb1, h | ⟨_, g, rfl, hg, hrow⟩⟩
    · exact absurd Hv.out h.1
    obtain ⟨c0, c1⟩ := sp3_cells hb1
    have Hb1 := Lib.hid hb1
    clear hb1 hrow
    go_wp2_with fail
    (with_reducible refine (HR.out _).mono ?_)
    rintro e w2 ⟨rfl, hb2⟩
    have Hb2 := Lib.hid ((HB0.out.trans (Hb1.out.mono HB0.out.size)).trans (hb2.mono (Nat.le_trans HB0.out.size Hb1.out.size)))
    clear hb2 c0 c1
    go_wp2
    go_ret2
    exact TabR.bad Hfin.out (by decide) Hb2.out rfl
  · have Hfin := Lib.hid (show K.askedT t k w = T.valid true t from by unfold K.askedT; rw [if_pos hv])
    have Hv := Lib.hid hv
    obtain ⟨er, her⟩ : ∃ er, er = T.valid true t := ⟨_, rfl⟩
    rw [← her] at Hfin hv
    have hvb : (er != 0) = true := by simpa using hv
    have Her := Lib.hid her
    have Hv0 := Lib.hid hv
    clear hT hbad hv hB0 her
    go_enter Tryz.func28, Tryz.ntmps28
    go_wp2_with fail
    (with_reducible refine HWs.out.mono ?_)
    rintro e w1 ⟨hb1, ⟨_, h⟩ | ⟨h, _⟩⟩
    case inr => exact absurd h Hv.out
    rw [← Her.out] at h
    subst h
    have Hb1 := Lib.hid (HB0.out.trans (hb1.mono HB0.out.size))
    clear hb1
    go_wp2
    go_ret2
    exact TabR.bad Hfin.out Hv0.out Hb1.out rfl

set_option maxRecDepth 100000 in
set_option maxHeartbeats 4000000 in
theorem ptabled_ok (t : List T.Nd) (k w : Nat) (hk : k = 1 ∨ k = 2) (hw : w = 1 ∨ w = 2 ∨ w = 3) (n ct : Nat) (At : Option Addr) (W : World) (hT : StAt 5 NdR W At n t) (hv : T.valid true t = 0) :
    Calls Tryz.prog 28 #[.agg #[.int .i64 k, .int .i64 w], .slice At n ct] W (TabR t k w W) := by
  have hB0 : Below W.heap.size W (sp3 k w W) := (Below.refl _ _).alloc (Nat.le_refl _) _
  have HB0 := Lib.hid hB0
  have HWs := Lib.hid (pWidths_any t n ct At (sp3 k w W) (hT.below monoNd hB0))
  have ho : K.over k w = true := K.over_iff.2 (by omega)
  have HR := Lib.hid (fun W' => isRight_any (k : Int) (w : Int) W')
  rw [ho] at HR
  have HT := Lib.hid hT
  obtain ⟨v1, v2, v3, v4, v5⟩ := valid_ok hv
  have hln := hT.len
  rw [hln] at v1 v2
  have Hv := Lib.hid hv
  have hle := hT.le
  have hlast : n - 1 < n := by omega
  obtain ⟨x, b, off, A, c, hx, rfl, hb, _, h1, _, _, _, _, _, _⟩ := nd_cells hT hlast
  have hrw : K.rootW t = x.w := by unfold K.rootW; rw [hln, getD_of hx]
  obtain ⟨rw_, hrww⟩ : ∃ z, z = x.w := ⟨_, rfl⟩
  rw [← hrww] at h1 hrw
  have Hb := Lib.hid hb
  have Hrw := Lib.hid hrw
  have hs1 : ((n : Int) - 1).toNat = n - 1 := by omega
  have HEv := Lib.hid (fun env X Ae (hb : Below W.heap.size W X) (hE : SlAt (IntR .u32) X Ae 4 env) (he : T.EnvOk t env) => pEval_ok t env n ct 4 (some ⟨b, off, none⟩) Ae X (hT.below monoNd hb) hE hv he)
  have h1' := fun X (h : Below W.heap.size W X) => (h.cell (p := ⟨b, off + (n - 1) * 5 + 1, none⟩) hb).trans h1
  have H1 := Lib.hid h1'
  have Hln := Lib.hid hln
  clear hT hv hB0 ho v3 v4 v5 hx hrw hrww hb h1 h1' hln
  go_enter Tryz.func28, Tryz.ntmps28
  go_wp2_with fail
  (with_reducible refine HWs.out.mono ?_)
  rintro e w1 ⟨hb1, h | ⟨_, g, rfl, hg, hrow⟩⟩
  · exact absurd Hv.out h.1
  obtain ⟨c0, c1⟩ := sp3_cells hb1
  have Hb1 := Lib.hid hb1
  have Hrow := Lib.hid hrow
  clear hb1 hrow
  go_wp2_with fail
  (with_reducible refine (HR.out _).mono ?_)
  rintro e w2 ⟨rfl, hb2⟩
  have Hb2 := Lib.hid (show Below (sp3 (k : Int) (w : Int) W).heap.size (sp3 (k : Int) (w : Int) W) w2 from Hb1.out.trans (hb2.mono Hb1.out.size))
  have Hrow2 := Lib.hid (row_step (Lib.hid hb2) Hrow.out)
  clear hb2 c0 c1 HWs HR Hrow Hb1
  obtain ⟨c0, c1⟩ := sp3_cells Hb2.out
  have Hbw2 := Lib.hid (show Below W.heap.size W w2 from HB0.out.trans (Hb2.out.mono HB0.out.size))
  have hroot := H1.out w2 Hbw2.out
  have Hg := Lib.hid hg
  clear hg
  have hWd := slAt_row (k := 0) Hrow2.out (by rw [T.widths_len]; omega)
  rw [T.widths_len, List.drop_zero, Nat.sub_zero] at hWd
  by_cases hrw : rw_ = (w : Int)
  case neg =>
    have q0 : (rw_ != (w : Int)) = true := by simpa using hrw
    have Hfin := Lib.hid (show K.askedT t k w = 6 from by
      unfold K.askedT
      rw [if_neg (by simpa using Hv.out), if_neg (by rw [K.over_iff.2 (by omega)]; simp), if_pos (.inl (by rw [Hrw.out]; exact hrw))])
    clear hWd hrw hk hw
    go_wp2
    go_quiet (fail)
    generalize hW3 : w2.drewN _ = w3
    have Hb3 := Lib.hid (Hbw2.out.dr ⟨_, hW3.symm⟩)
    clear hW3 hroot c0 c1
    go_wp2
    go_ret2
    exact TabR.bad Hfin.out (by decide) Hb3.out rfl
  case pos =>
    have q0 : (rw_ != (w : Int)) = false := by simpa using hrw
    have HQ := Lib.hid (fun nn => show Calls Tryz.prog 47 #[.slice (some ⟨g, 0, none⟩) 4 4, .func (.func 48) #[] #[.pointer (some ⟨W.heap.size, 0, none⟩)]] (w2.drewN nn) (fun e w'' => e = .returned (.bool (K.odd t w)) ∧ ∃ m, w'' = w2.drewN m) from
      Calls.quiet_of_same ((hasF_any _ _ _ (some ⟨g, 0, none⟩) 4 4 _ (w2.drewN nn) (hWd.dr (monoInt _) ⟨nn, rfl⟩) (tabClo1 w k W.heap.size (w2.drewN nn) c1)).mono fun e w' ⟨h1, h2⟩ => ⟨h1, h2.symm⟩))
    obtain ⟨od, hod⟩ : ∃ od, od = K.odd t w := ⟨_, rfl⟩
    rw [← hod] at HQ
    have Hod := Lib.hid hod
    have Hrw2 := Lib.hid hrw
    clear hWd hrw hod
    cases od
    case true =>
      have Hfin := Lib.hid (show K.askedT t k w = 6 from by
        unfold K.askedT
        rw [if_neg (by simpa using Hv.out), if_neg (by rw [K.over_iff.2 (by omega)]; simp), if_pos (.inr Hod.out.symm)])
      clear hk hw
      go_wp2
      go_quiet ((go_at_call 47; with_reducible exact HQ.out _))
      generalize hW3 : w2.drewN _ = w3
      have Hb3 := Lib.hid (Hbw2.out.dr ⟨_, hW3.symm⟩)
      clear hW3 hroot c0 c1 HQ
      go_wp2
      go_ret2
      exact TabR.bad Hfin.out (by decide) Hb3.out rfl
    case false =>
      have hk4 : k ≤ 4 := by omega
      have hsl : ∀ W' : World, (Instr.slice 59 (.slice (some ⟨g, 0, none⟩) 4 4) (some (.int .i64 (k : Int))) none none).run Tryz.prog W' = .ok (.slice (some ⟨g, k, none⟩) (4 - k) (4 - k)) W' := fun W' => by
        have := run_slice_fromN (P := Tryz.prog) Tryz.underlying59 infoInt g 0 4 4 k hk4 W'
        rw [if_neg (by omega), Nat.zero_add, Nat.mul_one] at this
        exact this
      have HQ2 := Lib.hid (fun (X : World) (hX : Dr w2 X) => show Calls Tryz.prog 47 #[.slice (some ⟨g, k, none⟩) (4 - k) (4 - k), .func (.func 49) #[] #[]] X (fun e w'' => e = .returned (.bool (K.more t k)) ∧ X = w'') from by
        have h2 := slAt_row (k := k) (xs := T.widths t) (row_step (Lib.hid (hX.below _)) Hrow2.out) (by rw [T.widths_len]; omega)
        rw [T.widths_len] at h2
        exact hasF_any _ _ _ (some ⟨g, k, none⟩) (4 - k) (4 - k) _ X h2 (tabClo2 X))
      obtain ⟨mo, hmo⟩ : ∃ mo, mo = K.more t k := ⟨_, rfl⟩
      rw [← hmo] at HQ2
      have Hmo := Lib.hid hmo
      clear hmo
      go_wp2
      go_quiet ((go_at_call 47; with_reducible exact HQ.out _))
      generalize hW3 : w2.drewN _ = w3
      have hd3 : Dr w2 w3 := ⟨_, hW3.symm⟩
      have Hd3 := Lib.hid hd3
      have Hb3 := Lib.hid (Hbw2.out.dr hd3)
      have Hs3 := Lib.hid (Hb2.out.dr hd3)
      obtain ⟨d0, d1⟩ := sp3_cells Hs3.out
      clear hW3 hroot c0 c1 HQ hd3
      go_wp2_with fail
      (with_reducible refine (HQ2.out _ Hd3.out).mono ?_)
      rintro e w' ⟨rfl, rfl⟩
      cases mo
      case true =>
        have Hfin := Lib.hid (show K.askedT t k w = 7 from by
          unfold K.askedT
          rw [if_neg (by simpa using Hv.out), if_neg (by rw [K.over_iff.2 (by omega)]; simp), if_neg (by rw [Hrw.out, ← Hod.out]; simp [Hrw2.out]), if_pos (by rw [Int.toNat_natCast]; exact Hmo.out.symm)])
        clear hk hw d0 d1
        go_wp2
        go_ret2
        exact TabR.bad Hfin.out (by decide) Hb3.out rfl
      case false =>
        clear hsl HQ2
        have HS := Lib.hid (fun W' => psize_any k w hk hw W')
        have HI := Lib.hid (fun i a (hi : i < k) (ha : a < K.size k w) W' => pinput_any k w i a hk hw hi ha W')
        have hN := K.size_le (k := k) (w := w) (by omega) (by omega)
        have Hfin := Lib.hid (show K.askedT t k w = 0 from by
          unfold K.askedT
          rw [if_neg (by simpa using Hv.out), if_neg (by rw [K.over_iff.2 (by omega)]; simp), if_neg (by rw [Hrw.out, ← Hod.out]; simp [Hrw2.out]), if_neg (by rw [Int.toNat_natCast, ← Hmo.out]; simp)])
        have HEn := Lib.hid (fun a (ha : a < K.size k w) => K.env_ok hk (by omega) ha Hod.out.symm Hmo.out.symm)
        have Hil := Lib.hid (fun a => K.inp_len (k := k) (w := w) (i := a) hk)
        obtain ⟨tb, htb⟩ : ∃ tb, tb = K.tblOf t k w := ⟨_, rfl⟩
        have Htl := Lib.hid (show tb.length = K.size k w from by rw [htb]; simp [K.tblOf, K.inputs_len])
        have Hta := Lib.hid (show ∀ a, a < K.size k w → tb.take (a + 1) = tb.take a ++ [(T.vals t (K.envOf (K.inp k w a))).getD (n - 1) 0] from fun a ha => K.take_succ_at (by
          rw [htb]; unfold K.tblOf; rw [List.getElem?_map, K.inputs_at ha, Hln.out]; rfl))
        have Htb := Lib.hid htb
        obtain ⟨N, hNN⟩ : ∃ N, N = K.size k w := ⟨_, rfl⟩
        rw [← hNN] at HS HI hN HEn Htl Hta
        have HNN := Lib.hid hNN
        have hk2 : k ≤ 2 := by omega
        have hk1 : 1 ≤ k := by omega
        clear htb hNN hk hw
        go_wp2_with fail
        (with_reducible refine (HS.out _).mono ?_)
        rintro e w4 ⟨rfl, hb4⟩
        have Hs4 := Lib.hid (Hs3.out.trans (hb4.mono Hs3.out.size))
        clear hb4 d0 d1
        go_wp2
        go_loopg [8, 47] (N + 1) (fun gh v i wr => ∃ (a : Nat), a ≤ N ∧ i = .int .i64 (a : Int) ∧ gh + a = N + 1 ∧ Hid (OwnAt wr 39 1 v a ((tb.take a).map (Value.int .u32))) ∧ Hid (Below (sp3 (k : Int) (w : Int) W).heap.size (sp3 (k : Int) (w : Int) W) wr) ∧ Hid (∀ g, v.ownBlock = some g → (sp3 (k : Int) (w : Int) W).heap.size ≤ g))
        case atStart => exact ⟨0, Nat.zero_le _, rfl, rfl, Lib.hid (OwnAt.nil_ _ _ _), Hs4, Lib.hid (fun g hg => by simp [Value.ownBlock] at hg)⟩
        case round =>
          obtain ⟨gO, rfl⟩ : ∃ g, g = gk := ⟨_, rfl⟩
          obtain ⟨wo, rfl⟩ : ∃ x, x = wr := ⟨wr, rfl⟩
          obtain ⟨a, ha, rfl, hgk, Hown, Hso, Hob⟩ := hrel
          have HgO := Lib.hid hgk; clear hgk
          by_cases hla : a < N
          · have hmk := fun (W' : World) => run_make_n (P := Tryz.prog) 26 39 (.int .u32 0) 4 Tryz.underlying26 infoU32 rfl .i64 .i64 4 (4 : Int) rfl (by omega) (by omega) W'
            obtain ⟨W5, hW5⟩ : ∃ W5, W5 = wo.alloc (.cells (Array.replicate 4 (.int .u32 0)) 39) := ⟨_, rfl⟩
            have hb5 : Below wo.heap.size wo W5 := by rw [hW5]; exact (Below.refl _ _).alloc (Nat.le_refl _) _
            have Hr5 := Lib.hid (show W5.heap[wo.heap.size]? = some (.cells (fillC ((K.inp k w a).take 0) 4).toArray 39 (0, 0)) from by rw [List.take_zero, fillC_nil, hW5]; exact heap_alloc_new wo _)
            have Hs5 := Lib.hid (show W5.heap.size = wo.heap.size + 1 from by rw [hW5]; simp)
            have Hb5 := Lib.hid hb5
            obtain ⟨c0, c1⟩ := sp3_cells (Hso.out.trans (hb5.mono Hso.out.size))
            clear hb5
            rw [hW5] at c0 c1
            go_wp2
            rw [← hW5] at c0 c1 ⊢
            clear hW5 hmk c0 c1
            go_loopg [53] (k + 1) (fun gh i wr => ∃ (b : Nat), b ≤ k ∧ i = .int .i64 (b : Int) ∧ gh + b = k + 1 ∧ Hid (wr.heap[wo.heap.size]? = some (.cells (fillC ((K.inp k w a).take b) 4).toArray 39 (0, 0))) ∧ Hid (Below wo.heap.size wo wr) ∧ wo.heap.size < wr.heap.size)
            case atStart => exact ⟨0, Nat.zero_le _, rfl, rfl, Hr5, Hb5, by rw [Hs5.out]; omega⟩
            case round =>
              obtain ⟨b', hbk, rfl, hgk, Hr, Hbi, hsi⟩ := hrel
              have Hgk := Lib.hid hgk; clear hgk
              obtain ⟨c0, c1⟩ := sp3_cells (Hso.out.trans (Hbi.out.mono Hso.out.size))
              by_cases hlb : b' < k
              · have HI2 := Lib.hid (fun W' => HI.out b' a hlb hla W')
                have hl4 : b' < 4 := by omega
                have hgd : (K.inp k w a)[b']? = some ((K.inp k w a).getD b' 0) := by rw [T.getD_lt (by rw [Hil.out]; exact hlb)]; exact List.getElem?_eq_getElem _
                have Htk := Lib.hid (K.take_succ_at hgd)
                clear hgd
                generalize (K.inp k w a).getD b' 0 = iv at HI2 Htk
                go_wp2_with fail
                (with_reducible refine (HI2.out _).mono ?_)
                rintro e w6 ⟨rfl, hb6⟩
                have Hr6 := Lib.hid (row_step (Lib.hid hb6) Hr.out)
                obtain ⟨hs6, hf6⟩ := fill_cell Hr6.out (a := b') (by rw [List.length_take, Hil.out]; omega) hl4
                obtain ⟨v0, hv0⟩ := Option.isSome_iff_exists.1 hs6
                have Hb6 := Lib.hid (Hbi.out.trans (hb6.mono Hbi.out.size))
                have hs6' : wo.heap.size < w6.heap.size := Nat.lt_of_lt_of_le hsi hb6.size
                clear hb6 hs6
                go_wp2
                go_roundg (gk - 1)
                case measure => have := Hgk.out; omega
                case rel => have := Hgk.out; exact ⟨b' + 1, by omega, by go_num, by omega, Lib.hid (by rw [Htk.out]; exact fill_step Hr6.out (by rw [List.length_take, Hil.out]; omega) hl4), Lib.hid (Hb6.out.setCell (p := ⟨wo.heap.size, b', none⟩) (Nat.le_refl _) _), by simp; exact hs6'⟩
              · obtain rfl : b' = k := by omega
                have hr := Hr.out
                rw [List.take_of_length_le (by rw [Hil.out]; exact Nat.le_refl _)] at hr
                have hE := slAt_fill hr (by rw [Hil.out]; omega) (by omega)
                have HEv2 := Lib.hid (HEv.out (K.envOf (K.inp b' w a)) _ _ (HB0.out.trans ((Hso.out.trans (Hbi.out.mono Hso.out.size)).mono HB0.out.size)) hE (HEn.out a hla))
                have Hta2 := Lib.hid (Hta.out a hla)
                generalize (T.vals t (K.envOf (K.inp b' w a))).getD (n - 1) 0 = ev at HEv2 Hta2
                clear hr hE
                go_wp2_with fail
                (with_reducible refine HEv2.out.mono ?_)
                rintro e w7 ⟨rfl, hb7⟩
                have Hb7 := Lib.hid (Hbi.out.trans (hb7.mono Hbi.out.size))
                have Hown7 := Lib.hid (Hown.out.below Hb7.out Hown.out.lt)
                have Hs7 := Lib.hid (Hso.out.trans (Hb7.out.mono Hso.out.size))
                clear hb7 c0 c1
                go_wp2_with (at_builtin; refine wpList_append_one' rfl (.tmp 70) (.tmp 72) 26 rfl 39 (.int .u32 0) 4 Tryz.underlying26 infoU32 rfl _ a _ rfl Hown7.out (.int .u32 ev) rfl 39 w7.heap.size rfl rfl (by omega) (by omega) ?_; intro v' w8 hown' hgr hat)
                obtain ⟨hb8, hv8⟩ := below_append Hs7.out Hs7.out.size Hob.out hgr hat
                have Hown8 := Lib.hid hown'
                have Hv8 := Lib.hid hv8
                have Hb8 := Lib.hid hb8
                clear hown' hgr hat hb8 hv8
                go_wp2
                go_roundg (gO - 1)
                case measure => have := HgO.out; omega
                case rel => have := HgO.out; exact ⟨a + 1, by omega, by go_num, by omega, Lib.hid (by rw [Hta2.out, List.map_append]; exact Hown8.out), Hb8, Hv8⟩
          · obtain rfl : a = N := by omega
            have hown := Hown.out
            rw [List.take_of_length_le (by rw [Htl.out]; exact Nat.le_refl _)] at hown
            have Hown2 := Lib.hid hown
            clear hown
            go_wp2
            go_ret2
            refine ⟨HB0.out.trans (Hso.out.mono HB0.out.size), .inr ⟨Hfin.out, _, rfl, ?_, fun g hg => Nat.le_trans HB0.out.size (Hob.out g hg)⟩⟩
            rw [Int.toNat_natCast, Int.toNat_natCast, ← HNN.out, ← Htb.out]
            exact Hown2.out
end Go.Proofs.YtableoihgkmbjaaGreat
