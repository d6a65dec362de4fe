/- Merged: QPV4, QRB3. -/
import Derived.Test.YtbiopedpceddeaaGreatDoorN43
import Derived.Test.YtbiopedpceddeaaGreatDoorN40
import Derived.Test.YtbiopedpceddeaaGreatDoorN10
import Derived.Deep.DeepCutAuto
set_option linter.unusedVariables false
set_option linter.unusedSimpArgs false
section
namespace Go.Proofs.YtbiopedpceddeaaGreatDoor
set_option linter.unusedVariables false
set_option linter.unusedSimpArgs false
namespace V
open T
theorem widths_from (t : List Nd) : ∀ (v : Nat) (z : Int), (widths t)[v]? = some z → z ≠ 0 → ∃ x ∈ t, x.op = 33 ∧ x.imm.toNat = v ∧ x.w = z := by
  refine snocInd (P := fun t => ∀ (v : Nat) (z : Int), (widths t)[v]? = some z → z ≠ 0 → ∃ x ∈ t, x.op = 33 ∧ x.imm.toNat = v ∧ x.w = z) ?_ ?_ t
  · intro v z h hz
    unfold widths at h
    simp only [List.foldl_nil] at h
    rcases v with _ | _ | _ | _ | v <;> simp at h <;> exact absurd h.symm hz
  · intro l x ih v z h hz
    rw [widths_snoc] at h
    split at h
    · rename_i h33
      rw [List.getElem?_set] at h
      split at h
      · rename_i e
        split at h
        · cases h
          exact ⟨x, by simp, h33, e, rfl⟩
        · cases h
      · obtain ⟨y, hy, e⟩ := ih v z h hz
        exact ⟨y, by simp [hy], e⟩
    · obtain ⟨y, hy, e⟩ := ih v z h hz
      exact ⟨y, by simp [hy], e⟩
def env1 (t : List Nd) (env : List Int) (v : Nat) : Bool := decide ((widths t).getD v 0 ≤ 0) || B.isW ((widths t).getD v 0) (env.getD v 0)
def envTo (t : List Nd) (env : List Int) (j : Nat) : Bool := (List.range j).all (env1 t env)
theorem envTo_succ (t : List Nd) (env : List Int) (j : Nat) : envTo t env (j + 1) = (envTo t env j && env1 t env j) := by
  unfold envTo
  rw [List.range_succ, List.all_append]
  simp
theorem env_fits {t : List Nd} {env : List Int} (h : R.fvalid t = 0) (hi : ∀ y ∈ t, 0 ≤ y.imm) : envTo t env 4 = fits t env := by
  obtain ⟨v1, v2, v3, v4, v5⟩ := valid_ok (fvalid_val h).1
  rw [Bool.eq_iff_iff]
  unfold envTo fits
  rw [List.all_eq_true, List.all_eq_true]
  have hv : ∀ x ∈ t, x.op = 33 → x.imm < 4 ∧ 1 ≤ x.w := fun x hx h33 => by
    obtain ⟨i, hi2⟩ := List.getElem?_of_mem hx
    have hs := shaped_args (v3 i x hi2)
    refine ⟨?_, hs.2.2.1⟩
    have := hs.2.2.2.2.1
    unfold immOk at this
    rw [if_neg (by omega), if_pos h33] at this
    simpa using this
  constructor
  · intro hall x hx
    unfold fit1
    by_cases h33 : x.op = 33
    · obtain ⟨m, w1⟩ := hv x hx h33
      have h0 := hi x hx
      obtain ⟨i, hix⟩ := List.getElem?_of_mem hx
      have hw := widths_at v5 hi hix h33 m
      have hg : (widths t).getD x.imm.toNat 0 = x.w := by rw [List.getD_eq_getElem?_getD, hw]; rfl
      have := hall x.imm.toNat (by rw [List.mem_range]; omega)
      unfold env1 at this
      rw [hg, decide_eq_false (by omega), Bool.false_or] at this
      rw [decide_eq_true h33, this]
      rfl
    · rw [decide_eq_false h33]; rfl
  · intro hall v hv4
    rw [List.mem_range] at hv4
    unfold env1
    by_cases hz : (widths t).getD v 0 ≤ 0
    · rw [decide_eq_true hz]; rfl
    · have hl := widths_len t
      have hs : (widths t)[v]? = some ((widths t).getD v 0) := by rw [List.getD_eq_getElem?_getD, List.getElem?_eq_getElem (by omega)]; rfl
      obtain ⟨x, hx, h33, e1, e2⟩ := widths_from t v _ hs (by omega)
      have := hall x hx
      unfold fit1 at this
      rw [decide_eq_true h33, Bool.not_true, Bool.false_or, e1, e2] at this
      rw [this, Bool.or_true]
end V
end Go.Proofs.YtbiopedpceddeaaGreatDoor
end
section
namespace Go.Proofs.YtbiopedpceddeaaGreatDoor
open Go.RowKit
set_option linter.unusedVariables false
set_option linter.unusedSimpArgs false

set_option maxRecDepth 100000 in
set_option maxHeartbeats 2000000 in
theorem rIsEnv_any (t : List T.Nd) (env : List Int) (n ct ne ce : Nat) (At Ae : Option Addr) (W : World) (hT : StAt 5 NdR W At n t) (hE : SlAt (IntR .u32) W Ae ne env) (hew : ∀ x ∈ env, 0 ≤ x ∧ x < 4294967296) (hv : R.fvalid t = 0) :
    Calls Tryz.prog 53 #[.slice At n ct, .slice Ae ne ce] W fun e w' => e = .returned (.bool (decide (env.length = 4) && V.fits t env)) ∧ Below W.heap.size W w' := by
  have hi := nd_imm hT
  have hval := (V.fvalid_val hv).1
  obtain ⟨v1, v2, v3, v4, v5⟩ := valid_ok hval
  have HW := Lib.hid (rwidths_any t n ct At W hT (T.okVars_of v3 hi) (by have := hT.len; omega))
  have Hl := Lib.hid hE.len
  have hle := hE.le
  obtain ⟨r, hr⟩ : ∃ r, V.fits t env = r := ⟨_, rfl⟩
  rw [hr, hE.len]
  have Hr := Lib.hid (show V.envTo t env 4 = r from by rw [V.env_fits hv hi, hr])
  have HE := Lib.hid hE
  have Hew := Lib.hid hew
  clear hT hE hew hv hi hval v1 v2 v3 v4 v5 hr
  by_cases h4 : ne = 4
  rotate_left
  · have q : ((ne : Int) != 4) = true := by simp; omega
    rw [decide_eq_false h4]
    clear h4
    go_enter Tryz.func53, Tryz.ntmps53
    go_wp2
    go_ret
    exact ⟨rfl, Below.refl _ _⟩
  subst h4
  rw [show decide ((4 : Nat) = 4) = true from rfl, Bool.true_and]
  go_enter Tryz.func53, Tryz.ntmps53
  go_wp2_with fail
  (with_reducible refine HW.out.mono ?_)
  rintro e w1 ⟨g, rfl, hg, hrow, hb1⟩
  have Hb1 := Lib.hid hb1
  have Hrow := Lib.hid hrow
  clear hb1 hrow hg
  go_wp2
  go_loopg [6] 5 (fun gg s6 wr => ∃ j : Nat, j ≤ 4 ∧ s6 = .int .i64 (j : Int) ∧ gg + j = 5 ∧ Hid (Below w1.heap.size w1 wr) ∧ Hid (V.envTo t env j = true))
  case atStart => exact ⟨0, by omega, rfl, rfl, Lib.hid (Below.refl _ _), Lib.hid rfl⟩
  case round =>
    obtain ⟨j, hj, rfl, hgk, Hbw, Hall⟩ := hrel
    have Hgk := Lib.hid hgk; clear hgk
    by_cases hlt : j < 4
    · have hwl := T.widths_len t
      obtain ⟨z, hz⟩ : ∃ z, (T.widths t)[j]? = some z := ⟨(T.widths t)[j]'(by omega), List.getElem?_eq_getElem (by omega)⟩
      have hzd : (T.widths t).getD j 0 = z := by rw [List.getD_eq_getElem?_getD, hz]; rfl
      have hcz : wr.cell? ⟨g, j, none⟩ = some (.int .i64 z) := by
        rw [cell_of_row _ _ _ _ _ (0, 0) ((Hbw.out.block _ (Array.getElem?_eq_some_iff.1 Hrow.out).1).trans Hrow.out), List.getElem?_toArray, List.getElem?_map, hz]; rfl
      have hbt := Hb1.out.trans (Hbw.out.mono Hb1.out.size)
      obtain ⟨y, be, offe, ue, hy, rfl, hbe, hce, hue⟩ := (HE.out.below (monoInt _) hbt).at_ hlt
      obtain rfl : ue = .int .u32 y := hue
      have hyd : env.getD j 0 = y := getD_of hy
      obtain ⟨y0, y1⟩ := Hew.out y (List.mem_of_getElem? hy)
      have HI := Lib.hid (fun X => isWord_any z y X y0 y1)
      obtain ⟨iw, hiw⟩ : ∃ iw, B.isW z y = iw := ⟨_, rfl⟩
      rw [hiw] at HI
      obtain ⟨ov⟩ := ov_ex wr
      have o1 := ov.cell hcz
      have o2 := ov.cell hce
      have K1 := Lib.hid (fun u => calls_over_same (ov := ov) (HI.out (ov.f u)))
      by_cases hp : 0 < z
      · have q : decide (0 < z) = true := by simpa using hp
        have Hst := Lib.hid (show V.env1 t env j = iw from by unfold V.env1; rw [hzd, hyd, hiw, decide_eq_false (by omega), Bool.false_or])
        clear hy hz hzd hyd hiw y0 y1 hp hbt hbe hwl
        go_upto_region 7 with (fail)
        refine wp_region_ovq ov (by kernel_rfl) (by kernel_rfl) ?_
        repeat (go_big_quiet_step ((go_at_call 112; with_reducible exact K1.out _)))
        refine wpQuiet_nil ?_
        rintro _ ⟨u, rfl⟩
        have Hbo := Lib.hid (Hbw.out.trans ((ov.below u).mono Hbw.out.size))
        clear o1 o2 hcz hce
        generalize ov.f u = w5 at *
        cases iw with
        | true =>
          have Hn := Lib.hid (show V.envTo t env (j + 1) = true from by rw [V.envTo_succ, Hall.out, Hst.out]; rfl)
          go_wp2
          go_roundg (gk - 1)
          case measure => have := Hgk.out; omega
          case rel => have := Hgk.out; exact ⟨j + 1, by omega, by go_num, by omega, Hbo, Hn⟩
        | false =>
          have Hf := Lib.hid (show r = false from by
            rw [← Hr.out]
            unfold V.envTo
            rw [List.all_eq_false]
            exact ⟨j, by rw [List.mem_range]; exact hlt, by rw [Hst.out]; simp⟩)
          go_wp2
          go_ret
          exact ⟨by rw [Hf.out]; rfl, Hb1.out.trans (Hbo.out.mono Hb1.out.size)⟩
      · have q : decide (0 < z) = false := by simpa using hp
        have Hn := Lib.hid (show V.envTo t env (j + 1) = true from by rw [V.envTo_succ, Hall.out]; unfold V.env1; rw [hzd, decide_eq_true (by omega)]; rfl)
        clear hy hz hzd hyd hiw y0 y1 hp hbt hbe hwl
        go_upto_region 7 with (fail)
        refine wp_region_ovq ov (by kernel_rfl) (by kernel_rfl) ?_
        repeat (go_big_quiet_step (fail))
        refine wpQuiet_nil ?_
        rintro _ ⟨u, rfl⟩
        have Hbo := Lib.hid (Hbw.out.trans ((ov.below u).mono Hbw.out.size))
        clear o1 o2 hcz hce
        generalize ov.f u = w5 at *
        go_wp2
        go_roundg (gk - 1)
        case measure => have := Hgk.out; omega
        case rel => have := Hgk.out; exact ⟨j + 1, by omega, by go_num, by omega, Hbo, Hn⟩
    · obtain rfl : j = 4 := by omega
      have Hf := Lib.hid (show r = true from by rw [← Hr.out]; exact Hall.out)
      rw [show ((4 : Nat) : Int) = 4 from rfl]
      go_wp2
      go_ret
      exact ⟨by rw [Hf.out]; rfl, Hb1.out.trans (Hbw.out.mono Hb1.out.size)⟩
end Go.Proofs.YtbiopedpceddeaaGreatDoor
end
