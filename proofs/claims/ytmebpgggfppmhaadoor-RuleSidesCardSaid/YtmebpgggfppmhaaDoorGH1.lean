/- Rules: the reference's Plain. -/
import Derived.Test.YtmebpgggfppmhaaDoorG48
set_option linter.unusedVariables false
set_option linter.unusedSimpArgs false
section
namespace Go.Proofs.YtmebpgggfppmhaaDoor
open Go.RowKit
set_option linter.unusedVariables false
set_option linter.unusedSimpArgs false

/-- one node of an own list, with its row -/
theorem OwnR.cells_ {B n c k : Nat} {A : Option Addr} {w : World} {nds : List T.Nd} (h : OwnR (NdF B) B w (.slice A n c) nds) (hn : nds.length = n) (hk : k < n) :
    ∃ x g off cur A2 c2, nds[k]? = some x ∧ A = some ⟨g, off, none⟩ ∧ B ≤ g ∧ w.heap[g]? = some (.cells cur 41 (0, 0)) ∧ (∀ (i : Nat) u, (ndC x A2 c2)[i]? = some u → cur[off + k * 5 + i]? = some u) ∧ NdF B w (ndC x A2 c2) x := by
  subst hn
  obtain ⟨cells, h1, h2, h3⟩ := h
  rcases h1.2 with ⟨e, h0⟩ | ⟨g, off, cap, cur, e, hg, q1, q2, q3, q4⟩
  · omega
  cases e
  have hx : nds[k]? = some nds[k] := List.getElem?_eq_getElem hk
  obtain ⟨A2, c2, e1, r⟩ := h2 k _ hx
  refine ⟨nds[k], g, off, cur, A2, c2, hx, rfl, h3 g rfl, hg, fun i u hu => ?_, A2, c2, rfl, r⟩
  rw [← e1, List.getElem?_take] at hu
  split at hu
  · rw [List.getElem?_drop] at hu
    have := q4 _ u hu
    rwa [← Nat.add_assoc] at this
  · cases hu

set_option maxRecDepth 100000 in
set_option maxHeartbeats 2000000 in
theorem rPlain_any {t : List T.Nd} {n ct : Nat} {At : Option Addr} {W : World} (hT : StAt 5 NdR W At n t) :
    Calls Tryd.prog 21 #[.slice At n ct] W fun e W' => ∃ v, e = .returned (.tuple #[v, .int .i64 (R.fvalid t)]) ∧ OwnR (NdF W.heap.size) W.heap.size W' v (R.plain t) ∧ Below W.heap.size W W' := by
  have Hval := Lib.hid (rValidateFlagged_any t n ct At W hT)
  have hl := hT.len
  have HT := Lib.hid hT
  have Hl := Lib.hid hl
  clear hT hl
  by_cases hv : R.fvalid t = 0
  rotate_left
  · obtain ⟨z, hz⟩ : ∃ z, R.fvalid t = z := ⟨_, rfl⟩
    have Hz := Lib.hid hz
    rw [hz] at hv Hval
    have q : (z != 0) = true := by simpa using hv
    have Hp := Lib.hid (show R.plain t = [] from by unfold R.plain; rw [hz, if_neg hv])
    clear hv hz
    go_enter Tryd.func21, Tryd.ntmps21
    go_wp2_with fail
    (with_reducible refine Hval.out.mono ?_)
    rintro e w1 ⟨rfl, hb1⟩
    have Hb1 := Lib.hid hb1
    clear hb1
    go_wp2
    go_ret2
    refine ⟨.slice none 0 0, by rw [Hz.out]; rfl, ?_, Hb1.out⟩
    rw [Hp.out]
    exact OwnR.nil_ _ _ _
  have Hv := Lib.hid hv
  have Hp := Lib.hid (show R.plain t = t.map R.strip from by unfold R.plain; rw [if_pos hv])
  have Ha := Lib.hid (R.fvalid_small hv)
  rw [hv] at Hval
  have hn : n ≤ 300 := by have := Ha.out.1; have := Hl.out; omega
  have Hcp := Lib.hid (fun X (h : Below W.heap.size W X) => CopyNodes_any (ct := ct) (HT.out.below monoNd h) (by omega) (fun x hx => by have := Ha.out.2 x hx; omega))
  clear hv
  go_enter Tryd.func21, Tryd.ntmps21
  go_wp2_with fail
  (with_reducible refine Hval.out.mono ?_)
  rintro e w0 ⟨rfl, hb0⟩
  have Hb0 := Lib.hid hb0
  clear hb0 Hval
  go_wp2_with fail
  (with_reducible refine (Hcp.out _ Hb0.out).mono ?_)
  rintro e w1 ⟨v, rfl, hown, hb1⟩
  obtain ⟨Av, cv, rfl⟩ := hown.form
  rw [Hl.out] at hown ⊢
  have Hown := Lib.hid (hown.weak Hb0.out.size)
  have Hb1 := Lib.hid (Hb0.out.trans (hb1.mono Hb0.out.size))
  clear hown hb1 Hcp
  go_wp2
  go_loopg [6] (n + 1) (fun gg i wr => ∃ (j : Nat), j ≤ n ∧ i = .int .i64 (j : Int) ∧ gg + j = n + 1 ∧ Hid (Below W.heap.size W wr) ∧ Hid (OwnR (NdF W.heap.size) W.heap.size wr (.slice Av n cv) ((t.take j).map R.strip ++ t.drop j)))
  case atStart => exact ⟨0, Nat.zero_le _, rfl, rfl, Hb1, Lib.hid Hown.out⟩
  case round =>
    obtain ⟨j, hj, rfl, hgk, Hbw, Hown⟩ := hrel
    have Hgk := Lib.hid hgk; clear hgk
    by_cases hjn : j < n
    · have hlj : ((t.take j).map R.strip ++ t.drop j).length = n := by rw [List.length_append, List.length_map, List.length_take, List.length_drop, Hl.out]; omega
      obtain ⟨x, g, off, cur, A2, c2, hx, hA, hB, hg, hc, hf⟩ := Hown.out.cells_ hlj hjn
      subst hA
      have hxt : t[j]? = some x := by
        rw [List.getElem?_append_right (by rw [List.length_map, List.length_take]; omega), List.length_map, List.length_take, Hl.out, Nat.min_eq_left (by omega), List.getElem?_drop, Nat.sub_self, Nat.add_zero] at hx
        exact hx
      have k2 : wr.cell? ⟨g, off + j * 5 + 2, none⟩ = some (.int .i64 x.fl) := by rw [cell_of_row _ _ _ _ _ (0, 0) hg]; exact hc 2 _ rfl
      have nf := frozen_row hg (off + j * 5 + 2)
      have HX := Lib.hid (show OwnR (NdF W.heap.size) W.heap.size (wr.setCell ⟨g, off + j * 5 + 2, none⟩ (.int .i64 0)) (.slice (some ⟨g, off, none⟩) n cv) ((t.take (j + 1)).map R.strip ++ t.drop (j + 1)) from by
        have hgr := setCell_grown wr g (off + j * 5 + 2) (.int .i64 0)
        have hoth : ∀ g' cur' T fr, some g = some g' → wr.heap[g']? = some (.cells cur' T fr) → T = 41 := fun g' cur' T fr e hcc => by
          injection e with e
          subst e
          rw [hg] at hcc
          injection hcc with hcc
          injection hcc with _ hcc _
          exact hcc.symm
        have hf' := NdF.other' hf hgr hoth
        have hlt : off + j * 5 + 2 < cur.size := (Array.getElem?_eq_some_iff.1 (hc 2 _ rfl)).1
        have hput := OwnR.put (y := R.strip x) (A2 := A2) (c2 := c2) Hown.out hlj hjn hg hgr (heap_setCell_same wr g (off + j * 5 + 2) _ _ (.int .i64 0) hg) (by simp) (fun i hi => by
          rw [Array.getElem?_setIfInBounds, if_neg (by omega)]) (fun i u hu => by
          rw [Array.getElem?_setIfInBounds]
          rcases i with _ | _ | _ | _ | _ | i
          · rw [if_neg (by omega)]; exact hc 0 u hu
          · rw [if_neg (by omega)]; exact hc 1 u hu
          · rw [if_pos (by omega), if_pos (by omega)]; exact hu
          · rw [if_neg (by omega)]; exact hc 3 u hu
          · rw [if_neg (by omega)]; exact hc 4 u hu
          · simp [ndC] at hu) (by
          obtain ⟨A3, c3, e1, e2⟩ := hf'
          simp only [ndC, List.cons.injEq, Value.slice.injEq] at e1
          obtain ⟨_, _, _, ⟨e4, _, e5⟩, _⟩ := e1
          subst e4 e5
          exact ⟨A2, c2, rfl, e2⟩)
        have el : ((t.take j).map R.strip ++ t.drop j).set j (R.strip x) = (t.take (j + 1)).map R.strip ++ t.drop (j + 1) := by
          rw [List.set_append_right _ _ (by rw [List.length_map, List.length_take]; omega), List.length_map, List.length_take, Hl.out, Nat.min_eq_left (by omega), Nat.sub_self, List.drop_eq_getElem_cons (by rw [Hl.out]; exact hjn), List.set_cons_zero, take_next hxt, List.map_append, List.append_assoc]
          rfl
        rw [el] at hput
        exact hput)
      have HbX := Lib.hid (show Below W.heap.size W (wr.setCell ⟨g, off + j * 5 + 2, none⟩ (.int .i64 0)) from Hbw.out.setCell (p := ⟨g, off + j * 5 + 2, none⟩) hB _)
      clear hx hB hg hc hf hxt hlj
      go_wp2
      go_roundg (gk - 1)
      case measure => have := Hgk.out; omega
      case rel =>
        have := Hgk.out
        exact ⟨j + 1, by omega, by go_num, by omega, HbX, HX⟩
    · obtain rfl : j = n := by omega
      have e : t.take j = t := List.take_of_length_le (by rw [Hl.out]; exact Nat.le_refl _)
      have e2 : t.drop j = [] := List.drop_eq_nil_iff.2 (by rw [Hl.out]; exact Nat.le_refl _)
      rw [e, e2, List.append_nil] at Hown
      go_wp2
      go_ret2
      exact ⟨.slice Av j cv, by rw [Hv.out]; rfl, by rw [Hp.out]; exact Hown.out, Hbw.out⟩
end Go.Proofs.YtmebpgggfppmhaaDoor
end
section
namespace Go.Proofs.YtmebpgggfppmhaaDoor
open Go.RowKit
set_option linter.unusedVariables false
set_option linter.unusedSimpArgs false

set_option maxRecDepth 100000 in
set_option maxHeartbeats 2000000 in
theorem ruleValidates_any {r : R.Rl} {t : List T.Nd} {nl cl nr cr np cp nt ct : Nat} {AL AR AP At : Option Addr} {W : World} (hR : RlAt W r nl nr np AL AR AP) (hS : StAt 5 NdR W At nt t) (hf : R.flr t) (hT : TabAt W) :
    Calls Tryd.prog 5 #[.agg #[.slice AL nl cl, .slice AR nr cr, .slice AP np cp], .slice At nt ct] W fun e W' => e = .returned (.bool true) ∧ Below W.heap.size W W' := by
  have hleS := hS.le
  obtain ⟨W1, hW1⟩ : ∃ W1, W1 = W.alloc (.cells #[.slice AL nl cl, .slice AR nr cr, .slice AP np cp] 25) := ⟨_, rfl⟩
  have hb1 : Below W.heap.size W W1 := by rw [hW1]; exact (Below.refl _ _).alloc (Nat.le_refl _) _
  have hrow : W1.heap[W.heap.size]? = some (.cells #[.slice AL nl cl, .slice AR nr cr, .slice AP np cp] 25 (0, 0)) := by rw [hW1]; exact heap_alloc_new W _
  obtain ⟨c0, c1, c2, _⟩ := rl_cells hrow
  have Hrow := Lib.hid hrow
  have Hb1 := Lib.hid hb1
  have HT := Lib.hid (hT.below hb1)
  have HR1 := Lib.hid (hR.below hb1)
  have HS := Lib.hid (hS.below monoNd hb1)
  have Hf := Lib.hid hf
  have Hlg := Lib.hid (rLong_any (cl := cl) (cr := cr) (cp := cp) HR1.out)
  have Hln := Lib.hid (fun X (h : Below W1.heap.size W1 X) => Long_any t nt ct At X (HS.out.below monoNd h))
  have Hkn := Lib.hid (fun X (h : Below W1.heap.size W1 X) => known_any X (HT.out.below h))
  have HW1 := Lib.hid hW1
  obtain ⟨lg, hlg⟩ : ∃ lg, R.rlong r = lg := ⟨_, rfl⟩
  obtain ⟨ln, hln⟩ : ∃ ln, T.long t = ln := ⟨_, rfl⟩
  rw [hlg] at Hlg
  rw [hln] at Hln
  rw [hW1] at c0 c1 c2
  clear hR hS hf hb1 hW1 hrow hlg hln hT
  cases lg with
  | true =>
    go_enter Tryd.func5, Tryd.ntmps5
    go_wp2_with fail
    rw [← HW1.out]
    (with_reducible refine Hlg.out.mono ?_)
    rintro e w2 ⟨rfl, hb2⟩
    have Hb2 := Lib.hid hb2
    clear hb2 c0 c1 c2
    go_wp2_with fail
    (with_reducible refine (Hkn.out _ Hb2.out).mono ?_)
    rintro e w3 ⟨rfl, hb3⟩
    have Hb3 := Lib.hid (Hb1.out.trans ((Hb2.out.trans (hb3.mono Hb2.out.size)).mono Hb1.out.size))
    clear hb3
    go_wp2
    go_ret
    exact ⟨rfl, Hb3.out⟩
  | false =>
    cases ln with
    | true =>
      go_enter Tryd.func5, Tryd.ntmps5
      go_wp2_with fail
      rw [← HW1.out]
      (with_reducible refine Hlg.out.mono ?_)
      rintro e w2 ⟨rfl, hb2⟩
      have Hb2 := Lib.hid hb2
      clear hb2 c0 c1 c2
      go_wp2_with fail
      (with_reducible refine (Hln.out _ Hb2.out).mono ?_)
      rintro e w3 ⟨rfl, rfl⟩
      go_wp2_with fail
      (with_reducible refine (Hkn.out _ Hb2.out).mono ?_)
      rintro e w3 ⟨rfl, hb3⟩
      have Hb3 := Lib.hid (Hb1.out.trans ((Hb2.out.trans (hb3.mono Hb2.out.size)).mono Hb1.out.size))
      clear hb3
      go_wp2
      go_ret
      exact ⟨rfl, Hb3.out⟩
    | false =>
      have Hg := Lib.hid (fun X (h : Below W1.heap.size W1 X) => gPlain_any (ct := ct) (HS.out.below monoNd h) Hf.out)
      have Hr := Lib.hid (fun X (h : Below W1.heap.size W1 X) => rPlain_any (ct := ct) (HS.out.below monoNd h))
      have Hv1 := Lib.hid (fun X (h : Below W1.heap.size W1 X) => gValidate_any r nl cl nr cr np cp AL AR AP X (HR1.out.below h).sl (HR1.out.below h).sr (HR1.out.below h).sp HR1.out.fl HR1.out.fr)
      have Hv2 := Lib.hid (fun X (h : Below W1.heap.size W1 X) => rValidate_rule (cl := cl) (cr := cr) (cp := cp) (HR1.out.below h))
      have Hf1 := Lib.hid (fun X (h : Below W1.heap.size W1 X) => gValidateFlagged_any t nt ct At X (HS.out.below monoNd h) Hf.out)
      have Hf2 := Lib.hid (fun X (h : Below W1.heap.size W1 X) => rValidateFlagged_any t nt ct At X (HS.out.below monoNd h))
      obtain ⟨er, her⟩ : ∃ er, R.rvalid r = er := ⟨_, rfl⟩
      obtain ⟨ef, hef⟩ : ∃ ef, R.fvalid t = ef := ⟨_, rfl⟩
      rw [her] at Hv1 Hv2
      rw [hef] at Hg Hr Hf1 Hf2
      clear her hef
      have q1 : (er == er) = true := beq_self_eq_true er
      have q2 : (ef == ef) = true := beq_self_eq_true ef
      go_enter Tryd.func5, Tryd.ntmps5
      go_wp2_with fail
      rw [← HW1.out]
      (with_reducible refine Hlg.out.mono ?_)
      rintro e w2 ⟨rfl, hb2⟩
      have Hb2 := Lib.hid hb2
      clear hb2 c0 c1 c2
      go_wp2_with fail
      (with_reducible refine (Hln.out _ Hb2.out).mono ?_)
      rintro e w3 ⟨rfl, rfl⟩
      go_wp2_with fail
      (with_reducible refine (Hg.out _ Hb2.out).mono ?_)
      rintro e w3 ⟨v3, rfl, hown3, hb3⟩
      obtain ⟨A3, c3, rfl⟩ := hown3.form
      have Hb3 := Lib.hid (Hb2.out.trans (hb3.mono Hb2.out.size))
      have Hs3 := Lib.hid (hown3.stAt (ndF_rel _) rfl)
      obtain ⟨m, hm⟩ : ∃ m, (R.plain t).length = m := ⟨_, rfl⟩
      rw [hm] at Hs3 ⊢
      clear hown3 hb3
      go_wp2_with fail
      (with_reducible refine (Hr.out _ Hb3.out).mono ?_)
      rintro e w4 ⟨v4, rfl, hown4, hb4⟩
      obtain ⟨A4, c4, rfl⟩ := hown4.form
      have Hb4 := Lib.hid (Hb3.out.trans (hb4.mono Hb3.out.size))
      have Hs4 := Lib.hid (hown4.stAt (ndF_rel _) rfl)
      have Hs34 := Lib.hid (Hs3.out.below monoNd hb4)
      rw [hm] at Hs4 ⊢
      have hrow4 := (Hb4.out.block _ (Array.getElem?_eq_some_iff.1 Hrow.out).1).trans Hrow.out
      obtain ⟨d0, d1, d2, _⟩ := rl_cells hrow4
      clear hown4 hb4 hrow4 hm Hs3
      obtain ⟨ov⟩ := ov_ex w4
      have HB := Lib.hid (fun u => Hb4.out.trans ((ov.below u).mono Hb4.out.size))
      have K1 := Lib.hid (fun u => calls_over (ov := ov) (Hv1.out _ (HB.out u)))
      have K2 := Lib.hid (fun u => calls_over (ov := ov) (Hv2.out _ (HB.out u)))
      have K3 := Lib.hid (fun u => calls_over (ov := ov) (Hf1.out _ (HB.out u)))
      have K4 := Lib.hid (fun u => calls_over (ov := ov) (Hf2.out _ (HB.out u)))
      have K5 := Lib.hid (fun u => calls_over (ov := ov) (Hkn.out _ (HB.out u)))
      have K6 := Lib.hid (fun u => calls_over (ov := ov) (show Calls Tryd.prog 15 #[.slice A3 m c3, .slice A4 m c4] (ov.f u) (fun e W' => e = .returned (.bool true) ∧ Below (ov.f u).heap.size (ov.f u) W') from by
        have := SameNodes_any (c := c3) (c' := c4) (Hs34.out.below monoNd (ov.below u)) (Hs4.out.below monoNd (ov.below u))
        rwa [decide_eq_true rfl] at this))
      have o0 := ov.cell d0
      have o1 := ov.cell d1
      have o2 := ov.cell d2
      go_wp2
      refine wp_region_ovq ov (by kernel_rfl) (by kernel_rfl) ?_
      repeat (go_big_quiet_step (first | (go_at_call 22; with_reducible exact K1.out _) | (go_at_call 23; with_reducible exact K2.out _) | (go_at_call 24; with_reducible exact K3.out _) | (go_at_call 25; with_reducible exact K4.out _) | (go_at_call 12; with_reducible exact K5.out _) | (go_at_call 15; with_reducible exact K6.out _)))
      refine wpQuiet_nil ?_
      rintro _ ⟨u, rfl⟩
      have Hb5 := Lib.hid (Hb1.out.trans ((HB.out u).mono Hb1.out.size))
      clear o0 o1 o2 d0 d1 d2
      generalize ov.f u = w8 at *
      go_wp2
      go_ret
      exact ⟨rfl, Hb5.out⟩
end Go.Proofs.YtmebpgggfppmhaaDoor
end
