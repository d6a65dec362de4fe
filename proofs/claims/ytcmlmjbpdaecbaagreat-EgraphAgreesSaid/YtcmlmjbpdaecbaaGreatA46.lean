/- Merged: QAG2, QAG4a. -/
import Derived.Test.YtcmlmjbpdaecbaaGreatA43
import Derived.Test.YtcmlmjbpdaecbaaGreatA45
import Derived.Test.YtcmlmjbpdaecbaaGreatA24
set_option linter.unusedVariables false
set_option linter.unusedSimpArgs false
section
namespace Go.Proofs.YtcmlmjbpdaecbaaGreat
open Go.RowKit Go.MapKept Go.Maps Go.WideMaps
set_option linter.unusedVariables false
set_option linter.unusedSimpArgs false

namespace E
theorem opv_0 {wd env : List Int} {x : Opn} {vs : List Int} (h : x.op = 0) : opv wd env x vs = x.imm := T.val_0 (x := ndo x) h
theorem opv_33 {wd env : List Int} {x : Opn} {vs : List Int} (h : x.op = 33) : opv wd env x vs = env.getD x.imm.toNat 0 := T.val_33 (x := ndo x) h
theorem kn_2 {x : Opn} (a : 1 ≤ x.op) (b : x.op ≤ 14) : kn x = 2 := by unfold kn T.ar; rw [if_neg (by omega), if_pos ⟨a, b⟩]; rfl
theorem kn_3 {x : Opn} (a : x.op = 15) : kn x = 3 := by unfold kn T.ar; rw [if_neg (by omega), if_neg (by omega), if_pos a]; rfl
theorem kn_1 {x : Opn} (a : 16 ≤ x.op) (b : x.op ≤ 18) : kn x = 1 := by unfold kn T.ar; rw [if_neg (by omega), if_neg (by omega), if_neg (by omega), if_pos ⟨a, b⟩]; rfl
theorem kn_0 {x : Opn} (a : x.op = 0 ∨ x.op = 33) : kn x = 0 := by unfold kn T.ar; rw [if_pos a]; rfl
theorem opv_14 {wd env : List Int} {x : Opn} {vs : List Int} (h : x.op = 14) : opv wd env x vs = (if T.cmp x.imm (argW wd x 0) (vs.getD 0 0) (vs.getD 1 0) = true then 1 else 0) := by
  have k := kn_2 (x := x) (by omega) (by omega)
  have := T.val_14 (t := tmV wd x vs) (vs := vs) (env := env) (x := ndo x) h
  rw [tm_wd (by omega), tm_at (by omega), tm_at (by omega)] at this
  exact this
theorem opv_15 {wd env : List Int} {x : Opn} {vs : List Int} (h : x.op = 15) (ha : vs.getD 0 0 = 0 ∨ vs.getD 0 0 = 1) : opv wd env x vs = if vs.getD 0 0 = 1 then vs.getD 1 0 else vs.getD 2 0 := by
  have k := kn_3 (x := x) h
  have := T.val_15 (t := tmV wd x vs) (vs := vs) (env := env) (x := ndo x) h
  rw [tm_at (i := 0) (by omega)] at this
  unfold opv
  rw [this]
  rcases ha with e | e
  · rw [e, if_neg (by decide)]
    exact tm_at (i := 2) (by omega)
  · rw [e, if_pos rfl]
    exact tm_at (i := 1) (by omega)
theorem opv_16 {wd env : List Int} {x : Opn} {vs : List Int} (h : 16 ≤ x.op) (h' : x.op ≤ 18) : opv wd env x vs = T.ext x.op (argW wd x 0) x.w (vs.getD 0 0) := by
  have k := kn_1 (x := x) h h'
  have := T.val_16 (t := tmV wd x vs) (vs := vs) (env := env) (x := ndo x) h (by show x.op ≠ 33; omega)
  rw [tm_wd (by omega), tm_at (by omega)] at this
  exact this
theorem opv_bin {wd env : List Int} {x : Opn} {vs : List Int} (h : 1 ≤ x.op) (h' : x.op ≤ 13) : opv wd env x vs = B.full x.op x.w (vs.getD 0 0) (vs.getD 1 0) := by
  have k := kn_2 (x := x) (by omega) (by omega)
  have := T.val_bin (t := tmV wd x vs) (vs := vs) (env := env) (x := ndo x) (by show x.op ≠ 0; omega) (by show x.op < 14; omega)
  rw [tm_at (by omega), tm_at (by omega)] at this
  exact this
theorem Ty.cases {wd : List Int} {x : Opn} (h : Ty wd x) : x.op = 0 ∨ x.op = 33 ∨ x.op = 14 ∨ x.op = 15 ∨ (16 ≤ x.op ∧ x.op ≤ 18) ∨ (1 ≤ x.op ∧ x.op ≤ 13) := by
  have hn := h.n
  unfold T.ar at hn
  split at hn
  · omega
  · split at hn
    · omega
    · split at hn
      · omega
      · split at hn <;> omega
end E

set_option maxRecDepth 100000 in
set_option maxHeartbeats 8000000 in
theorem rvalue_any {W : World} {b nv ce cv : Nat} {Ae Av : Option Addr} {p : List Nat} {wd env vals : List Int} {kn : List (E.Opn × Nat)} {nm : List Nat} {vr : E.Vr} {v1 v2 v4 : Value} {kb : Nat} {x : E.Opn} (h : RGC W b p wd kn nm vr v1 v2 v4 kb) (hwl : wd.length ≤ 900000) (ht : E.Ty wd x) (hv : x.op = 33 → vr.get x.imm.toNat = x.w) (ha : ∀ i, i < E.kn x → (E.arg x i).toNat < nv) (haw : ∀ i, i < E.kn x → (E.arg x i).toNat < wd.length) (hE : SlAt (IntR .u32) W Ae 4 env) (he : E.EnvG vr env) (hV : SlAt (IntR .u32) W Av nv vals) (hw : ∀ i, i < E.kn x → 0 ≤ (E.vsOf (fun c => vals.getD c 0) x).getD i 0 ∧ (E.vsOf (fun c => vals.getD c 0) x).getD i 0 < B.pw (E.argW wd x i)) :
    Calls Tryz.prog 38 #[.pointer (some ⟨b, 0, none⟩), opV x, .slice Ae 4 ce, .slice Av nv cv] W fun e w' => e = .returned (.int .u32 (E.opv wd env x (E.vsOf (fun c => vals.getD c 0) x))) ∧ Below W.heap.size W w' := by
  obtain ⟨vs, hvs⟩ : ∃ vs, E.vsOf (fun c => vals.getD c 0) x = vs := ⟨_, rfl⟩
  obtain ⟨vv, hvv⟩ : ∃ vv, E.opv wd env x vs = vv := ⟨_, rfl⟩
  rw [hvs, hvv]
  rw [hvs] at hw
  have hvl : vs.length = E.kn x := by rw [← hvs]; exact E.vsOf_len _ _
  have hvi : ∀ i, i < E.kn x → vs.getD i 0 = vals.getD (E.arg x i).toNat 0 := fun i hi => by rw [← hvs]; exact E.vsOf_getD hi
  have Hnod := Lib.hid (E.tm_nod he ht hv hvl hw)
  obtain ⟨W2, hW2⟩ : ∃ W2, W2 = W.alloc (.cells #[.int .i64 x.op, .int .i64 x.w, .int .u32 x.imm, .int .i64 x.a0, .int .i64 x.a1, .int .i64 x.a2] 95) := ⟨_, rfl⟩
  have hb2 : Below W.heap.size W W2 := by rw [hW2]; exact (Below.refl _ _).alloc (Nat.le_refl _) _
  have hr0 : W2.heap[W.heap.size]? = some (.cells #[.int .i64 x.op, .int .i64 x.w, .int .u32 x.imm, .int .i64 x.a0, .int .i64 x.a1, .int .i64 x.a2] 95 (0, 0)) := by rw [hW2]; exact heap_alloc_new W _
  obtain ⟨k1, k2⟩ := ht.kn_le
  obtain ⟨y0, y1, y2, y3, y4, y5⟩ := op6_cells hr0
  -- operand i: its value lies in the slice
  have Hop := Lib.hid (show ∀ i, i < E.kn x → ∃ (c : Nat) (n : Int) (gv ov : Nat), E.arg x i = (c : Int) ∧ c < nv ∧ vs.getD i 0 = n ∧ Av = some ⟨gv, ov, none⟩ ∧ W2.cell? ⟨gv, ov + c, none⟩ = some (.int .u32 n) from fun i hi => by
    have h0 := ht.hi i (by omega)
    obtain ⟨n, gv, ov, u, hn, e1, _, hc, hu⟩ := (hV.below (monoInt _) hb2).at_ (ha i hi)
    have hu' : u = .int .u32 n := hu
    subst hu'
    exact ⟨_, n, gv, ov, (Int.toNat_of_nonneg h0).symm, ha i hi, by rw [hvi i hi, getD_of hn], e1, hc⟩)
  have Hwd := Lib.hid (show 0 < E.kn x → ∀ c : Nat, E.arg x 0 = (c : Int) → ∃ gw ow cw, v2 = .slice (some ⟨gw, ow, none⟩) wd.length cw ∧ c < wd.length ∧ W2.cell? ⟨gw, ow + c, none⟩ = some (.int .i64 (E.argW wd x 0)) ∧ W2.cell? ⟨b, 1, none⟩ = some (.slice (some ⟨gw, ow, none⟩) wd.length cw) from fun hk c hc => by
    have hcl := haw 0 hk
    rw [hc, Int.toNat_natCast] at hcl
    have hg2 := h.below hb2
    obtain ⟨A2, c2, e2, hs2⟩ := hg2.slW
    obtain ⟨wc, g2, o2, u2, hwc, rfl, _, kc, hu⟩ := hs2.at_ hcl
    have hu' : u2 = .int .i64 wc := hu
    subst hu'
    refine ⟨g2, o2, c2, e2, hcl, ?_, e2 ▸ hg2.cells.2.1⟩
    unfold E.argW
    rw [hc, Int.toNat_natCast, getD_of hwc]
    exact kc)
  have Henv := Lib.hid (show x.op = 33 → ∃ (i : Nat) (n : Int) (ge oe : Nat), x.imm = (i : Int) ∧ i < 4 ∧ env.getD i 0 = n ∧ Ae = some ⟨ge, oe, none⟩ ∧ W2.cell? ⟨ge, oe + i, none⟩ = some (.int .u32 n) from fun ho => by
    have h4 : x.imm < 4 := by
      have := ht.im
      unfold T.immOk at this
      rw [if_neg (by dsimp only; omega), if_pos ho] at this
      exact of_decide_eq_true this
    have hi0 := ht.i0
    obtain ⟨n, ge, oe, u, hn, e1, _, hc, hu⟩ := (hE.below (monoInt _) hb2).at_ (k := x.imm.toNat) (by omega)
    have hu' : u = .int .u32 n := hu
    subst hu'
    exact ⟨_, n, ge, oe, (Int.toNat_of_nonneg hi0.1).symm, by omega, getD_of hn, e1, hc⟩)
  have Hb2 := Lib.hid hb2
  have Ht := Lib.hid ht
  have Hw := Lib.hid hw
  have Hvv := Lib.hid hvv
  have Hk1 := Lib.hid k1
  have Hno := Lib.hid ht.no
  have hlv := hV.le
  have hle := hE.le
  have hcs := ht.cases
  obtain ⟨op, w, imm, a0, a1, a2⟩ := x
  dsimp only at y0 y1 y2 y3 y4 y5 hcs hW2
  clear h ht hv ha haw hE he hV hw hvs hvv hvl hvi hb2 hr0 k1 k2
  unfold opV
  rcases hcs with rfl | rfl | rfl | rfl | ho | ho
  · -- a constant
    have hk := E.kn_0 (x := ⟨0, w, imm, a0, a1, a2⟩) (.inl rfl)
    have h0 : a0 = -1 := Hno.out 0 (by decide) (by have := Hk1.out; omega)
    have h1 : a1 = -1 := Hno.out 1 (by decide) (by have := Hk1.out; omega)
    have h2 : a2 = -1 := Hno.out 2 (by decide) (by have := Hk1.out; omega)
    subst h0 h1 h2
    have Hr := Lib.hid (show imm = vv from (E.opv_0 (x := ⟨0, w, imm, -1, -1, -1⟩) rfl).symm.trans Hvv.out)
    clear hk
    go_enter Tryz.func38, Tryz.ntmps38
    go_upto_region 2 with (fail)
    rw [← hW2]
    clear hW2
    go_wp2_with fail
    go_ret
    exact ⟨by rw [← Hr.out]; rfl, Hb2.out⟩
  · -- a variable
    have hk := E.kn_0 (x := ⟨33, w, imm, a0, a1, a2⟩) (.inr rfl)
    have h0 : a0 = -1 := Hno.out 0 (by decide) (by have := Hk1.out; omega)
    have h1 : a1 = -1 := Hno.out 1 (by decide) (by have := Hk1.out; omega)
    have h2 : a2 = -1 := Hno.out 2 (by decide) (by have := Hk1.out; omega)
    subst h0 h1 h2
    obtain ⟨i, n, ge, oe, hi, hi4, hn, rfl, hc⟩ := Henv.out rfl
    dsimp only at hi
    subst hi
    have Hr := Lib.hid (show n = vv from hn.symm.trans ((E.opv_33 (x := ⟨33, w, (i : Int), -1, -1, -1⟩) rfl).symm.trans Hvv.out))
    clear hk hn
    go_enter Tryz.func38, Tryz.ntmps38
    go_upto_region 2 with (fail)
    rw [← hW2]
    clear hW2
    go_wp2_with fail
    go_ret
    exact ⟨by rw [← Hr.out]; rfl, Hb2.out⟩
  · -- a comparison
    have hk := E.kn_2 (x := ⟨14, w, imm, a0, a1, a2⟩) (by show (1 : Int) ≤ 14; decide) (by show (14 : Int) ≤ 14; decide)
    have h2 : a2 = -1 := Hno.out 2 (by decide) (by have := Hk1.out; omega)
    subst h2
    obtain ⟨c0, n0, gv, ov, e0, l0, f0, rfl, q0⟩ := Hop.out 0 (by omega)
    obtain ⟨c1, n1, gv', ov', e1, l1, f1, eA, q1⟩ := Hop.out 1 (by omega)
    cases eA
    have e0' : a0 = (c0 : Int) := e0
    have e1' : a1 = (c1 : Int) := e1
    obtain ⟨gw, ow, cw, _, lw, qw, qh⟩ := Hwd.out (by omega) c0 e0
    subst e0' e1'
    obtain ⟨wc, hwc⟩ : ∃ wc, E.argW wd ⟨14, w, imm, (c0 : Int), (c1 : Int), -1⟩ 0 = wc := ⟨_, rfl⟩
    rw [hwc] at qw
    obtain ⟨hl2, m0, m9, ew⟩ := Hnod.out.cmp rfl
    have b0 := Hw.out 0 (by omega)
    have b1 := Hw.out 1 (by omega)
    have hws := Ht.out.ws 0 (by have := Hk1.out; omega)
    have hcm := Ht.out.cmp rfl
    rw [← hcm, hwc, f1] at b1
    rw [hwc, f0] at b0
    rw [hwc] at hws
    have m0' : 0 ≤ imm := m0
    have m9' : imm ≤ 9 := m9
    have hQ := fun W' : World => rCompare_any imm wc n0 n1 W' m0' m9' hws.1 hws.2 b0.1 b0.2 b1.1 b1.2
    have hv9 := (E.opv_14 (wd := wd) (env := env) (x := ⟨14, w, imm, (c0 : Int), (c1 : Int), -1⟩) (vs := vs) rfl).symm.trans Hvv.out
    rw [hwc, f0, f1] at hv9
    generalize T.cmp imm wc n0 n1 = cc at hv9 hQ
    have HQ := Lib.hid (fun nn => show Calls Tryz.prog 79 #[.int .i64 imm, .int .i64 wc, .int .u32 n0, .int .u32 n1] (W2.drewN nn) (fun e w'' => e = .returned (.tuple #[.bool cc, .int .i64 0]) ∧ ∃ m, w'' = W2.drewN m) from Calls.quiet_of_same ((hQ _).mono fun e w' ⟨h1, h2⟩ => ⟨h1, h2.symm⟩))
    clear hQ hk e0 e1 f0 f1 hwc hl2 m0 ew b0 b1 hws hcm
    cases cc
    · have Hr := Lib.hid (show (0 : Int) = vv from by rw [← hv9]; simp)
      clear hv9
      go_enter Tryz.func38, Tryz.ntmps38
      go_upto_region 2 with (fail)
      rw [← hW2]
      clear hW2
      go_wp2_with fail
      go_quiet ((first | (go_at_call 79; with_reducible exact HQ.out _) | fail))
      generalize hW3 : W2.drewN _ = W3
      have Hb3 := Lib.hid (Hb2.out.trans ((show Dr W2 W3 from ⟨_, hW3.symm⟩).below _))
      clear hW3
      go_wp2_with fail
      go_ret
      exact ⟨by rw [← Hr.out]; rfl, Hb3.out⟩
    · have Hr := Lib.hid (show (1 : Int) = vv from by rw [← hv9]; simp)
      clear hv9
      go_enter Tryz.func38, Tryz.ntmps38
      go_upto_region 2 with (fail)
      rw [← hW2]
      clear hW2
      go_wp2_with fail
      go_quiet ((first | (go_at_call 79; with_reducible exact HQ.out _) | fail))
      generalize hW3 : W2.drewN _ = W3
      have Hb3 := Lib.hid (Hb2.out.trans ((show Dr W2 W3 from ⟨_, hW3.symm⟩).below _))
      clear hW3
      go_wp2_with fail
      go_ret
      exact ⟨by rw [← Hr.out]; rfl, Hb3.out⟩
  · -- a choice
    have hk := E.kn_3 (x := ⟨15, w, imm, a0, a1, a2⟩) rfl
    obtain ⟨c0, n0, gv, ov, e0, l0, f0, rfl, q0⟩ := Hop.out 0 (by omega)
    obtain ⟨c1, n1, gv', ov', e1, l1, f1, eA, q1⟩ := Hop.out 1 (by omega)
    cases eA
    obtain ⟨c2, n2, gv', ov', e2, l2, f2, eA, q2⟩ := Hop.out 2 (by omega)
    cases eA
    have e0' : a0 = (c0 : Int) := e0
    have e1' : a1 = (c1 : Int) := e1
    have e2' : a2 = (c2 : Int) := e2
    subst e0' e1' e2'
    have hit := (Ht.out.ite rfl).1
    have b0 := Hw.out 0 (by omega)
    have hp1 : B.pw 1 = 2 := by decide
    rw [hit, f0, hp1] at b0
    have hb01 : n0 = 0 ∨ n0 = 1 := by omega
    have hv9 := (E.opv_15 (wd := wd) (env := env) (x := ⟨15, w, imm, (c0 : Int), (c1 : Int), (c2 : Int)⟩) (vs := vs) rfl (by rw [f0]; exact hb01)).symm.trans Hvv.out
    rw [f0, f1, f2] at hv9
    clear hk e0 e1 e2 f0 f1 f2 hit b0 hp1
    rcases hb01 with rfl | rfl
    · have Hr := Lib.hid (show n2 = vv from by rw [← hv9]; simp)
      clear hv9
      go_enter Tryz.func38, Tryz.ntmps38
      go_upto_region 2 with (fail)
      rw [← hW2]
      clear hW2
      go_wp2_with fail
      go_ret
      exact ⟨by rw [← Hr.out]; rfl, Hb2.out⟩
    · have Hr := Lib.hid (show n1 = vv from by rw [← hv9]; simp)
      clear hv9
      go_enter Tryz.func38, Tryz.ntmps38
      go_upto_region 2 with (fail)
      rw [← hW2]
      clear hW2
      go_wp2_with fail
      go_ret
      exact ⟨by rw [← Hr.out]; rfl, Hb2.out⟩
  · -- an extension
    have hk := E.kn_1 (x := ⟨op, w, imm, a0, a1, a2⟩) ho.1 ho.2
    have h1 : a1 = -1 := Hno.out 1 (by decide) (by have := Hk1.out; omega)
    have h2 : a2 = -1 := Hno.out 2 (by decide) (by have := Hk1.out; omega)
    subst h1 h2
    obtain ⟨c0, n0, gv, ov, e0, l0, f0, rfl, q0⟩ := Hop.out 0 (by omega)
    have e0' : a0 = (c0 : Int) := e0
    obtain ⟨gw, ow, cw, _, lw, qw, qh⟩ := Hwd.out (by omega) c0 e0
    subst e0'
    obtain ⟨wc, hwc⟩ : ∃ wc, E.argW wd ⟨op, w, imm, (c0 : Int), -1, -1⟩ 0 = wc := ⟨_, rfl⟩
    rw [hwc] at qw
    obtain ⟨hl1, hok⟩ := Hnod.out.ext ho.1 (by show op ≠ 33; omega)
    rw [E.tm_wd (by omega), E.tm_at (by omega), hwc, f0] at hok
    have hv9 := (E.opv_16 (wd := wd) (env := env) (x := ⟨op, w, imm, (c0 : Int), -1, -1⟩) (vs := vs) ho.1 ho.2).symm.trans Hvv.out
    rw [hwc, f0] at hv9
    have HQ := Lib.hid (fun nn => show Calls Tryz.prog 80 #[.int .i64 op, .int .i64 wc, .int .i64 w, .int .u32 n0] (W2.drewN nn) (fun e w'' => e = .returned (.tuple #[.int .u32 vv, .int .i64 0]) ∧ ∃ m, w'' = W2.drewN m) from Calls.quiet_of_same ((rExtend_any op wc w n0 _ hok).mono fun e w' ⟨h1, h2⟩ => ⟨by rw [← hv9]; exact h1, h2.symm⟩))
    have h3k : op = 16 ∨ op = 17 ∨ op = 18 := by omega
    clear hk e0 f0 hwc hl1 hok hv9 ho
    rcases h3k with rfl | rfl | rfl
    all_goals
      go_enter Tryz.func38, Tryz.ntmps38
      go_upto_region 2 with (fail)
      rw [← hW2]
      clear hW2
      go_wp2_with fail
      go_quiet ((first | (go_at_call 80; with_reducible exact HQ.out _) | fail))
      generalize hW3 : W2.drewN _ = W3
      have Hb3 := Lib.hid (Hb2.out.trans ((show Dr W2 W3 from ⟨_, hW3.symm⟩).below _))
      clear hW3
      go_wp2_with fail
      go_ret
      exact ⟨rfl, Hb3.out⟩
  · -- an operation
    have hk := E.kn_2 (x := ⟨op, w, imm, a0, a1, a2⟩) ho.1 (by show op ≤ 14; omega)
    have h2 : a2 = -1 := Hno.out 2 (by decide) (by have := Hk1.out; omega)
    subst h2
    obtain ⟨c0, n0, gv, ov, e0, l0, f0, rfl, q0⟩ := Hop.out 0 (by omega)
    obtain ⟨c1, n1, gv', ov', e1, l1, f1, eA, q1⟩ := Hop.out 1 (by omega)
    cases eA
    have e0' : a0 = (c0 : Int) := e0
    have e1' : a1 = (c1 : Int) := e1
    subst e0' e1'
    have hbn := Ht.out.bin ho.1 ho.2
    have b0 := Hw.out 0 (by omega)
    have b1 := Hw.out 1 (by omega)
    rw [hbn.1, f0] at b0
    rw [hbn.2, f1] at b1
    have hww := Ht.out.w
    dsimp only at b0 b1 hww
    have hv9 := (E.opv_bin (wd := wd) (env := env) (x := ⟨op, w, imm, (c0 : Int), (c1 : Int), -1⟩) (vs := vs) ho.1 ho.2).symm.trans Hvv.out
    rw [f0, f1] at hv9
    dsimp only at hv9
    have hpl := B.pw_le hww.2
    have htot : B.total op w n0 n1 = (vv, 0) := by
      unfold B.total B.okOp B.isW
      rw [B.isWd_iff.2 ⟨hww.1, hww.2⟩, if_pos (by simp [ho.1, ho.2, b0.2, b1.2]), hv9]
    have HQ := Lib.hid (show ∀ Y : World, Calls Tryz.prog 81 #[.int .i64 op, .int .i64 w, .int .u32 n0, .int .u32 n1] Y (fun e w'' => e = .returned (.tuple #[.int .u32 vv, .int .i64 0]) ∧ Dr Y w'') from fun Y => (rtotal_any op w n0 n1 _ b0.1 (by omega) b1.1 (by omega)).mono fun e w' ⟨h1, h2⟩ => ⟨by rw [htot] at h1; exact h1, h2⟩)
    have z0 : (op == 0) = false := by simp; omega
    have z33 : (op == 33) = false := by simp; omega
    have z14 : (op == 14) = false := by simp; omega
    have z15 : (op == 15) = false := by simp; omega
    have z16 : (op == 16) = false := by simp; omega
    have z17 : (op == 17) = false := by simp; omega
    have z18 : (op == 18) = false := by simp; omega
    clear hk e0 e1 f0 f1 hbn b0 b1 hww hv9 hpl htot ho
    go_enter Tryz.func38, Tryz.ntmps38
    go_upto_region 2 with (fail)
    rw [← hW2]
    clear hW2
    go_wp2_with fail
    (with_reducible refine (HQ.out _).mono ?_)
    rintro e w3 ⟨rfl, hd⟩
    have Hb3 := Lib.hid (Hb2.out.trans (hd.below _))
    clear hd
    go_wp2_with fail
    go_ret
    exact ⟨rfl, Hb3.out⟩
end Go.Proofs.YtcmlmjbpdaecbaaGreat
end
section
namespace Go.Proofs.YtcmlmjbpdaecbaaGreat
open Go.RowKit Go.MapKept Go.Maps Go.WideMaps
set_option linter.unusedVariables false
set_option linter.unusedSimpArgs false

theorem infoBl : (Tryz.prog.info? 4).map (fun i => (i.zero, i.size, i.bytes)) = some (some (.bool false), 1, 1) := by kernel_rfl
theorem slU_row {w : World} {g : Nat} {l : List Int} {T : TypeId} (h : w.heap[g]? = some (.cells (l.map (Value.int .u32)).toArray T (0, 0))) (hn : l.length ≤ 9223372036854775807) : SlAt (IntR .u32) w (some ⟨g, 0, none⟩) l.length l := by
  refine ⟨rfl, hn, fun k x hx => ⟨g, 0, .int .u32 x, rfl, (Array.getElem?_eq_some_iff.1 h).1, ?_, rfl⟩⟩
  rw [cell_of_row _ _ _ _ _ (0, 0) h, Nat.zero_add, List.getElem?_toArray, List.getElem?_map, hx]; rfl
namespace E
def fk (vals : List Int) (kno : List Bool) (c : Nat) : Option Int := if kno.getD c false = true then some (vals.getD c 0) else none
theorem fk_set {vals : List Int} {kno : List Bool} {d : Nat} (hv : d < vals.length) (hk : d < kno.length) (n : Int) : fk (vals.set d n) (kno.set d true) = fun c => if c = d then some n else fk vals kno c := by
  funext c
  unfold fk
  by_cases h : c = d
  · subst h
    rw [if_pos rfl, if_pos, List.getD_eq_getElem?_getD, List.getElem?_set_self hv]
    · rfl
    · rw [List.getD_eq_getElem?_getD, List.getElem?_set_self hk]; rfl
  · rw [if_neg h, List.getD_eq_getElem?_getD, List.getD_eq_getElem?_getD, List.getElem?_set_ne (fun e => h e.symm), List.getElem?_set_ne (fun e => h e.symm), ← List.getD_eq_getElem?_getD, ← List.getD_eq_getElem?_getD]
theorem fk_vs {vals : List Int} {kno : List Bool} {x : Opn} (h : Known (fk vals kno) x) : vsOf (fv (fk vals kno)) x = vsOf (fun c => vals.getD c 0) x := by
  unfold vsOf
  apply List.map_congr_left
  intro i hi
  obtain ⟨m, hm⟩ := h i (List.mem_range.1 hi)
  unfold fv
  rw [hm]
  unfold fk at hm
  split at hm
  · cases hm; rfl
  · cases hm
/-- operand number i is known, or is not there -/
def oKn (kno : List Bool) (a : Int) : Bool := decide (a < 0) || kno.getD a.toNat false
theorem oKn_all {wd : List Int} {x : Opn} (ht : Ty wd x) (vals : List Int) (kno : List Bool) : Known (fk vals kno) x ↔ (oKn kno x.a0 && oKn kno x.a1 && oKn kno x.a2) = true := by
  obtain ⟨k1, k2⟩ := ht.kn_le
  have hone : ∀ i, i < 3 → (oKn kno (arg x i) = true ↔ (i < kn x → ∃ m, fk vals kno (arg x i).toNat = some m)) := fun i hi => by
    unfold oKn
    rcases Nat.lt_or_ge i (kn x) with h | h
    · have := ht.hi i (by omega)
      rw [decide_eq_false (by omega), Bool.false_or]
      constructor
      · intro hk _
        exact ⟨_, by unfold fk; rw [if_pos hk]⟩
      · intro hk
        obtain ⟨m, hm⟩ := hk h
        unfold fk at hm
        split at hm
        · assumption
        · cases hm
    · have := ht.no i hi (by omega)
      rw [decide_eq_true (by omega)]
      exact ⟨fun _ h' => by omega, fun _ => rfl⟩
  have e0 := hone 0 (by decide)
  have e1 := hone 1 (by decide)
  have e2 := hone 2 (by decide)
  rw [Bool.and_eq_true, Bool.and_eq_true]
  constructor
  · intro h
    exact ⟨⟨e0.2 (h 0), e1.2 (h 1)⟩, e2.2 (h 2)⟩
  · rintro ⟨⟨h0, h1⟩, h2⟩ i hi
    rcases (show i = 0 ∨ i = 1 ∨ i = 2 by omega) with rfl | rfl | rfl
    · exact e0.1 h0 hi
    · exact e1.1 h1 hi
    · exact e2.1 h2 hi
def unk (kno : List Bool) : Nat := kno.countP fun b => !b
theorem unk_set {kno : List Bool} {d : Nat} (hd : d < kno.length) (h : kno.getD d false = false) : unk (kno.set d true) + 1 = unk kno := by
  unfold unk
  induction kno generalizing d with
  | nil => simp at hd
  | cons b l ih =>
    cases d with
    | zero =>
      simp at h
      subst h
      simp
    | succ d =>
      simp only [List.set_cons_succ, List.countP_cons]
      have := ih (d := d) (by simpa using hd) (by simpa using h)
      omega
end E
/-- the slices of values and of what is known -/
structure RA (W : World) (n gv gk : Nat) (vals : List Int) (kno : List Bool) (w : World) : Prop where
  bel : Below W.heap.size W w
  vr : w.heap[gv]? = some (.cells (vals.map (Value.int .u32)).toArray 61 (0, 0))
  kr : w.heap[gk]? = some (.cells (kno.map Value.bool).toArray 4 (0, 0))
  lv : vals.length = n
  lk : kno.length = n
  gvn : W.heap.size ≤ gv
  gkn : W.heap.size ≤ gk
  ne : gv ≠ gk
section
variable {W w w' : World} {n gv gk : Nat} {vals : List Int} {kno : List Bool}
theorem RA.lt (h : RA W n gv gk vals kno w) : gv < w.heap.size ∧ gk < w.heap.size := ⟨(Array.getElem?_eq_some_iff.1 h.vr).1, (Array.getElem?_eq_some_iff.1 h.kr).1⟩
theorem RA.below (h : RA W n gv gk vals kno w) (hb : Below w.heap.size w w') : RA W n gv gk vals kno w' :=
  ⟨h.bel.trans (hb.mono h.bel.size), (hb.block _ h.lt.1).trans h.vr, (hb.block _ h.lt.2).trans h.kr, h.lv, h.lk, h.gvn, h.gkn, h.ne⟩
theorem RA.put (h : RA W n gv gk vals kno w) {r : Nat} (hr : W.heap.size ≤ r) (h1 : r ≠ gv) (h2 : r ≠ gk) (o : Obj) : RA W n gv gk vals kno (putObj w r o) :=
  ⟨putObj_below o h.bel hr, (putObj_other o (fun e => h1 e.symm)).trans h.vr, (putObj_other o (fun e => h2 e.symm)).trans h.kr, h.lv, h.lk, h.gvn, h.gkn, h.ne⟩
theorem RA.kcell (h : RA W n gv gk vals kno w) {c : Nat} (hc : c < n) : w.cell? ⟨gk, c, none⟩ = some (.bool (kno.getD c false)) := by
  rw [cell_of_row _ _ _ _ _ (0, 0) h.kr, List.getElem?_toArray, List.getElem?_map, List.getD_eq_getElem?_getD, List.getElem?_eq_getElem (by rw [h.lk]; exact hc)]
  rfl
theorem RA.vcell (h : RA W n gv gk vals kno w) {c : Nat} (hc : c < n) : w.cell? ⟨gv, c, none⟩ = some (.int .u32 (vals.getD c 0)) := by
  rw [cell_of_row _ _ _ _ _ (0, 0) h.vr, List.getElem?_toArray, List.getElem?_map, List.getD_eq_getElem?_getD, List.getElem?_eq_getElem (by rw [h.lv]; exact hc)]
  rfl
theorem RA.set (h : RA W n gv gk vals kno w) (c : Nat) (v : Int) : RA W n gv gk (vals.set c v) (kno.set c true) ((w.setCell ⟨gv, c, none⟩ (.int .u32 v)).setCell ⟨gk, c, none⟩ (.bool true)) := by
  refine ⟨(h.bel.setCell (p := ⟨gv, c, none⟩) h.gvn _).setCell (p := ⟨gk, c, none⟩) h.gkn _, ?_, ?_, by simp [h.lv], by simp [h.lk], h.gvn, h.gkn, h.ne⟩
  · rw [Below.heap_setCell _ _ _ _ (by exact h.ne), heap_setCell_same _ _ _ _ _ _ h.vr]
    simp [List.map_set]
  · rw [heap_setCell_same _ _ _ _ _ _ ((Below.heap_setCell _ _ _ _ (by exact fun e => h.ne e.symm)).trans h.kr)]
    simp [List.map_set]
theorem RA.sl (h : RA W n gv gk vals kno w) (hn : n ≤ 900000) : SlAt (IntR .u32) w (some ⟨gv, 0, none⟩) n vals := by
  have := slU_row h.vr (by rw [h.lv]; omega)
  rwa [h.lv] at this
end

end Go.Proofs.YtcmlmjbpdaecbaaGreat
end
