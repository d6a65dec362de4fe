/- Rules: a side of a rule at a width (the reference). -/
import Derived.Test.YtmebpgggfppmhaaDoorGH1
set_option linter.unusedVariables false
set_option linter.unusedSimpArgs false
section
namespace Go.Proofs.YtmebpgggfppmhaaDoor
open Go.RowKit
set_option linter.unusedVariables false
set_option linter.unusedSimpArgs false

def st5 (w : World) (g o : Nat) (a0 a1 a2 a3 a4 : Value) : World := ((((w.setCell ⟨g, o, none⟩ a0).setCell ⟨g, o + 1, none⟩ a1).setCell ⟨g, o + 2, none⟩ a2).setCell ⟨g, o + 3, none⟩ a3).setCell ⟨g, o + 4, none⟩ a4
theorem st5_row {w : World} {g : Nat} {T : TypeId} {cur : Array Value} (o : Nat) (a0 a1 a2 a3 a4 : Value) (h : w.heap[g]? = some (.cells cur T (0, 0))) : (st5 w g o a0 a1 a2 a3 a4).heap[g]? = some (.cells (((((cur.setIfInBounds o a0).setIfInBounds (o + 1) a1).setIfInBounds (o + 2) a2).setIfInBounds (o + 3) a3).setIfInBounds (o + 4) a4) T (0, 0)) :=
  heap_setCell_same _ g (o + 4) _ _ a4 (heap_setCell_same _ g (o + 3) _ _ a3 (heap_setCell_same _ g (o + 2) _ _ a2 (heap_setCell_same _ g (o + 1) _ _ a1 (heap_setCell_same w g o _ _ a0 h))))
theorem st5_below {B : Nat} {W w : World} {g : Nat} (o : Nat) (a0 a1 a2 a3 a4 : Value) (h : Below B W w) (hg : B ≤ g) : Below B W (st5 w g o a0 a1 a2 a3 a4) :=
  ((((h.setCell (p := ⟨g, o, none⟩) hg _).setCell (p := ⟨g, o + 1, none⟩) hg _).setCell (p := ⟨g, o + 2, none⟩) hg _).setCell (p := ⟨g, o + 3, none⟩) hg _).setCell (p := ⟨g, o + 4, none⟩) hg _
theorem st5_grown (w : World) (g o : Nat) (a0 a1 a2 a3 a4 : Value) : w.grownBy (st5 w g o a0 a1 a2 a3 a4) (some g) :=
  ((((setCell_grown w g o a0).trans (setCell_grown _ g (o + 1) a1)).trans (setCell_grown _ g (o + 2) a2)).trans (setCell_grown _ g (o + 3) a3)).trans (setCell_grown _ g (o + 4) a4)
theorem OwnR.put5 {B g off n c k : Nat} {w : World} {nds : List T.Nd} {cur : Array Value} {y : T.Nd} {A2 : Option Addr} {c2 : Nat} (h : OwnR (NdF B) B w (.slice (some ⟨g, off, none⟩) n c) nds) (hn : nds.length = n) (hk : k < n) (hg : w.heap[g]? = some (.cells cur 41 (0, 0))) (hs : off + k * 5 + 4 < cur.size) (hy : NdF B w (ndC y A2 c2) y) :
    OwnR (NdF B) B (st5 w g (off + k * 5) (.int .i64 y.op) (.int .i64 y.w) (.int .i64 y.fl) (.slice A2 y.args.length c2) (.int .u32 y.imm)) (.slice (some ⟨g, off, none⟩) n c) (nds.set k y) := by
  have hgr := st5_grown w g (off + k * 5) (.int .i64 y.op) (.int .i64 y.w) (.int .i64 y.fl) (.slice A2 y.args.length c2) (.int .u32 y.imm)
  have hoth : ∀ g' cur' T fr, some g = some g' → w.heap[g']? = some (.cells cur' T fr) → T = 41 := fun g' cur' T fr e hcc => by
    injection e with e
    subst e
    rw [hg] at hcc
    injection hcc with hcc
    injection hcc with _ hcc _
    exact hcc.symm
  refine OwnR.put (y := y) (A2 := A2) (c2 := c2) h hn hk hg hgr (st5_row _ _ _ _ _ _ hg) (by simp) (fun i hi => ?_) (fun i u hu => ?_) (NdF.other' hy hgr hoth)
  · simp only [Array.getElem?_setIfInBounds, Array.size_setIfInBounds]
    rw [if_neg (by omega), if_neg (by omega), if_neg (by omega), if_neg (by omega), if_neg (by omega)]
  · simp only [Array.getElem?_setIfInBounds, Array.size_setIfInBounds]
    rcases i with _ | _ | _ | _ | _ | i
    · rw [if_neg (by omega), if_neg (by omega), if_neg (by omega), if_neg (by omega), if_pos (by omega), if_pos (by omega)]; exact hu
    · rw [if_neg (by omega), if_neg (by omega), if_neg (by omega), if_pos (by omega), if_pos (by omega)]; exact hu
    · rw [if_neg (by omega), if_neg (by omega), if_pos (by omega), if_pos (by omega)]; exact hu
    · rw [if_neg (by omega), if_pos (by omega), if_pos (by omega)]; exact hu
    · rw [if_pos (by omega), if_pos (by omega)]; exact hu
    · simp [ndC] at hu

theorem Side.set0 {W wr : World} {v : Value} {nds : List T.Nd} {w5 : World} (h : Side W wr v nds w5) (k : Nat) (u : Value) : Side W wr v nds (w5.setCell ⟨wr.heap.size, k, none⟩ u) := ⟨h.below.setCell (p := ⟨wr.heap.size, k, none⟩) (Nat.le_refl _) _, h.bw, h.own⟩
theorem st5_new {w : World} {g : Nat} {T : TypeId} {b0 b1 b2 b3 b4 : Value} (a0 a1 a2 a3 a4 : Value) (h : w.heap[g]? = some (.cells #[b0, b1, b2, b3, b4] T (0, 0))) : (((((w.setCell ⟨g, 0, none⟩ a0).setCell ⟨g, 1, none⟩ a1).setCell ⟨g, 2, none⟩ a2).setCell ⟨g, 3, none⟩ a3).setCell ⟨g, 4, none⟩ a4).heap[g]? = some (.cells #[a0, a1, a2, a3, a4] T (0, 0)) :=
  heap_setCell_same _ g 4 _ _ a4 (heap_setCell_same _ g 3 _ _ a3 (heap_setCell_same _ g 2 _ _ a2 (heap_setCell_same _ g 1 _ _ a1 (heap_setCell_same w g 0 _ _ a0 h))))
theorem Side.row {W wr : World} {v : Value} {nds : List T.Nd} {w5 : World} {g : Nat} {o : Obj} (h : Side W wr v nds w5) (hg : wr.heap[g]? = some o) : w5.heap[g]? = some o := (h.below.block _ (Array.getElem?_eq_some_iff.1 hg).1).trans hg
theorem nd_at {w : World} {g o : Nat} {T : TypeId} {cur : Array Value} {l : List Value} (h : w.heap[g]? = some (.cells cur T (0, 0))) (hc : ∀ (i : Nat) u, l[i]? = some u → cur[o + i]? = some u) : ∀ i u, l[i]? = some u → w.cell? ⟨g, o + i, none⟩ = some u := fun i u hu => by
  rw [cell_of_row _ _ _ _ _ (0, 0) h]; exact hc i u hu
theorem R.fl0 {op fl : Int} (h : R.flOk op fl = true) (ho : op = 34 ∨ op = 35) : fl = 0 := by
  unfold R.flOk at h
  rw [if_neg (by omega), if_neg (by omega)] at h
  simpa using h
theorem R.pnode_const {p : List T.Nd} {right : Bool} {k : Nat} {x : T.Nd} (h : R.pnode p right k x = true) (ho : x.op = 0) (hw : x.w ≠ 0) : B.isW x.w x.imm = true := by
  unfold R.pnode at h
  simp only [Bool.and_eq_true, decide_eq_true_eq] at h
  obtain ⟨_, h⟩ := h
  unfold R.pimmOk at h
  rw [if_pos ho] at h
  simp only [Bool.or_eq_true, decide_eq_true_eq] at h
  rcases h with h | h
  · exact absurd h hw
  · exact h

set_option maxRecDepth 100000 in
set_option maxHeartbeats 8000000 in
theorem rat_any {p : List T.Nd} {right : Bool} {w : Int} {hs : List Int} {n cp ch : Nat} {Ap Ah : Option Addr} {W : World} (hP : StAt 5 NdR W Ap n p) (hH : SlAt (IntR .u32) W Ah 2 hs) (hw : B.isWd w = true) (hh : R.HsOk w hs) (hp : ∀ k x, p[k]? = some x → R.pnode p right k x = true) (hn : n ≤ 1000) :
    Calls Tryd.prog 45 #[.slice Ap n cp, .int .i64 w, .slice Ah 2 ch] W fun e W' => ∃ v, e = .returned v ∧ OwnR (NdF W.heap.size) W.heap.size W' v (R.inst p w hs) ∧ Below W.heap.size W W' := by
  have hl := hP.len
  have hwd := B.isWd_iff.1 hw
  have Hcp := Lib.hid (CopyNodes_any (ct := cp) hP (by omega) (fun x hx => by
    obtain ⟨k, hk⟩ := List.mem_iff_getElem?.1 hx
    have := R.pnode_small (hp k x hk); omega))
  have HP := Lib.hid hP
  have HH := Lib.hid hH
  have Hp := Lib.hid hp
  have Hw := Lib.hid hw
  have Hh := Lib.hid hh
  have Hl := Lib.hid hl
  clear hP hH hp hw hh hl
  go_enter Tryd.func45, Tryd.ntmps45
  go_wp2_with fail
  (with_reducible refine Hcp.out.mono ?_)
  rintro e w0 ⟨v, rfl, hown, hb0⟩
  obtain ⟨Av, cv, rfl⟩ := hown.form
  rw [Hl.out] at hown ⊢
  have Hown := Lib.hid hown
  have Hb0 := Lib.hid hb0
  clear hown hb0 Hcp
  go_wp2
  go_loopg [8] (n + 1) (fun gg i wr => ∃ (j : Nat), j ≤ n ∧ i = .int .i64 (j : Int) ∧ gg + j = n + 1 ∧ Hid (Below W.heap.size W wr) ∧ Hid (OwnR (NdF W.heap.size) W.heap.size wr (.slice Av n cv) ((R.inst p w hs).take j ++ p.drop j)))
  case atStart => exact ⟨0, Nat.zero_le _, rfl, rfl, Hb0, Lib.hid Hown.out⟩
  case round =>
    obtain ⟨j, hj, rfl, hgk, Hbw, Hown⟩ := hrel
    have Hgk := Lib.hid hgk; clear hgk
    by_cases hjn : j < n
    · have hlj : ((R.inst p w hs).take j ++ p.drop j).length = n := by rw [List.length_append, List.length_take, R.inst_len, List.length_drop, Hl.out]; omega
      obtain ⟨x, g, off, cur, A, c, hx, hA, hB, hg, hc, hf⟩ := Hown.out.cells_ hlj hjn
      subst hA
      have hxt : p[j]? = some x := by
        rw [List.getElem?_append_right (by rw [List.length_take, R.inst_len]; omega), List.length_take, R.inst_len, Hl.out, Nat.min_eq_left (by omega), List.getElem?_drop, Nat.sub_self, Nat.add_zero] at hx
        exact hx
      have Hin := Lib.hid (show (R.inst p w hs)[j]? = some (R.inst1 p w hs x) from by unfold R.inst; rw [List.getElem?_map, hxt]; rfl)
      have Hel := Lib.hid (show ((R.inst p w hs).take j ++ p.drop j).set j (R.inst1 p w hs x) = (R.inst p w hs).take (j + 1) ++ p.drop (j + 1) from by
        rw [List.set_append_right _ _ (by rw [List.length_take, R.inst_len]; omega), List.length_take, R.inst_len, Hl.out, Nat.min_eq_left (by omega), Nat.sub_self, List.drop_eq_getElem_cons (by rw [Hl.out]; exact hjn), List.set_cons_zero, take_next Hin.out, List.append_assoc]
        rfl)
      have hpn := Hp.out j x hxt
      have hwx := R.pnode_w hpn
      have hfl := R.pnode_flags hpn
      have hsm := R.pnode_small hpn
      have hhole := R.pnode_hole hpn
      have hcst := R.pnode_const hpn
      have hleaf := R.pnode_leaf hpn
      have htrail := R.pnode_trail hpn
      have hcell := nd_at hg hc
      have k0 := hcell 0 _ rfl
      have k1 := hcell 1 _ rfl
      have k2 := hcell 2 _ rfl
      have k3 := hcell 3 _ rfl
      have k4 := hcell 4 _ rfl
      rw [Nat.add_zero] at k0
      have hcs : off + j * 5 + 4 < cur.size := (Array.getElem?_eq_some_iff.1 (hc 4 _ rfl)).1
      obtain ⟨op, wd, fl, args, imm⟩ := x
      dsimp only at *
      have i01 : 0 ≤ imm ∧ imm < 4294967296 := by
        obtain ⟨_, _, _, _, h1, h2, _⟩ := hf
        exact ⟨h1, h2⟩
      obtain ⟨w1, hw1⟩ : ∃ w1, w1 = wr.alloc (.cells #[.int .i64 op, .int .i64 wd, .int .i64 fl, .slice A args.length c, .int .u32 imm] 41) := ⟨_, rfl⟩
      have hb1 : Below wr.heap.size wr w1 := by rw [hw1]; exact (Below.refl _ _).alloc (Nat.le_refl _) _
      have hr1 : w1.heap[wr.heap.size]? = some (.cells #[.int .i64 op, .int .i64 wd, .int .i64 fl, .slice A args.length c, .int .u32 imm] 41 (0, 0)) := by rw [hw1]; exact heap_alloc_new wr _
      have Hside1 := Lib.hid (show Side W wr (.slice (some ⟨g, off, none⟩) n cv) ((R.inst p w hs).take j ++ p.drop j) w1 from ⟨hb1, Hbw.out, Hown.out⟩)
      have Harg1 := Lib.hid (show ArgF W.heap.size wr.heap.size w1 A c args from by
        obtain ⟨A3, c3, e1, e2, _, _, e3⟩ := hf
        simp only [ndC, List.cons.injEq, Value.slice.injEq] at e1
        obtain ⟨_, _, _, ⟨e4, _, e5⟩, _⟩ := e1
        subst e4 e5
        exact ⟨e2.below hb1 e2.lt, fun q hq => ⟨e3 q hq, by have := e2.lt q hq; omega⟩⟩)
      have Hrow1 := Lib.hid hr1
      have Hg := Lib.hid hg
      have Hc := Lib.hid hcs
      have Hx := Lib.hid hxt
      have Hi := Lib.hid i01
      have Hlj := Lib.hid hlj
      have Hhole := Lib.hid hhole
      have Htrail := Lib.hid htrail
      have Hcst := Lib.hid hcst
      have Hleaf := Lib.hid hleaf
      have Hfl := Lib.hid hfl
      have HB := Lib.hid hB
      have hi64 : wrap64 imm = imm := by unfold wrap64; omega
      obtain ⟨x0, x1, x2, x3, x4, f0, f1, f2, f3, f4⟩ := nd5_all hr1
      have X0 := Lib.hid (nd5_all hr1)
      rw [hw1] at x0 x1
      clear hx hg hc hf hxt hpn hsm hhole hcst hleaf htrail hcell hb1 hr1 hlj hfl hB hcs f0 f1 f2 f3 f4 x2 x3 x4
      go_upto_if 28 with (fail)
      rw [← hw1]
      clear hw1 x0 x1 k0 k1 k2 k3 k4
      obtain ⟨x0, x1, x2, x3, x4, f0, f1, f2, f3, f4⟩ := X0.out
      by_cases hop : op = 0
      · by_cases hwd0 : wd = 0
        · subst hop
          subst hwd0
          have He := Lib.hid (show R.inst1 p w hs ⟨0, 0, fl, args, imm⟩ = ⟨0, w, fl, args, imm % B.pw w⟩ from by unfold R.inst1; simp)
          have hr2 := heap_setCell_same w1 wr.heap.size 1 _ _ (.int .i64 w) Hrow1.out
          have Hrow2 := Lib.hid (show (w1.setCell ⟨wr.heap.size, 1, none⟩ (.int .i64 w)).heap[wr.heap.size]? = some (.cells #[.int .i64 0, .int .i64 w, .int .i64 fl, .slice A args.length c, .int .u32 imm] 41 (0, 0)) from hr2)
          have Hside2 := Lib.hid (Hside1.out.set0 1 (.int .i64 w))
          have Harg2 := Lib.hid (Harg1.out.set 1 (.int .i64 w))
          clear hr2
          obtain ⟨y0, y1, y2, y3, y4, g0, g1, g2, g3, g4⟩ := nd5_all Hrow2.out
          have HOf := Lib.hid (rOf_any w imm (w1.setCell ⟨wr.heap.size, 1, none⟩ (.int .i64 w)) Hw.out (by omega) (by omega))
          have hr9 := heap_setCell_same (w1.setCell ⟨wr.heap.size, 1, none⟩ (.int .i64 w)) wr.heap.size 4 _ _ (.int .u32 (imm % B.pw w)) Hrow2.out
          have Hrow9 := Lib.hid (show ((w1.setCell ⟨wr.heap.size, 1, none⟩ (.int .i64 w)).setCell ⟨wr.heap.size, 4, none⟩ (.int .u32 (imm % B.pw w))).heap[wr.heap.size]? = some (.cells #[.int .i64 0, .int .i64 w, .int .i64 fl, .slice A args.length c, .int .u32 (imm % B.pw w)] 41 (0, 0)) from hr9)
          have Hside9 := Lib.hid (Hside2.out.set0 4 (.int .u32 (imm % B.pw w)))
          have Harg9 := Lib.hid (Harg2.out.set 4 (.int .u32 (imm % B.pw w)))
          clear hr9
          have Hm := Lib.hid (mod_u32 imm hwd.2)
          obtain ⟨m0, m1, m2, m3, m4, _⟩ := nd5_all Hrow9.out
          have hgE := Hside9.out.row Hg.out
          have HgE := Lib.hid hgE
          obtain ⟨u0, u1, u2, u3, u4, hu0, hu1, hu2, hu3, hu4⟩ : ∃ u0 u1 u2 u3 u4, ((w1.setCell ⟨wr.heap.size, 1, none⟩ (.int .i64 w)).setCell ⟨wr.heap.size, 4, none⟩ (.int .u32 (imm % B.pw w))).cell? ⟨g, off + j * 5, none⟩ = some u0 ∧ ((w1.setCell ⟨wr.heap.size, 1, none⟩ (.int .i64 w)).setCell ⟨wr.heap.size, 4, none⟩ (.int .u32 (imm % B.pw w))).cell? ⟨g, off + j * 5 + 1, none⟩ = some u1 ∧ ((w1.setCell ⟨wr.heap.size, 1, none⟩ (.int .i64 w)).setCell ⟨wr.heap.size, 4, none⟩ (.int .u32 (imm % B.pw w))).cell? ⟨g, off + j * 5 + 2, none⟩ = some u2 ∧ ((w1.setCell ⟨wr.heap.size, 1, none⟩ (.int .i64 w)).setCell ⟨wr.heap.size, 4, none⟩ (.int .u32 (imm % B.pw w))).cell? ⟨g, off + j * 5 + 3, none⟩ = some u3 ∧ ((w1.setCell ⟨wr.heap.size, 1, none⟩ (.int .i64 w)).setCell ⟨wr.heap.size, 4, none⟩ (.int .u32 (imm % B.pw w))).cell? ⟨g, off + j * 5 + 4, none⟩ = some u4 := by
            have hcs := Hc.out
            refine ⟨cur[off + j * 5], cur[off + j * 5 + 1], cur[off + j * 5 + 2], cur[off + j * 5 + 3], cur[off + j * 5 + 4], ?_, ?_, ?_, ?_, ?_⟩ <;> (rw [cell_of_row _ _ _ _ _ (0, 0) hgE]; exact Array.getElem?_eq_getElem _)
          have v0 := frozen_row hgE (off + j * 5)
          have v1 := frozen_row hgE (off + j * 5 + 1)
          have v2 := frozen_row hgE (off + j * 5 + 2)
          have v3 := frozen_row hgE (off + j * 5 + 3)
          have v4 := frozen_row hgE (off + j * 5 + 4)
          have HX := Lib.hid (show OwnR (NdF W.heap.size) W.heap.size (st5 ((w1.setCell ⟨wr.heap.size, 1, none⟩ (.int .i64 w)).setCell ⟨wr.heap.size, 4, none⟩ (.int .u32 (imm % B.pw w))) g (off + j * 5) (.int .i64 0) (.int .i64 (w)) (.int .i64 (fl)) (.slice A args.length c) (.int .u32 (imm % B.pw w))) (.slice (some ⟨g, off, none⟩) n cv) (((R.inst p w hs).take j ++ p.drop j).set j ⟨0, w, fl, args, imm % B.pw w⟩) from OwnR.put5 (y := ⟨0, w, fl, args, imm % B.pw w⟩) (A2 := A) (c2 := c) Hside9.out.own5 Hlj.out hjn HgE.out Hc.out (ArgF.nd (x := ⟨0, w, fl, args, imm % B.pw w⟩) Harg9.out Hm.out.1 Hm.out.2))
          rw [← He.out, Hel.out] at HX
          have HbX := Lib.hid (st5_below (off + j * 5) (.int .i64 0) (.int .i64 (w)) (.int .i64 (fl)) (.slice A args.length c) (.int .u32 (imm % B.pw w)) Hside9.out.b5 HB.out)
          clear hgE
          go_wp2_with fail
          (with_reducible refine HOf.out.mono ?_)
          rintro e w6 ⟨rfl, rfl⟩
          go_wp2
          go_roundg (gk - 1)
          case measure => have := Hgk.out; omega
          case rel =>
            have := Hgk.out
            exact ⟨j + 1, by omega, by go_num, by omega, HbX, HX⟩
        · subst hop
          have qw : (wd == 0) = false := by simpa using hwd0
          have He := Lib.hid (show R.inst1 p w hs ⟨0, wd, fl, args, imm⟩ = ⟨0, wd, fl, args, imm⟩ from by unfold R.inst1; simp [hwd0])
          have HOf := Lib.hid (rOf_any wd imm w1 (B.isWd_iff.2 ⟨by omega, by omega⟩) (by omega) (by omega))
          have hmod : imm % B.pw wd = imm := by
            have h := B.isW_iff.1 (Hcst.out rfl hwd0)
            exact Int.emod_eq_of_lt (by omega) (by omega)
          rw [hmod] at HOf
          clear hmod
          have hr9 := heap_setCell_same w1 wr.heap.size 4 _ _ (.int .u32 (imm)) Hrow1.out
          have Hrow9 := Lib.hid (show (w1.setCell ⟨wr.heap.size, 4, none⟩ (.int .u32 (imm))).heap[wr.heap.size]? = some (.cells #[.int .i64 0, .int .i64 wd, .int .i64 fl, .slice A args.length c, .int .u32 (imm)] 41 (0, 0)) from hr9)
          have Hside9 := Lib.hid (Hside1.out.set0 4 (.int .u32 (imm)))
          have Harg9 := Lib.hid (Harg1.out.set 4 (.int .u32 (imm)))
          clear hr9
          obtain ⟨m0, m1, m2, m3, m4, _⟩ := nd5_all Hrow9.out
          have hgE := Hside9.out.row Hg.out
          have HgE := Lib.hid hgE
          obtain ⟨u0, u1, u2, u3, u4, hu0, hu1, hu2, hu3, hu4⟩ : ∃ u0 u1 u2 u3 u4, (w1.setCell ⟨wr.heap.size, 4, none⟩ (.int .u32 (imm))).cell? ⟨g, off + j * 5, none⟩ = some u0 ∧ (w1.setCell ⟨wr.heap.size, 4, none⟩ (.int .u32 (imm))).cell? ⟨g, off + j * 5 + 1, none⟩ = some u1 ∧ (w1.setCell ⟨wr.heap.size, 4, none⟩ (.int .u32 (imm))).cell? ⟨g, off + j * 5 + 2, none⟩ = some u2 ∧ (w1.setCell ⟨wr.heap.size, 4, none⟩ (.int .u32 (imm))).cell? ⟨g, off + j * 5 + 3, none⟩ = some u3 ∧ (w1.setCell ⟨wr.heap.size, 4, none⟩ (.int .u32 (imm))).cell? ⟨g, off + j * 5 + 4, none⟩ = some u4 := by
            have hcs := Hc.out
            refine ⟨cur[off + j * 5], cur[off + j * 5 + 1], cur[off + j * 5 + 2], cur[off + j * 5 + 3], cur[off + j * 5 + 4], ?_, ?_, ?_, ?_, ?_⟩ <;> (rw [cell_of_row _ _ _ _ _ (0, 0) hgE]; exact Array.getElem?_eq_getElem _)
          have v0 := frozen_row hgE (off + j * 5)
          have v1 := frozen_row hgE (off + j * 5 + 1)
          have v2 := frozen_row hgE (off + j * 5 + 2)
          have v3 := frozen_row hgE (off + j * 5 + 3)
          have v4 := frozen_row hgE (off + j * 5 + 4)
          have HX := Lib.hid (show OwnR (NdF W.heap.size) W.heap.size (st5 (w1.setCell ⟨wr.heap.size, 4, none⟩ (.int .u32 (imm))) g (off + j * 5) (.int .i64 0) (.int .i64 (wd)) (.int .i64 (fl)) (.slice A args.length c) (.int .u32 (imm))) (.slice (some ⟨g, off, none⟩) n cv) (((R.inst p w hs).take j ++ p.drop j).set j ⟨0, wd, fl, args, imm⟩) from OwnR.put5 (y := ⟨0, wd, fl, args, imm⟩) (A2 := A) (c2 := c) Hside9.out.own5 Hlj.out hjn HgE.out Hc.out (ArgF.nd (x := ⟨0, wd, fl, args, imm⟩) Harg9.out Hi.out.1 Hi.out.2))
          rw [← He.out, Hel.out] at HX
          have HbX := Lib.hid (st5_below (off + j * 5) (.int .i64 0) (.int .i64 (wd)) (.int .i64 (fl)) (.slice A args.length c) (.int .u32 (imm)) Hside9.out.b5 HB.out)
          clear hgE
          go_wp2_with fail
          (with_reducible refine HOf.out.mono ?_)
          rintro e w6 ⟨rfl, rfl⟩
          go_wp2
          go_roundg (gk - 1)
          case measure => have := Hgk.out; omega
          case rel =>
            have := Hgk.out
            exact ⟨j + 1, by omega, by go_num, by omega, HbX, HX⟩
      · have h0 := hop
        clear hop
        by_cases hop : op = 34
        · subst hop
          obtain ⟨hwd0, him⟩ := Hhole.out rfl
          have hfl0 := R.fl0 Hfl.out (.inl rfl)
          have har := Hleaf.out (.inr rfl)
          subst hwd0 hfl0 har
          obtain ⟨h, rfl⟩ : ∃ h : Nat, imm = h := ⟨imm.toNat, by omega⟩
          have hh2 : h < 2 := by omega
          obtain ⟨m, bh, offh, u, hm, rfl, hbh, hc, rfl⟩ := HH.out.at_ hh2
          have hmw := Hh.out.2 m (List.mem_of_getElem? hm)
          have He := Lib.hid (show R.inst1 p w hs ⟨34, 0, 0, [], (h : Int)⟩ = ⟨0, w, 0, [], m⟩ from by
            unfold R.inst1
            have e : hs.getD ((h : Int)).toNat 0 = m := by rw [Int.toNat_natCast, List.getD_eq_getElem?_getD, hm]; rfl
            simp only [if_true, e])
          have hr2 := heap_setCell_same w1 wr.heap.size 1 _ _ (.int .i64 w) Hrow1.out
          have Hrow2 := Lib.hid (show (w1.setCell ⟨wr.heap.size, 1, none⟩ (.int .i64 w)).heap[wr.heap.size]? = some (.cells #[.int .i64 34, .int .i64 w, .int .i64 0, .slice A 0 c, .int .u32 (h : Int)] 41 (0, 0)) from hr2)
          have Hside2 := Lib.hid (Hside1.out.set0 1 (.int .i64 w))
          have Harg2 := Lib.hid (Harg1.out.set 1 (.int .i64 w))
          clear hr2
          obtain ⟨y0, y1, y2, y3, y4, g0, g1, g2, g3, g4⟩ := nd5_all Hrow2.out
          have kh4 : (w1.setCell ⟨wr.heap.size, 1, none⟩ (.int .i64 w)).cell? ⟨bh, offh + h, none⟩ = some (.int .u32 m) := (Hside2.out.b5.cell (p := ⟨bh, offh + h, none⟩) hbh).trans hc
          have Hm := Lib.hid (isW_u32 hmw.2 hmw.1)
          clear hm hbh hc hmw
          go_upto_region 12 with (fail)
          generalize (w1.setCell ⟨wr.heap.size, 1, none⟩ (.int .i64 w)) = w2 at *
          have Hrow9 := Lib.hid (show ((((((w2).setCell ⟨wr.heap.size, 0, none⟩ (.int .i64 0)).setCell ⟨wr.heap.size, 1, none⟩ (.int .i64 w)).setCell ⟨wr.heap.size, 2, none⟩ (.int .i64 0)).setCell ⟨wr.heap.size, 3, none⟩ (.slice none 0 0)).setCell ⟨wr.heap.size, 4, none⟩ (.int .u32 (m))).heap[wr.heap.size]? = some (.cells #[.int .i64 0, .int .i64 w, .int .i64 0, .slice none 0 0, .int .u32 (m)] 41 (0, 0)) from st5_new _ _ _ _ _ Hrow2.out)
          have Hside9 := Lib.hid (show Side W wr (.slice (some ⟨g, off, none⟩) n cv) ((R.inst p w hs).take j ++ p.drop j) ((((((w2).setCell ⟨wr.heap.size, 0, none⟩ (.int .i64 0)).setCell ⟨wr.heap.size, 1, none⟩ (.int .i64 w)).setCell ⟨wr.heap.size, 2, none⟩ (.int .i64 0)).setCell ⟨wr.heap.size, 3, none⟩ (.slice none 0 0)).setCell ⟨wr.heap.size, 4, none⟩ (.int .u32 (m))) from ((((Hside2.out.set0 0 _).set0 1 _).set0 2 _).set0 3 _).set0 4 _)
          have Harg9 := Lib.hid (show ArgF W.heap.size wr.heap.size ((((((w2).setCell ⟨wr.heap.size, 0, none⟩ (.int .i64 0)).setCell ⟨wr.heap.size, 1, none⟩ (.int .i64 w)).setCell ⟨wr.heap.size, 2, none⟩ (.int .i64 0)).setCell ⟨wr.heap.size, 3, none⟩ (.slice none 0 0)).setCell ⟨wr.heap.size, 4, none⟩ (.int .u32 (m))) none 0 [] from ⟨OwnAt.nil_ _ _ _, fun g hg => by simp [Value.ownBlock] at hg⟩)
          go_upto_region 17 with (fail)
          generalize ((((((w2).setCell ⟨wr.heap.size, 0, none⟩ (.int .i64 0)).setCell ⟨wr.heap.size, 1, none⟩ (.int .i64 w)).setCell ⟨wr.heap.size, 2, none⟩ (.int .i64 0)).setCell ⟨wr.heap.size, 3, none⟩ (.slice none 0 0)).setCell ⟨wr.heap.size, 4, none⟩ (.int .u32 (m))) = w9 at *
          clear y0 y1 y2 y3 y4 g0 g1 g2 g3 g4 kh4
          obtain ⟨m0, m1, m2, m3, m4, _⟩ := nd5_all Hrow9.out
          have hgE := Hside9.out.row Hg.out
          have HgE := Lib.hid hgE
          obtain ⟨u0, u1, u2, u3, u4, hu0, hu1, hu2, hu3, hu4⟩ : ∃ u0 u1 u2 u3 u4, w9.cell? ⟨g, off + j * 5, none⟩ = some u0 ∧ w9.cell? ⟨g, off + j * 5 + 1, none⟩ = some u1 ∧ w9.cell? ⟨g, off + j * 5 + 2, none⟩ = some u2 ∧ w9.cell? ⟨g, off + j * 5 + 3, none⟩ = some u3 ∧ w9.cell? ⟨g, off + j * 5 + 4, none⟩ = some u4 := by
            have hcs := Hc.out
            refine ⟨cur[off + j * 5], cur[off + j * 5 + 1], cur[off + j * 5 + 2], cur[off + j * 5 + 3], cur[off + j * 5 + 4], ?_, ?_, ?_, ?_, ?_⟩ <;> (rw [cell_of_row _ _ _ _ _ (0, 0) hgE]; exact Array.getElem?_eq_getElem _)
          have v0 := frozen_row hgE (off + j * 5)
          have v1 := frozen_row hgE (off + j * 5 + 1)
          have v2 := frozen_row hgE (off + j * 5 + 2)
          have v3 := frozen_row hgE (off + j * 5 + 3)
          have v4 := frozen_row hgE (off + j * 5 + 4)
          have HX := Lib.hid (show OwnR (NdF W.heap.size) W.heap.size (st5 w9 g (off + j * 5) (.int .i64 0) (.int .i64 (w)) (.int .i64 (0)) (.slice none 0 0) (.int .u32 (m))) (.slice (some ⟨g, off, none⟩) n cv) (((R.inst p w hs).take j ++ p.drop j).set j ⟨0, w, 0, [], m⟩) from OwnR.put5 (y := ⟨0, w, 0, [], m⟩) (A2 := none) (c2 := 0) Hside9.out.own5 Hlj.out hjn HgE.out Hc.out (ArgF.nd (x := ⟨0, w, 0, [], m⟩) Harg9.out Hm.out.1 Hm.out.2))
          rw [← He.out, Hel.out] at HX
          have HbX := Lib.hid (st5_below (off + j * 5) (.int .i64 0) (.int .i64 (w)) (.int .i64 (0)) (.slice none 0 0) (.int .u32 (m)) Hside9.out.b5 HB.out)
          clear hgE
          go_wp2
          go_roundg (gk - 1)
          case measure => have := Hgk.out; omega
          case rel =>
            have := Hgk.out
            exact ⟨j + 1, by omega, by go_num, by omega, HbX, HX⟩
        · have h34 := hop
          clear hop
          by_cases hop : op = 35
          · subst hop
            obtain ⟨hwd0, a, ha, haj, ho34⟩ := Htrail.out rfl
            have hfl0 := R.fl0 Hfl.out (.inr rfl)
            subst hwd0 hfl0
            have hpos : 0 < args.length := by rw [ha]; simp
            obtain ⟨z, bp, offp, Az, cz, hz, rfl, hbp, _, _, _, hz3, _, hsz, _, _⟩ := nd_cells HP.out hjn
            obtain rfl : z = ⟨35, 0, 0, args, imm⟩ := by rw [Hx.out] at hz; exact (Option.some.inj hz).symm
            dsimp only at hz3 hsz
            obtain ⟨y, b2, off2, A3, c3, hy, hb2, hbl, _, _, _, _, hy4, _, _, _⟩ := nd_cells HP.out (show a < n by omega)
            injection hb2 with hb2
            injection hb2 with hb2 hb3 _
            subst hb2
            subst hb3
            have hyo : y.op = 34 := by rw [List.getD_eq_getElem?_getD, hy] at ho34; exact ho34
            obtain ⟨_, hyi⟩ := R.pnode_hole (Hp.out a y hy) hyo
            have hyi0 := nd_imm HP.out y (List.mem_of_getElem? hy)
            obtain ⟨h, hh⟩ : ∃ h : Nat, y.imm = h := ⟨y.imm.toNat, by omega⟩
            rw [hh] at hy4
            have hh2 : h < 2 := by omega
            obtain ⟨m, bh, offh, u, hm, rfl, hbh, hc, rfl⟩ := HH.out.at_ hh2
            obtain ⟨a', ba, offa, ua, ha', rfl, hba, hca, rfl⟩ := hsz.at_ hpos
            obtain rfl : a' = (a : Int) := by rw [ha] at ha'; simpa using ha'.symm
            have hmw := Hh.out.2 m (List.mem_of_getElem? hm)
            have He := Lib.hid (show R.inst1 p w hs ⟨35, 0, 0, args, imm⟩ = ⟨0, w, 0, [], B.trl w m % B.pw w⟩ from by
              have e0 : (args.getD 0 0).toNat = a := by rw [ha]; simp
              have e1 : (p.getD a default).imm.toNat = h := by rw [List.getD_eq_getElem?_getD, hy]; show y.imm.toNat = h; omega
              have e2 : hs.getD h 0 = m := by rw [List.getD_eq_getElem?_getD, hm]; rfl
              unfold R.inst1
              dsimp only
              rw [e0, e1, e2, if_neg (by decide), if_pos rfl, if_pos rfl])
            obtain ⟨wN, rfl⟩ : ∃ wN : Nat, w = wN := ⟨w.toNat, by omega⟩
            obtain ⟨mN, rfl⟩ : ∃ mN : Nat, m = mN := ⟨m.toNat, by omega⟩
            have hr2 := heap_setCell_same w1 wr.heap.size 1 _ _ (.int .i64 (wN : Int)) Hrow1.out
            have Hrow2 := Lib.hid (show (w1.setCell ⟨wr.heap.size, 1, none⟩ (.int .i64 (wN : Int))).heap[wr.heap.size]? = some (.cells #[.int .i64 35, .int .i64 (wN : Int), .int .i64 0, .slice A args.length c, .int .u32 imm] 41 (0, 0)) from hr2)
            have Hside2 := Lib.hid (Hside1.out.set0 1 (.int .i64 (wN : Int)))
            have Harg2 := Lib.hid (Harg1.out.set 1 (.int .i64 (wN : Int)))
            clear hr2
            obtain ⟨y0, y1, y2, y3, y4, g0, g1, g2, g3, g4⟩ := nd5_all Hrow2.out
            have hbw4 := Hside2.out.b5
            have kh4 : (w1.setCell ⟨wr.heap.size, 1, none⟩ (.int .i64 (wN : Int))).cell? _ = _ := (hbw4.cell (p := ⟨bh, offh + h, none⟩) hbh).trans hc
            have ka4 : (w1.setCell ⟨wr.heap.size, 1, none⟩ (.int .i64 (wN : Int))).cell? _ = _ := (hbw4.cell (p := ⟨ba, offa, none⟩) hba).trans hca
            have kz4 : (w1.setCell ⟨wr.heap.size, 1, none⟩ (.int .i64 (wN : Int))).cell? _ = _ := (hbw4.cell (p := ⟨bp, offp + j * 5 + 3, none⟩) hbp).trans hz3
            have kp4 : (w1.setCell ⟨wr.heap.size, 1, none⟩ (.int .i64 (wN : Int))).cell? _ = _ := (hbw4.cell (p := ⟨bp, offp + a * 5 + 4, none⟩) hbl).trans hy4
            have HTr := Lib.hid (rTrailing_any wN mN (w1.setCell ⟨wr.heap.size, 1, none⟩ (.int .i64 (wN : Int))) hmw.2 (by have := isW_u32 hmw.2 hmw.1; omega))
            have htr := R.trl_lt (wN : Int) (mN : Int) (by omega)
            have HOf := Lib.hid (rOf_any (wN : Int) (B.trl (wN : Int) (mN : Int)) (w1.setCell ⟨wr.heap.size, 1, none⟩ (.int .i64 (wN : Int))) Hw.out (by omega) (by omega))
            have Hm := Lib.hid (mod_u32 (B.trl (wN : Int) (mN : Int)) hwd.2)
            clear hm hbh hc hmw hy hbl hy4 hyo hyi hyi0 hh ha' hba hca ho34 hbw4 ha hz hz3 hsz hbp
            go_wp2_with fail
            generalize (w1.setCell ⟨wr.heap.size, 1, none⟩ (.int .i64 (wN : Int))) = w2 at *
            (with_reducible refine HTr.out.mono ?_)
            rintro e w6 ⟨rfl, rfl⟩
            go_wp2_with fail
            (with_reducible refine HOf.out.mono ?_)
            rintro e w6 ⟨rfl, rfl⟩
            have Hrow9 := Lib.hid (show ((((((w2).setCell ⟨wr.heap.size, 0, none⟩ (.int .i64 0)).setCell ⟨wr.heap.size, 1, none⟩ (.int .i64 (wN : Int))).setCell ⟨wr.heap.size, 2, none⟩ (.int .i64 0)).setCell ⟨wr.heap.size, 3, none⟩ (.slice none 0 0)).setCell ⟨wr.heap.size, 4, none⟩ (.int .u32 (B.trl (wN : Int) (mN : Int) % B.pw (wN : Int)))).heap[wr.heap.size]? = some (.cells #[.int .i64 0, .int .i64 (wN : Int), .int .i64 0, .slice none 0 0, .int .u32 (B.trl (wN : Int) (mN : Int) % B.pw (wN : Int))] 41 (0, 0)) from st5_new _ _ _ _ _ Hrow2.out)
            have Hside9 := Lib.hid (show Side W wr (.slice (some ⟨g, off, none⟩) n cv) ((R.inst p (wN : Int) hs).take j ++ p.drop j) ((((((w2).setCell ⟨wr.heap.size, 0, none⟩ (.int .i64 0)).setCell ⟨wr.heap.size, 1, none⟩ (.int .i64 (wN : Int))).setCell ⟨wr.heap.size, 2, none⟩ (.int .i64 0)).setCell ⟨wr.heap.size, 3, none⟩ (.slice none 0 0)).setCell ⟨wr.heap.size, 4, none⟩ (.int .u32 (B.trl (wN : Int) (mN : Int) % B.pw (wN : Int)))) from ((((Hside2.out.set0 0 _).set0 1 _).set0 2 _).set0 3 _).set0 4 _)
            have Harg9 := Lib.hid (show ArgF W.heap.size wr.heap.size ((((((w2).setCell ⟨wr.heap.size, 0, none⟩ (.int .i64 0)).setCell ⟨wr.heap.size, 1, none⟩ (.int .i64 (wN : Int))).setCell ⟨wr.heap.size, 2, none⟩ (.int .i64 0)).setCell ⟨wr.heap.size, 3, none⟩ (.slice none 0 0)).setCell ⟨wr.heap.size, 4, none⟩ (.int .u32 (B.trl (wN : Int) (mN : Int) % B.pw (wN : Int)))) none 0 [] from ⟨OwnAt.nil_ _ _ _, fun g hg => by simp [Value.ownBlock] at hg⟩)
            go_upto_region 17 with (fail)
            generalize ((((((w2).setCell ⟨wr.heap.size, 0, none⟩ (.int .i64 0)).setCell ⟨wr.heap.size, 1, none⟩ (.int .i64 (wN : Int))).setCell ⟨wr.heap.size, 2, none⟩ (.int .i64 0)).setCell ⟨wr.heap.size, 3, none⟩ (.slice none 0 0)).setCell ⟨wr.heap.size, 4, none⟩ (.int .u32 (B.trl (wN : Int) (mN : Int) % B.pw (wN : Int)))) = w9 at *
            clear y0 y1 y2 y3 y4 g0 g1 g2 g3 g4 kh4 ka4 kz4 kp4
            obtain ⟨m0, m1, m2, m3, m4, _⟩ := nd5_all Hrow9.out
            have hgE := Hside9.out.row Hg.out
            have HgE := Lib.hid hgE
            obtain ⟨u0, u1, u2, u3, u4, hu0, hu1, hu2, hu3, hu4⟩ : ∃ u0 u1 u2 u3 u4, w9.cell? ⟨g, off + j * 5, none⟩ = some u0 ∧ w9.cell? ⟨g, off + j * 5 + 1, none⟩ = some u1 ∧ w9.cell? ⟨g, off + j * 5 + 2, none⟩ = some u2 ∧ w9.cell? ⟨g, off + j * 5 + 3, none⟩ = some u3 ∧ w9.cell? ⟨g, off + j * 5 + 4, none⟩ = some u4 := by
              have hcs := Hc.out
              refine ⟨cur[off + j * 5], cur[off + j * 5 + 1], cur[off + j * 5 + 2], cur[off + j * 5 + 3], cur[off + j * 5 + 4], ?_, ?_, ?_, ?_, ?_⟩ <;> (rw [cell_of_row _ _ _ _ _ (0, 0) hgE]; exact Array.getElem?_eq_getElem _)
            have v0 := frozen_row hgE (off + j * 5)
            have v1 := frozen_row hgE (off + j * 5 + 1)
            have v2 := frozen_row hgE (off + j * 5 + 2)
            have v3 := frozen_row hgE (off + j * 5 + 3)
            have v4 := frozen_row hgE (off + j * 5 + 4)
            have HX := Lib.hid (show OwnR (NdF W.heap.size) W.heap.size (st5 w9 g (off + j * 5) (.int .i64 0) (.int .i64 (wN : Int)) (.int .i64 (0)) (.slice none 0 0) (.int .u32 (B.trl (wN : Int) (mN : Int) % B.pw (wN : Int)))) (.slice (some ⟨g, off, none⟩) n cv) (((R.inst p (wN : Int) hs).take j ++ p.drop j).set j ⟨0, (wN : Int), 0, [], B.trl (wN : Int) (mN : Int) % B.pw (wN : Int)⟩) from OwnR.put5 (y := ⟨0, (wN : Int), 0, [], B.trl (wN : Int) (mN : Int) % B.pw (wN : Int)⟩) (A2 := none) (c2 := 0) Hside9.out.own5 Hlj.out hjn HgE.out Hc.out (ArgF.nd (x := ⟨0, (wN : Int), 0, [], B.trl (wN : Int) (mN : Int) % B.pw (wN : Int)⟩) Harg9.out Hm.out.1 Hm.out.2))
            rw [← He.out, Hel.out] at HX
            have HbX := Lib.hid (st5_below (off + j * 5) (.int .i64 0) (.int .i64 (wN : Int)) (.int .i64 (0)) (.slice none 0 0) (.int .u32 (B.trl (wN : Int) (mN : Int) % B.pw (wN : Int))) Hside9.out.b5 HB.out)
            clear hgE
            go_wp2
            go_roundg (gk - 1)
            case measure => have := Hgk.out; omega
            case rel =>
              have := Hgk.out
              exact ⟨j + 1, by omega, by go_num, by omega, HbX, HX⟩
          · have h35 := hop
            clear hop
            by_cases hwd0 : wd = 0
            · subst hwd0
              have q0 : (op == 0) = false := by simpa using h0
              have q34 : (op == 34) = false := by simpa using h34
              have q35 : (op == 35) = false := by simpa using h35
              have He := Lib.hid (show R.inst1 p w hs ⟨op, 0, fl, args, imm⟩ = ⟨op, w, fl, args, imm⟩ from by unfold R.inst1; simp [h0, h34, h35])
              have hr2 := heap_setCell_same w1 wr.heap.size 1 _ _ (.int .i64 w) Hrow1.out
              have Hrow2 := Lib.hid (show (w1.setCell ⟨wr.heap.size, 1, none⟩ (.int .i64 w)).heap[wr.heap.size]? = some (.cells #[.int .i64 op, .int .i64 w, .int .i64 fl, .slice A args.length c, .int .u32 imm] 41 (0, 0)) from hr2)
              have Hside2 := Lib.hid (Hside1.out.set0 1 (.int .i64 w))
              have Harg2 := Lib.hid (Harg1.out.set 1 (.int .i64 w))
              clear hr2
              obtain ⟨y0, y1, y2, y3, y4, g0, g1, g2, g3, g4⟩ := nd5_all Hrow2.out
              obtain ⟨m0, m1, m2, m3, m4, _⟩ := nd5_all Hrow2.out
              have hgE := Hside2.out.row Hg.out
              have HgE := Lib.hid hgE
              obtain ⟨u0, u1, u2, u3, u4, hu0, hu1, hu2, hu3, hu4⟩ : ∃ u0 u1 u2 u3 u4, (w1.setCell ⟨wr.heap.size, 1, none⟩ (.int .i64 w)).cell? ⟨g, off + j * 5, none⟩ = some u0 ∧ (w1.setCell ⟨wr.heap.size, 1, none⟩ (.int .i64 w)).cell? ⟨g, off + j * 5 + 1, none⟩ = some u1 ∧ (w1.setCell ⟨wr.heap.size, 1, none⟩ (.int .i64 w)).cell? ⟨g, off + j * 5 + 2, none⟩ = some u2 ∧ (w1.setCell ⟨wr.heap.size, 1, none⟩ (.int .i64 w)).cell? ⟨g, off + j * 5 + 3, none⟩ = some u3 ∧ (w1.setCell ⟨wr.heap.size, 1, none⟩ (.int .i64 w)).cell? ⟨g, off + j * 5 + 4, none⟩ = some u4 := by
                have hcs := Hc.out
                refine ⟨cur[off + j * 5], cur[off + j * 5 + 1], cur[off + j * 5 + 2], cur[off + j * 5 + 3], cur[off + j * 5 + 4], ?_, ?_, ?_, ?_, ?_⟩ <;> (rw [cell_of_row _ _ _ _ _ (0, 0) hgE]; exact Array.getElem?_eq_getElem _)
              have v0 := frozen_row hgE (off + j * 5)
              have v1 := frozen_row hgE (off + j * 5 + 1)
              have v2 := frozen_row hgE (off + j * 5 + 2)
              have v3 := frozen_row hgE (off + j * 5 + 3)
              have v4 := frozen_row hgE (off + j * 5 + 4)
              have HX := Lib.hid (show OwnR (NdF W.heap.size) W.heap.size (st5 (w1.setCell ⟨wr.heap.size, 1, none⟩ (.int .i64 w)) g (off + j * 5) (.int .i64 op) (.int .i64 (w)) (.int .i64 (fl)) (.slice A args.length c) (.int .u32 (imm))) (.slice (some ⟨g, off, none⟩) n cv) (((R.inst p w hs).take j ++ p.drop j).set j ⟨op, w, fl, args, imm⟩) from OwnR.put5 (y := ⟨op, w, fl, args, imm⟩) (A2 := A) (c2 := c) Hside2.out.own5 Hlj.out hjn HgE.out Hc.out (ArgF.nd (x := ⟨op, w, fl, args, imm⟩) Harg2.out Hi.out.1 Hi.out.2))
              rw [← He.out, Hel.out] at HX
              have HbX := Lib.hid (st5_below (off + j * 5) (.int .i64 op) (.int .i64 (w)) (.int .i64 (fl)) (.slice A args.length c) (.int .u32 (imm)) Hside2.out.b5 HB.out)
              clear hgE
              go_wp2
              go_roundg (gk - 1)
              case measure => have := Hgk.out; omega
              case rel =>
                have := Hgk.out
                exact ⟨j + 1, by omega, by go_num, by omega, HbX, HX⟩
            · have qw : (wd == 0) = false := by simpa using hwd0
              have q0 : (op == 0) = false := by simpa using h0
              have q34 : (op == 34) = false := by simpa using h34
              have q35 : (op == 35) = false := by simpa using h35
              have He := Lib.hid (show R.inst1 p w hs ⟨op, wd, fl, args, imm⟩ = ⟨op, wd, fl, args, imm⟩ from by unfold R.inst1; simp [hwd0, h0, h34, h35])
              obtain ⟨m0, m1, m2, m3, m4, _⟩ := nd5_all Hrow1.out
              have hgE := Hside1.out.row Hg.out
              have HgE := Lib.hid hgE
              obtain ⟨u0, u1, u2, u3, u4, hu0, hu1, hu2, hu3, hu4⟩ : ∃ u0 u1 u2 u3 u4, w1.cell? ⟨g, off + j * 5, none⟩ = some u0 ∧ w1.cell? ⟨g, off + j * 5 + 1, none⟩ = some u1 ∧ w1.cell? ⟨g, off + j * 5 + 2, none⟩ = some u2 ∧ w1.cell? ⟨g, off + j * 5 + 3, none⟩ = some u3 ∧ w1.cell? ⟨g, off + j * 5 + 4, none⟩ = some u4 := by
                have hcs := Hc.out
                refine ⟨cur[off + j * 5], cur[off + j * 5 + 1], cur[off + j * 5 + 2], cur[off + j * 5 + 3], cur[off + j * 5 + 4], ?_, ?_, ?_, ?_, ?_⟩ <;> (rw [cell_of_row _ _ _ _ _ (0, 0) hgE]; exact Array.getElem?_eq_getElem _)
              have v0 := frozen_row hgE (off + j * 5)
              have v1 := frozen_row hgE (off + j * 5 + 1)
              have v2 := frozen_row hgE (off + j * 5 + 2)
              have v3 := frozen_row hgE (off + j * 5 + 3)
              have v4 := frozen_row hgE (off + j * 5 + 4)
              have HX := Lib.hid (show OwnR (NdF W.heap.size) W.heap.size (st5 w1 g (off + j * 5) (.int .i64 op) (.int .i64 (wd)) (.int .i64 (fl)) (.slice A args.length c) (.int .u32 (imm))) (.slice (some ⟨g, off, none⟩) n cv) (((R.inst p w hs).take j ++ p.drop j).set j ⟨op, wd, fl, args, imm⟩) from OwnR.put5 (y := ⟨op, wd, fl, args, imm⟩) (A2 := A) (c2 := c) Hside1.out.own5 Hlj.out hjn HgE.out Hc.out (ArgF.nd (x := ⟨op, wd, fl, args, imm⟩) Harg1.out Hi.out.1 Hi.out.2))
              rw [← He.out, Hel.out] at HX
              have HbX := Lib.hid (st5_below (off + j * 5) (.int .i64 op) (.int .i64 (wd)) (.int .i64 (fl)) (.slice A args.length c) (.int .u32 (imm)) Hside1.out.b5 HB.out)
              clear hgE
              go_wp2
              go_roundg (gk - 1)
              case measure => have := Hgk.out; omega
              case rel =>
                have := Hgk.out
                exact ⟨j + 1, by omega, by go_num, by omega, HbX, HX⟩
    · obtain rfl : j = n := by omega
      have e : (R.inst p w hs).take j = R.inst p w hs := List.take_of_length_le (by rw [R.inst_len, Hl.out]; exact Nat.le_refl _)
      have e2 : p.drop j = [] := List.drop_eq_nil_iff.2 (by rw [Hl.out]; exact Nat.le_refl _)
      rw [e, e2, List.append_nil] at Hown
      go_wp2
      go_ret
      exact ⟨_, rfl, Hown.out, Hbw.out⟩
end Go.Proofs.YtmebpgggfppmhaaDoor
end
section
namespace Go.Proofs.YtmebpgggfppmhaaDoor
open Go.RowKit
set_option linter.unusedVariables false
set_option linter.unusedSimpArgs false

set_option maxRecDepth 100000 in
set_option maxHeartbeats 1000000 in
theorem rSides_any {r : R.Rl} {w : Int} {hs : List Int} {nl cl nr cr np cp nh ch : Nat} {AL AR AP Ah : Option Addr} {W : World} (hR : RlAt W r nl nr np AL AR AP) (hH : SlAt (IntR .u32) W Ah nh hs) (h0 : ∀ x ∈ hs, 0 ≤ x ∧ x < 4294967296) :
    Calls Tryd.prog 32 #[.agg #[.slice AL nl cl, .slice AR nr cr, .slice AP np cp], .int .i64 w, .slice Ah nh ch] W (SidesPost W r w hs) := by
  obtain ⟨W1, hW1⟩ : ∃ W1, W1 = W.alloc (.cells #[.slice AL nl cl, .slice AR nr cr, .slice AP np cp] 25) := ⟨_, rfl⟩
  have hb1 : Below W.heap.size W W1 := by rw [hW1]; exact (Below.refl _ _).alloc (Nat.le_refl _) _
  have hrow : W1.heap[W.heap.size]? = some (.cells #[.slice AL nl cl, .slice AR nr cr, .slice AP np cp] 25 (0, 0)) := by rw [hW1]; exact heap_alloc_new W _
  have Hrow := Lib.hid hrow
  have Hb1 := Lib.hid hb1
  have HR1 := Lib.hid (hR.below hb1)
  have HH := Lib.hid (hH.below (monoInt _) hb1)
  have Hval := Lib.hid (rValidate_rule (cl := cl) (cr := cr) (cp := cp) HR1.out)
  have Hlh := Lib.hid hH.len
  have H0 := Lib.hid h0
  have HW1 := Lib.hid hW1
  obtain ⟨e, he⟩ : ∃ e, R.rvalid r = e := ⟨_, rfl⟩
  rw [he] at Hval
  have He := Lib.hid he
  obtain ⟨r0, r1, r2, _⟩ := rl_cells hrow
  rw [hW1] at r0 r1 r2
  clear hR hH h0 hb1 hW1 he hrow
  by_cases h0 : e = 0
  rotate_left
  · have q : (e != 0) = true := by simpa using h0
    have Hs := Lib.hid (show R.serr r w hs = e from by unfold R.serr; rw [He.out, if_pos h0])
    have Hm := Lib.hid (show R.sds r w hs = ([], []) from by unfold R.sds; rw [Hs.out, if_neg h0])
    clear h0
    go_enter Tryd.func32, Tryd.ntmps32
    go_wp2_with fail
    rw [← HW1.out]
    (with_reducible refine Hval.out.mono ?_)
    rintro e w2 ⟨rfl, hb2⟩
    have Hb2 := Lib.hid (Hb1.out.trans (hb2.mono Hb1.out.size))
    clear hb2 r0 r1 r2
    go_wp2
    go_ret3
    unfold SidesPost
    rw [Hm.out, Hs.out]
    exact ⟨_, _, rfl, OwnR.nil_ _ _ _, OwnR.nil_ _ _ _, Hb2.out⟩
  subst h0
  have q : ((0 : Int) != 0) = false := rfl
  have Hs := Lib.hid (show R.serr r w hs = if R.hsOk w hs = true then 0 else 1 from by unfold R.serr; rw [He.out]; rfl)
  have hrok := R.rok_of He.out
  have Hca := Lib.hid (fun X (h : Below W1.heap.size W1 X) => rareHoles_any (w := w) (ch := ch) (HH.out.below (monoInt _) h) H0.out)
  obtain ⟨b, hb⟩ : ∃ b, R.hsOk w hs = b := ⟨_, rfl⟩
  rw [hb] at Hca Hs
  cases b with
  | false =>
    have Hs1 := Lib.hid (show R.serr r w hs = 1 from by rw [Hs.out]; rfl)
    have Hm := Lib.hid (show R.sds r w hs = ([], []) from by unfold R.sds; rw [Hs1.out]; rfl)
    clear hrok hb
    go_enter Tryd.func32, Tryd.ntmps32
    go_wp2_with fail
    rw [← HW1.out]
    (with_reducible refine Hval.out.mono ?_)
    rintro e w2 ⟨rfl, hb2⟩
    have Hb2 := Lib.hid hb2
    clear hb2 r0 r1 r2
    go_wp2_with fail
    (with_reducible refine (Hca.out _ Hb2.out).mono ?_)
    rintro e w3 ⟨rfl, rfl⟩
    have Hb3 := Lib.hid (Hb1.out.trans (Hb2.out.mono Hb1.out.size))
    go_wp2
    go_ret3
    unfold SidesPost
    rw [Hm.out, Hs1.out]
    exact ⟨_, _, rfl, OwnR.nil_ _ _ _, OwnR.nil_ _ _ _, Hb3.out⟩
  | true =>
  have Hs1 := Lib.hid (show R.serr r w hs = 0 from by rw [Hs.out]; rfl)
  have hho := R.hsOk_iff hb (fun x hx => (H0.out x hx).1)
  have hn2 : nh = 2 := by rw [← Hlh.out]; exact hho.2.1
  subst hn2
  have hll := HR1.out.sl.len
  have hlr := HR1.out.sr.len
  have HL := Lib.hid (fun X (h : Below W1.heap.size W1 X) => rat_any (cp := cl) (ch := ch) (HR1.out.sl.below monoNd h) (HH.out.below (monoInt _) h) hho.1 hho.2 hrok.lp (by have := hrok.llen; omega))
  have HR := Lib.hid (fun X (h : Below W1.heap.size W1 X) => rat_any (cp := cr) (ch := ch) (HR1.out.sr.below monoNd h) (HH.out.below (monoInt _) h) hho.1 hho.2 hrok.rp (by have := hrok.rlen; omega))
  have HS := Lib.hid (show ∀ Y, Below W1.heap.size W1 Y → Y.cell? ⟨W.heap.size, 0, none⟩ = some (.slice AL nl cl) ∧ Y.cell? ⟨W.heap.size, 1, none⟩ = some (.slice AR nr cr) from fun Y hY => by
    have hrow := (hY.block _ (Array.getElem?_eq_some_iff.1 Hrow.out).1).trans Hrow.out
    refine ⟨?_, ?_⟩ <;> (rw [cell_of_row _ _ _ _ _ (0, 0) hrow]; rfl))
  have Hm := Lib.hid (show R.sds r w hs = (R.inst r.left w hs, R.inst r.right w hs) from by unfold R.sds; rw [Hs1.out, if_pos rfl])
  clear hrok hho hll hlr hb
  go_enter Tryd.func32, Tryd.ntmps32
  go_wp2_with fail
  rw [← HW1.out]
  (with_reducible refine Hval.out.mono ?_)
  rintro e w2 ⟨rfl, hb2⟩
  have Hb2 := Lib.hid hb2
  clear hb2 r0 r1 r2
  go_wp2_with fail
  (with_reducible refine (Hca.out _ Hb2.out).mono ?_)
  rintro e w3 ⟨rfl, rfl⟩
  go_wp2
  refine wp_region_held_drew (S := fun Y => Y.cell? ⟨W.heap.size, 0, none⟩ = some (.slice AL nl cl) ∧ Y.cell? ⟨W.heap.size, 1, none⟩ = some (.slice AR nr cr)) (by kernel_rfl) (HS.out w2.drew Hb2.out.drew) (fun hHeld => ?_)
  refine wpAnyH_take (i := 0) (oi := _) (v := ?_) rfl (by kernel_rfl) (by kernel_rfl) (by kernel_rfl) (fun _ _ _ h => h) (Or.inl ⟨by rfl, fun Y hY => ?_⟩) hHeld ?_
  rotate_left
  · (go_simp) <;> with_reducible rfl
  try simp only [Act.put, List.setIfInBounds_toArray, List.set_cons_zero, List.set_cons_succ, List.getElem_toArray, List.getElem_cons_succ, List.getElem_cons_zero]
  refine wpAnyH_take (i := 1) (oi := _) (v := ?_) rfl (by kernel_rfl) (by kernel_rfl) (by kernel_rfl) (fun _ _ _ h => h) (Or.inl ⟨by rfl, fun Y hY => ?_⟩) hHeld ?_
  rotate_left
  · obtain ⟨y0, y1⟩ := hY
    (go_simp) <;> with_reducible rfl
  try simp only [Act.put, List.setIfInBounds_toArray, List.set_cons_zero, List.set_cons_succ, List.getElem_toArray, List.getElem_cons_succ, List.getElem_cons_zero]
  refine wpAnyH_take (i := 2) (oi := _) (v := ?_) rfl (by kernel_rfl) (by kernel_rfl) (by kernel_rfl) (fun _ _ _ h => h) (Or.inl ⟨by rfl, fun Y hY => ?_⟩) hHeld ?_
  rotate_left
  · (go_simp) <;> with_reducible rfl
  try simp only [Act.put, List.setIfInBounds_toArray, List.set_cons_zero, List.set_cons_succ, List.getElem_toArray, List.getElem_cons_succ, List.getElem_cons_zero]
  refine wpAnyH_take (i := 3) (oi := _) (v := ?_) rfl (by kernel_rfl) (by kernel_rfl) (by kernel_rfl) (fun _ _ _ h => h) (Or.inl ⟨by rfl, fun Y hY => ?_⟩) hHeld ?_
  rotate_left
  · (go_simp) <;> with_reducible rfl
  try simp only [Act.put, List.setIfInBounds_toArray, List.set_cons_zero, List.set_cons_succ, List.getElem_toArray, List.getElem_cons_succ, List.getElem_cons_zero]
  refine wpAnyH_take (i := 5) (oi := _) (v := ?_) rfl (by kernel_rfl) (by kernel_rfl) (by kernel_rfl) (fun _ _ _ h => h) (Or.inl ⟨by rfl, fun Y hY => ?_⟩) hHeld ?_
  rotate_left
  · (go_simp) <;> with_reducible rfl
  try simp only [Act.put, List.setIfInBounds_toArray, List.set_cons_zero, List.set_cons_succ, List.getElem_toArray, List.getElem_cons_succ, List.getElem_cons_zero]
  refine wpAnyH_take (i := 6) (oi := _) (v := ?_) rfl (by kernel_rfl) (by kernel_rfl) (by kernel_rfl) (fun _ _ _ h => h) (Or.inl ⟨by rfl, fun Y hY => ?_⟩) hHeld ?_
  rotate_left
  · obtain ⟨y0, y1⟩ := hY
    (go_simp) <;> with_reducible rfl
  try simp only [Act.put, List.setIfInBounds_toArray, List.set_cons_zero, List.set_cons_succ, List.getElem_toArray, List.getElem_cons_succ, List.getElem_cons_zero]
  refine wpAnyH_take (i := 7) (oi := _) (v := ?_) rfl (by kernel_rfl) (by kernel_rfl) (by kernel_rfl) (fun _ _ _ h => h) (Or.inl ⟨by rfl, fun Y hY => ?_⟩) hHeld ?_
  rotate_left
  · (go_simp) <;> with_reducible rfl
  try simp only [Act.put, List.setIfInBounds_toArray, List.set_cons_zero, List.set_cons_succ, List.getElem_toArray, List.getElem_cons_succ, List.getElem_cons_zero]
  refine wpAnyH_take (i := 8) (oi := _) (v := ?_) rfl (by kernel_rfl) (by kernel_rfl) (by kernel_rfl) (fun _ _ _ h => h) (Or.inl ⟨by rfl, fun Y hY => ?_⟩) hHeld ?_
  rotate_left
  · (go_simp) <;> with_reducible rfl
  try simp only [Act.put, List.setIfInBounds_toArray, List.set_cons_zero, List.set_cons_succ, List.getElem_toArray, List.getElem_cons_succ, List.getElem_cons_zero]
  refine wpAnyH_ready (rs := [4]) (by kernel_rfl) (by simp) ?_
  refine AllReadyH.cons (o := _) rfl (fun KK hKK => ?_) AllReadyH.nil
  clear hHeld
  go_simp
  (with_reducible refine (HL.out _ Hb2.out.drew).mono ?_)
  rintro e w5 ⟨v5, rfl, hown5, hb5⟩
  have Hown5 := Lib.hid hown5
  have Hb5 := Lib.hid (Hb2.out.drew.trans (hb5.mono Hb2.out.size))
  clear hown5 hb5
  refine hKK.out _ _ (HS.out w5 Hb5.out) (fun hHeld => ?_)
  clear hKK KK
  try simp only [Act.put, List.setIfInBounds_toArray, List.set_cons_zero, List.set_cons_succ, List.getElem_toArray, List.getElem_cons_succ, List.getElem_cons_zero]
  refine wpAnyH_ready (rs := [9]) (by kernel_rfl) (by simp) ?_
  refine AllReadyH.cons (o := _) rfl (fun KK hKK => ?_) AllReadyH.nil
  clear hHeld
  go_simp
  (with_reducible refine (HR.out _ Hb5.out).mono ?_)
  rintro e w6 ⟨v6, rfl, hown6, hb6⟩
  have Hown6 := Lib.hid hown6
  have Hb6 := Lib.hid (Hb5.out.trans (hb6.mono Hb5.out.size))
  have Hown5' := Lib.hid (Hown5.out.below (ndF_rel _) hb6)
  clear hown6 hb6
  refine hKK.out _ _ (HS.out w6 Hb6.out) (fun hHeld => ?_)
  clear hKK KK
  try simp only [Act.put, List.setIfInBounds_toArray, List.set_cons_zero, List.set_cons_succ, List.getElem_toArray, List.getElem_cons_succ, List.getElem_cons_zero]
  refine wpAnyH_take (i := 10) (oi := _) (v := ?_) rfl (by kernel_rfl) (by kernel_rfl) (by kernel_rfl) (fun _ _ _ h => h) (Or.inl ⟨by rfl, fun Y hY => ?_⟩) hHeld ?_
  rotate_left
  · (go_simp) <;> with_reducible rfl
  try simp only [Act.put, List.setIfInBounds_toArray, List.set_cons_zero, List.set_cons_succ, List.getElem_toArray, List.getElem_cons_succ, List.getElem_cons_zero]
  refine wpAnyH_take (i := 11) (oi := _) (v := ?_) rfl (by kernel_rfl) (by kernel_rfl) (by kernel_rfl) (fun _ _ _ h => h) (Or.inl ⟨by rfl, fun Y hY => ?_⟩) hHeld ?_
  rotate_left
  · (go_simp) <;> with_reducible rfl
  try simp only [Act.put, List.setIfInBounds_toArray, List.set_cons_zero, List.set_cons_succ, List.getElem_toArray, List.getElem_cons_succ, List.getElem_cons_zero]
  refine wpAnyH_take (i := 12) (oi := _) (v := ?_) rfl (by kernel_rfl) (by kernel_rfl) (by kernel_rfl) (fun _ _ _ h => h) (Or.inl ⟨by rfl, fun Y hY => ?_⟩) hHeld ?_
  rotate_left
  · (go_simp) <;> with_reducible rfl
  try simp only [Act.put, List.setIfInBounds_toArray, List.set_cons_zero, List.set_cons_succ, List.getElem_toArray, List.getElem_cons_succ, List.getElem_cons_zero]
  refine wpAnyH_done (by kernel_rfl) ?_ _
  have Hw5 := Lib.hid (Hown5'.out.weak (B := W.heap.size) (by have h1 := Hb1.out.size; have h2 := Hb2.out.drew.size; exact Nat.le_trans h1 h2))
  have Hw6 := Lib.hid (Hown6.out.weak (B := W.heap.size) (by have h1 := Hb1.out.size; have h2 := Hb5.out.size; exact Nat.le_trans h1 h2))
  have Hbw := Lib.hid (Hb1.out.trans (Hb6.out.mono Hb1.out.size))
  clear hHeld
  go_wp2
  go_ret3
  unfold SidesPost
  rw [Hm.out, Hs1.out]
  exact ⟨_, _, rfl, Hw5.out, Hw6.out, Hbw.out⟩
end Go.Proofs.YtmebpgggfppmhaaDoor
end
section
namespace Go.Proofs.YtmebpgggfppmhaaDoor
set_option linter.unusedVariables false
set_option linter.unusedSimpArgs false
namespace R
open T (Nd)

def wide (w v : Int) : Int := if v = 0 then w else v
theorem inst1_w {p : List Nd} {w : Int} {hs : List Int} {x : Nd} : (inst1 p w hs x).w = wide w x.w := by
  unfold inst1 wide
  split
  · rfl
  · split
    · rfl
    · split
      · rename_i h; rw [if_pos h.2]
      · rfl
theorem wide_bd {w v : Int} (hw : 1 ≤ w ∧ w ≤ 32) (hv : 0 ≤ v ∧ v ≤ 32) : 1 ≤ wide w v ∧ wide w v ≤ 32 := by
  unfold wide
  split <;> omega
theorem hole_word {w : Int} {hs : List Int} {i : Int} (hh : HsOk w hs) (h0 : 0 ≤ i) (h2 : i < 2) : B.isW w (hs.getD i.toNat 0) = true := by
  have hl : i.toNat < hs.length := by rw [hh.1]; omega
  rw [List.getD_eq_getElem?_getD, List.getElem?_eq_getElem hl]
  exact (hh.2 _ (List.getElem_mem hl)).2
theorem mod_word {w : Int} (hw : 1 ≤ w ∧ w ≤ 32) (z : Int) : B.isW w (z % B.pw w) = true := B.isW_iff.2 ⟨hw.1, hw.2, Int.emod_lt_of_pos _ (B.pw_pos w)⟩

theorem inst1_node {p : List Nd} {right : Bool} {w : Int} {hs : List Int} {k : Nat} {x : Nd} (hw : 1 ≤ w ∧ w ≤ 32) (hh : HsOk w hs) (h : pnode p right k x = true) (h0 : 0 ≤ x.imm) : tnode k (inst1 p w hs x) = true := by
  have hfl := pnode_flags h
  have hwx := pnode_w h
  have hlen := pnode_len h
  have hargs := pnode_args h
  have hwb := wide_bd hw hwx
  have ha : T.argsOk k x.args = true := by
    unfold T.argsOk
    rw [List.all_eq_true]
    intro a ha
    have := hargs a ha
    simp; omega
  have hp : pimmOk p right x = true := by
    unfold pnode at h
    simp only [Bool.and_eq_true] at h
    exact h.2
  unfold tnode
  by_cases h34 : x.op = 34
  · have hl : x.args.length = 0 := by have := hlen.1; rw [h34, show par 34 = 0 from rfl] at this; omega
    have hf0 : x.fl = 0 := fl0 hfl (.inl h34)
    obtain ⟨hw0, hi⟩ := pnode_hole h h34
    have e : inst1 p w hs x = ⟨0, w, 0, x.args, hs.getD x.imm.toNat 0⟩ := by unfold inst1; rw [if_pos h34, if_pos hw0, hf0]
    rw [e]
    unfold T.shaped
    simp only [T.immOk, if_true, hole_word hh h0 hi, ha, hl]
    simp [flOk, T.ar]
    omega
  · by_cases h35 : x.op = 35
    · have hf0 : x.fl = 0 := fl0 hfl (.inr h35)
      obtain ⟨hw0, _⟩ := pnode_trail h h35
      obtain ⟨z, e⟩ : ∃ z, inst1 p w hs x = ⟨0, w, 0, [], z % B.pw w⟩ := by
        unfold inst1
        rw [if_neg h34, if_pos h35, if_pos hw0, hf0]
        exact ⟨_, rfl⟩
      rw [e]
      unfold T.shaped
      simp only [T.immOk, if_true, mod_word hw]
      simp [flOk, T.ar, T.argsOk]
      omega
    · have har : par x.op = T.ar x.op := by
        have h2 := hlen.2
        unfold par at h2 ⊢
        rw [if_neg h34, if_neg h35] at h2 ⊢
        split at h2
        · omega
        · rename_i h; rw [if_neg h]
      rw [har] at hlen
      by_cases hc : x.op = 0 ∧ x.w = 0
      · have e : inst1 p w hs x = ⟨0, w, x.fl, x.args, x.imm % B.pw w⟩ := by unfold inst1; rw [if_neg h34, if_neg h35, if_pos hc]
        rw [e]
        rw [hc.1] at hfl hlen
        unfold T.shaped
        simp only [T.immOk, if_true, mod_word hw, hfl, ha]
        simp [hlen.1, hlen.2]
        omega
      · have e : inst1 p w hs x = ⟨x.op, wide w x.w, x.fl, x.args, x.imm⟩ := by unfold inst1 wide; rw [if_neg h34, if_neg h35, if_neg hc]
        rw [e]
        unfold pimmOk at hp
        have hi : T.immOk ⟨x.op, wide w x.w, x.fl, x.args, x.imm⟩ = true := by
          unfold T.immOk
          dsimp only
          split at hp
          · rename_i h1
            rw [if_pos h1]
            have hw0 : x.w ≠ 0 := fun e => hc ⟨h1, e⟩
            simp only [Bool.or_eq_true, decide_eq_true_eq] at hp
            unfold wide
            rw [if_neg hw0]
            exact hp.resolve_left hw0
          · rename_i h1
            rw [if_neg h1]
            split at hp
            · rename_i h2
              rw [if_pos (h2.resolve_right h34)]
              simp at hp ⊢; omega
            · rename_i h2
              rw [if_neg (fun e => h2 (.inl e))]
              split at hp
              · rename_i h3
                rw [if_pos h3]
                simp at hp ⊢; omega
              · rename_i h3
                rw [if_neg h3]
                exact hp
        have h14 : x.op = 14 → wide w x.w = 1 := fun h1 => by
          rw [if_neg (by omega), if_neg (by omega), if_neg h35, if_pos h1] at hp
          simp at hp
          unfold wide
          rw [if_neg (by omega)]
          exact hp.1
        unfold T.shaped
        simp only [hi, ha, hfl]
        simp [hlen.1, hlen.2, hwb]
        by_cases h1 : x.op = 14
        · exact .inr (h14 h1)
        · exact .inl h1

theorem inst_getD {p : List Nd} {w : Int} {hs : List Int} {a : Nat} (ha : a < p.length) : ((inst p w hs).getD a default).w = wide w (p.getD a default).w := by
  rw [List.getD_eq_getElem?_getD, List.getD_eq_getElem?_getD]
  unfold inst
  rw [List.getElem?_map, List.getElem?_eq_getElem ha]
  exact inst1_w

theorem inst1_typed {p : List Nd} {right : Bool} {w : Int} {hs : List Int} {k : Nat} {x : Nd} (hw : 1 ≤ w ∧ w ≤ 32) (hk : p[k]? = some x) (h : pnode p right k x = true) (ht : T.typed p x = true) : T.typed (inst p w hs) (inst1 p w hs x) = true := by
  have hkl := (List.getElem?_eq_some_iff.1 hk).1
  have hwx := pnode_w h
  have hlen := pnode_len h
  have hargs := pnode_args h
  by_cases h34 : x.op = 34
  · unfold inst1; rw [if_pos h34]; rfl
  by_cases h35 : x.op = 35
  · unfold inst1; rw [if_neg h34, if_pos h35]; rfl
  by_cases hc : x.op = 0 ∧ x.w = 0
  · unfold inst1; rw [if_neg h34, if_neg h35, if_pos hc]; rfl
  have e : inst1 p w hs x = ⟨x.op, wide w x.w, x.fl, x.args, x.imm⟩ := by unfold inst1 wide; rw [if_neg h34, if_neg h35, if_neg hc]
  rw [e]
  have hr : ∀ i : Nat, (i : Int) < par x.op → T.wd (inst p w hs) ⟨x.op, wide w x.w, x.fl, x.args, x.imm⟩ i = wide w (T.wd p x i) := fun i hi => by
    unfold T.wd
    dsimp only
    refine inst_getD ?_
    have hil : i < x.args.length := by omega
    have hm := List.getElem_mem hil
    have := hargs _ hm
    rw [List.getD_eq_getElem?_getD, List.getElem?_eq_getElem hil]
    show (x.args[i]).toNat < p.length
    omega
  have hpar : par x.op = if 16 ≤ x.op ∧ x.op ≤ 18 then -1 else T.ar x.op := by unfold par; rw [if_neg h34, if_neg h35]
  unfold T.typed at ht ⊢
  dsimp only at ht ⊢
  split at ht
  · rename_i h1
    rw [if_pos h1]
    have hp : par x.op = 2 := by rw [hpar, if_neg (by omega)]; unfold T.ar; rw [if_neg (by omega), if_pos (by omega)]
    simp only [Bool.and_eq_true, decide_eq_true_eq] at ht ⊢
    rw [hr 0 (by omega), hr 1 (by omega), ht.1, ht.2]
    exact ⟨rfl, rfl⟩
  · rename_i h1
    rw [if_neg h1]
    split at ht
    · rename_i h2
      rw [if_pos h2]
      have hp : par x.op = 2 := by rw [hpar, if_neg (by omega)]; unfold T.ar; rw [if_neg (by omega), if_pos (by omega)]
      simp only [decide_eq_true_eq] at ht ⊢
      rw [hr 0 (by omega), hr 1 (by omega), ht]
    · rename_i h2
      rw [if_neg h2]
      split at ht
      · rename_i h3
        rw [if_pos h3]
        have hp : par x.op = 3 := by rw [hpar, if_neg (by omega)]; unfold T.ar; rw [if_neg (by omega), if_neg (by omega), if_pos (by omega)]
        simp only [Bool.and_eq_true, decide_eq_true_eq] at ht ⊢
        rw [hr 0 (by omega), hr 1 (by omega), hr 2 (by omega), ht.1.1, ht.1.2, ht.2]
        exact ⟨⟨rfl, rfl⟩, rfl⟩
      · rename_i h3
        have h16 : ¬ (16 ≤ x.op ∧ x.op ≤ 18) := fun hh => by
          have := hlen.2
          rw [hpar, if_pos hh] at this
          omega
        rw [if_neg h3, if_neg (by omega), if_neg (by omega)]

theorem inst_valid {p : List Nd} {right : Bool} {w : Int} {hs : List Int} (hw : B.isWd w = true) (hh : HsOk w hs) (hp : ∀ k x, p[k]? = some x → pnode p right k x = true) (ht : ∀ x ∈ p, T.typed p x = true) (h0 : ∀ x ∈ p, 0 ≤ x.imm) (h1 : 1 ≤ p.length) (h2 : p.length ≤ 12) : fvalid (inst p w hs) = 0 := by
  have hwd := B.isWd_iff.1 hw
  have hat : ∀ (k : Nat) y, (inst p w hs)[k]? = some y → ∃ x, p[k]? = some x ∧ y = inst1 p w hs x := fun k y hy => by
    unfold inst at hy
    rw [List.getElem?_map] at hy
    obtain ⟨x, hx, rfl⟩ := Option.map_eq_some_iff.1 hy
    exact ⟨x, hx, rfl⟩
  rw [fvalid_eq, if_neg (by rw [inst_len]; omega), if_neg, if_neg, if_neg]
  · rw [Bool.not_eq_true, T.clashes_iff]
    intro i j x y hij hx hy
    obtain ⟨a, ha, rfl⟩ := hat i x hx
    obtain ⟨b, hb, rfl⟩ := hat j y hy
    have hv : ∀ z k, p[k]? = some z → (inst1 p w hs z).op = 33 → (inst1 p w hs z).w = w := fun z k hz ho => by
      rw [inst1_w]
      unfold wide
      rw [if_pos]
      refine pnode_bare (hp k z hz) (.inl ?_)
      unfold inst1 at ho
      split at ho
      · exact absurd (show (0 : Int) = 33 from ho) (by decide)
      · split at ho
        · exact absurd (show (0 : Int) = 33 from ho) (by decide)
        · split at ho
          · exact absurd (show (0 : Int) = 33 from ho) (by decide)
          · exact ho
    unfold T.clash
    by_cases h1 : (inst1 p w hs a).op = 33
    · by_cases h2 : (inst1 p w hs b).op = 33
      · rw [hv a i ha h1, hv b j hb h2]; simp
      · simp [h2]
    · simp [h1]
  · rw [Bool.not_eq_false, List.all_eq_true]
    intro y hy
    obtain ⟨k, hk⟩ := List.mem_iff_getElem?.1 hy
    obtain ⟨x, hx, rfl⟩ := hat k y hk
    exact inst1_typed hwd hx (hp k x hx) (ht x (List.mem_of_getElem? hx))
  · rw [Bool.not_eq_false, tnode_all]
    intro k y hy
    obtain ⟨x, hx, rfl⟩ := hat k y hy
    exact inst1_node hwd hh (hp k x hx) (h0 x (List.mem_of_getElem? hx))

theorem sds_ok {r : Rl} {w : Int} {hs : List Int} (h : serr r w hs = 0) (h0 : ∀ x ∈ hs, 0 ≤ x) (hl : ∀ x ∈ r.left, 0 ≤ x.imm) (hr : ∀ x ∈ r.right, 0 ≤ x.imm) : fvalid (sds r w hs).1 = 0 ∧ fvalid (sds r w hs).2 = 0 := by
  obtain ⟨hrok, hhs⟩ := serr_ok h
  have hho := hsOk_iff hhs h0
  have e : sds r w hs = (inst r.left w hs, inst r.right w hs) := by unfold sds; rw [if_pos h]
  rw [e]
  exact ⟨inst_valid hho.1 hho.2 hrok.lp hrok.lt hl hrok.lpos hrok.llen, inst_valid hho.1 hho.2 hrok.rp hrok.rt hr hrok.rpos hrok.rlen⟩
theorem flr_ok {t : List Nd} (h : fvalid t = 0) : flr t := fun x hx => by
  have := ((tok_of h).at_ hx).2.2.1
  omega
end R
end Go.Proofs.YtmebpgggfppmhaaDoor
end
section
namespace Go.Proofs.YtmebpgggfppmhaaDoor
open Go.RowKit
set_option linter.unusedVariables false
set_option linter.unusedSimpArgs false

set_option maxRecDepth 100000 in
set_option maxHeartbeats 1000000 in
theorem ruleSides_any {r : R.Rl} {w : Int} {hs : List Int} {nl cl nr cr np cp nh ch : Nat} {AL AR AP Ah : Option Addr} {W : World} (hR : RlAt W r nl nr np AL AR AP) (hH : SlAt (IntR .u32) W Ah nh hs) (h0 : ∀ x ∈ hs, 0 ≤ x ∧ x < 4294967296) (hT : TabAt W) :
    Calls Tryd.prog 8 #[.agg #[.slice AL nl cl, .slice AR nr cr, .slice AP np cp], .int .i64 w, .slice Ah nh ch] W fun e W' => e = .returned (.bool true) ∧ Below W.heap.size W W' := by
  have hleH := hH.le
  obtain ⟨W1, hW1⟩ : ∃ W1, W1 = W.alloc (.cells #[.slice AL nl cl, .slice AR nr cr, .slice AP np cp] 25) := ⟨_, rfl⟩
  have hb1 : Below W.heap.size W W1 := by rw [hW1]; exact (Below.refl _ _).alloc (Nat.le_refl _) _
  have hrow : W1.heap[W.heap.size]? = some (.cells #[.slice AL nl cl, .slice AR nr cr, .slice AP np cp] 25 (0, 0)) := by rw [hW1]; exact heap_alloc_new W _
  obtain ⟨c0, c1, c2, _⟩ := rl_cells hrow
  have Hrow := Lib.hid hrow
  have Hb1 := Lib.hid hb1
  have HT := Lib.hid (hT.below hb1)
  have HR1 := Lib.hid (hR.below hb1)
  have HH := Lib.hid (hH.below (monoInt _) hb1)
  have H0 := Lib.hid h0
  have Hlg := Lib.hid (rLong_any (cl := cl) (cr := cr) (cp := cp) HR1.out)
  have Hkn := Lib.hid (fun X (h : Below W1.heap.size W1 X) => known_any X (HT.out.below h))
  have HW1 := Lib.hid hW1
  obtain ⟨lg, hlg⟩ : ∃ lg, R.rlong r = lg := ⟨_, rfl⟩
  rw [hlg] at Hlg
  rw [hW1] at c0 c1 c2
  clear hR hH h0 hb1 hW1 hrow hlg hT
  cases lg with
  | true =>
    go_enter Tryd.func8, Tryd.ntmps8
    go_wp2_with fail
    rw [← HW1.out]
    (with_reducible refine Hlg.out.mono ?_)
    rintro e w2 ⟨rfl, hb2⟩
    have Hb2 := Lib.hid hb2
    clear hb2 c0 c1 c2
    go_wp2_with fail
    (with_reducible refine (Hkn.out _ Hb2.out).mono ?_)
    rintro e w3 ⟨rfl, hb3⟩
    have Hb3 := Lib.hid (Hb1.out.trans ((Hb2.out.trans (hb3.mono Hb2.out.size)).mono Hb1.out.size))
    clear hb3
    go_wp2
    go_ret
    exact ⟨rfl, Hb3.out⟩
  | false =>
    by_cases hn : 100 < nh
    · have q : decide (100 < (nh : Int)) = true := by simp; omega
      clear hn
      go_enter Tryd.func8, Tryd.ntmps8
      go_wp2_with fail
      rw [← HW1.out]
      (with_reducible refine Hlg.out.mono ?_)
      rintro e w2 ⟨rfl, hb2⟩
      have Hb2 := Lib.hid hb2
      clear hb2 c0 c1 c2
      go_wp2_with fail
      (with_reducible refine (Hkn.out _ Hb2.out).mono ?_)
      rintro e w3 ⟨rfl, hb3⟩
      have Hb3 := Lib.hid (Hb1.out.trans ((Hb2.out.trans (hb3.mono Hb2.out.size)).mono Hb1.out.size))
      clear hb3
      go_wp2
      go_ret
      exact ⟨rfl, Hb3.out⟩
    · have q : decide (100 < (nh : Int)) = false := by simp; omega
      clear hn
      obtain ⟨sl, hsl⟩ : ∃ s, (R.sds r w hs).1 = s := ⟨_, rfl⟩
      obtain ⟨sr, hsr⟩ : ∃ s, (R.sds r w hs).2 = s := ⟨_, rfl⟩
      obtain ⟨er, her⟩ : ∃ er, R.serr r w hs = er := ⟨_, rfl⟩
      have Hsp := Lib.hid (show ∀ X e X', SidesPost X r w hs e X' → ∃ A1 k1 A2 k2, e = .returned (.tuple #[.slice A1 sl.length k1, .slice A2 sr.length k2, .int .i64 er]) ∧ OwnR (NdF X.heap.size) X.heap.size X' (.slice A1 sl.length k1) sl ∧ OwnR (NdF X.heap.size) X.heap.size X' (.slice A2 sr.length k2) sr ∧ Below X.heap.size X X' from fun X e X' ⟨v1, v2, h1, h2, h3, h4⟩ => by
        rw [hsl] at h2
        rw [hsr] at h3
        rw [her] at h1
        obtain ⟨A1, k1, rfl⟩ := h2.form
        obtain ⟨A2, k2, rfl⟩ := h3.form
        exact ⟨A1, k1, A2, k2, h1, h2, h3, h4⟩)
      have Hok := Lib.hid (show er = 0 → (R.fvalid sl = 0 ∧ R.flr sl) ∧ (R.fvalid sr = 0 ∧ R.flr sr) from fun h => by
        have := R.sds_ok (her.trans h) (fun x hx => (H0.out x hx).1) (nd_imm HR1.out.sl) (nd_imm HR1.out.sr)
        rw [hsl, hsr] at this
        exact ⟨⟨this.1, R.flr_ok this.1⟩, ⟨this.2, R.flr_ok this.2⟩⟩)
      have Hg := Lib.hid (fun X (h : Below W1.heap.size W1 X) => gSides_any (w := w) (cl := cl) (cr := cr) (cp := cp) (ch := ch) (HR1.out.below h) (HH.out.below (monoInt _) h) (fun x hx => (H0.out x hx).1) (HT.out.below h))
      have Hr := Lib.hid (fun X (h : Below W1.heap.size W1 X) => rSides_any (w := w) (cl := cl) (cr := cr) (cp := cp) (ch := ch) (HR1.out.below h) (HH.out.below (monoInt _) h) H0.out)
      clear hsl hsr her
      have qe : (er != er) = false := by simp
      go_enter Tryd.func8, Tryd.ntmps8
      go_wp2_with fail
      rw [← HW1.out]
      (with_reducible refine Hlg.out.mono ?_)
      rintro e w2 ⟨rfl, hb2⟩
      have Hb2 := Lib.hid hb2
      have hrow2 := (hb2.block _ (Array.getElem?_eq_some_iff.1 Hrow.out).1).trans Hrow.out
      obtain ⟨d0, d1, d2, _⟩ := rl_cells hrow2
      have Hrow2 := Lib.hid hrow2
      clear hb2 c0 c1 c2 hrow2
      go_wp2_with fail
      (with_reducible refine (Hg.out _ Hb2.out).mono ?_)
      intro e w3 hp3
      obtain ⟨A1, k1, A2, k2, rfl, hs1, hs2, hb3⟩ := Hsp.out _ _ _ hp3
      have Hb3 := Lib.hid (Hb2.out.trans (hb3.mono Hb2.out.size))
      have hrow3 := (hb3.block _ (Array.getElem?_eq_some_iff.1 Hrow2.out).1).trans Hrow2.out
      obtain ⟨d0, d1, d2, _⟩ := rl_cells hrow3
      have HS1 := Lib.hid (hs1.stAt (ndF_rel _) rfl)
      have HS2 := Lib.hid (hs2.stAt (ndF_rel _) rfl)
      clear hb3 hrow3 hp3 hs1 hs2
      go_wp2_with fail
      (with_reducible refine (Hr.out _ Hb3.out).mono ?_)
      intro e w4 hp4
      obtain ⟨B1, l1, B2, l2, rfl, hs1, hs2, hb4⟩ := Hsp.out _ _ _ hp4
      have Hb4 := Lib.hid (Hb3.out.trans (hb4.mono Hb3.out.size))
      have HS3 := Lib.hid (HS1.out.below monoNd hb4)
      have HS4 := Lib.hid (HS2.out.below monoNd hb4)
      have Hq1 := Lib.hid (SameNodes_any (c := k1) (c' := l1) HS3.out (hs1.stAt (ndF_rel _) rfl))
      have Hq2 := Lib.hid (fun X (h : Below w4.heap.size w4 X) => SameNodes_any (c := k2) (c' := l2) (HS4.out.below monoNd h) ((hs2.stAt (ndF_rel _) rfl).below monoNd h))
      rw [decide_eq_true (rfl : sl = sl)] at Hq1
      rw [decide_eq_true (rfl : sr = sr)] at Hq2
      clear hb4 d0 d1 d2 hp4 hs1 hs2
      go_wp2_with fail
      (with_reducible refine Hq1.out.mono ?_)
      rintro e w5 ⟨rfl, hb5⟩
      have Hb5 := Lib.hid hb5
      clear hb5
      go_wp2_with fail
      (with_reducible refine (Hq2.out _ Hb5.out).mono ?_)
      rintro e w6 ⟨rfl, hb6⟩
      have Hb46 := Lib.hid (Hb5.out.trans (hb6.mono Hb5.out.size))
      have Hb6 := Lib.hid (Hb4.out.trans (Hb46.out.mono Hb4.out.size))
      clear hb6
      by_cases he0 : er = 0
      · obtain ⟨⟨g1, g2⟩, ⟨g3, g4⟩⟩ := Hok.out he0
        subst he0
        have Hv1 := Lib.hid (gValidateFlagged_any sl _ k1 _ _ (HS3.out.below monoNd Hb46.out) g2)
        have Hv2 := Lib.hid (fun X (h : Below w6.heap.size w6 X) => gValidateFlagged_any sr _ k2 _ X ((HS4.out.below monoNd Hb46.out).below monoNd h) g4)
        rw [g1] at Hv1
        rw [g3] at Hv2
        clear g1 g2 g3 g4
        go_wp2_with fail
        (with_reducible refine Hv1.out.mono ?_)
        rintro e w7 ⟨rfl, hb7⟩
        have Hb7 := Lib.hid hb7
        clear hb7
        go_wp2_with fail
        (with_reducible refine (Hv2.out _ Hb7.out).mono ?_)
        rintro e w8 ⟨rfl, hb8⟩
        have Hb8 := Lib.hid (Hb6.out.trans ((Hb7.out.trans (hb8.mono Hb7.out.size)).mono Hb6.out.size))
        clear hb8
        go_wp2_with fail
        (with_reducible refine (Hkn.out _ Hb8.out).mono ?_)
        rintro e w9 ⟨rfl, hb9⟩
        have Hb9 := Lib.hid (Hb1.out.trans ((Hb8.out.trans (hb9.mono Hb8.out.size)).mono Hb1.out.size))
        clear hb9
        go_wp2
        go_ret
        exact ⟨rfl, Hb9.out⟩
      · have q0 : (er != 0) = true := by simpa using he0
        clear he0
        go_wp2_with fail
        (with_reducible refine (Hkn.out _ Hb6.out).mono ?_)
        rintro e w9 ⟨rfl, hb9⟩
        have Hb9 := Lib.hid (Hb1.out.trans ((Hb6.out.trans (hb9.mono Hb6.out.size)).mono Hb1.out.size))
        clear hb9
        go_wp2
        go_ret
        exact ⟨rfl, Hb9.out⟩
end Go.Proofs.YtmebpgggfppmhaaDoor
end
