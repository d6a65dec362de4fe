/- Rules: a side of a rule at a width (the reference). -/
import Derived.Test.YtmebpgggfppmhaaDoorGQ3
set_option linter.unusedVariables false
set_option linter.unusedSimpArgs false
namespace Go.Proofs.YtmebpgggfppmhaaDoor
open Go.RowKit
set_option linter.unusedVariables false
set_option linter.unusedSimpArgs false

def st5 (w : World) (g o : Nat) (a0 a1 a2 a3 a4 : Value) : World := ((((w.setCell ⟨g, o, none⟩ a0).setCell ⟨g, o + 1, none⟩ a1).setCell ⟨g, o + 2, none⟩ a2).setCell ⟨g, o + 3, none⟩ a3).setCell ⟨g, o + 4, none⟩ a4
theorem st5_row {w : World} {g : Nat} {T : TypeId} {cur : Array Value} (o : Nat) (a0 a1 a2 a3 a4 : Value) (h : w.heap[g]? = some (.cells cur T (0, 0))) : (st5 w g o a0 a1 a2 a3 a4).heap[g]? = some (.cells (((((cur.setIfInBounds o a0).setIfInBounds (o + 1) a1).setIfInBounds (o + 2) a2).setIfInBounds (o + 3) a3).setIfInBounds (o + 4) a4) T (0, 0)) :=
  heap_setCell_same _ g (o + 4) _ _ a4 (heap_setCell_same _ g (o + 3) _ _ a3 (heap_setCell_same _ g (o + 2) _ _ a2 (heap_setCell_same _ g (o + 1) _ _ a1 (heap_setCell_same w g o _ _ a0 h))))
theorem st5_below {B : Nat} {W w : World} {g : Nat} (o : Nat) (a0 a1 a2 a3 a4 : Value) (h : Below B W w) (hg : B ≤ g) : Below B W (st5 w g o a0 a1 a2 a3 a4) :=
  ((((h.setCell (p := ⟨g, o, none⟩) hg _).setCell (p := ⟨g, o + 1, none⟩) hg _).setCell (p := ⟨g, o + 2, none⟩) hg _).setCell (p := ⟨g, o + 3, none⟩) hg _).setCell (p := ⟨g, o + 4, none⟩) hg _
theorem st5_grown (w : World) (g o : Nat) (a0 a1 a2 a3 a4 : Value) : w.grownBy (st5 w g o a0 a1 a2 a3 a4) (some g) :=
  ((((setCell_grown w g o a0).trans (setCell_grown _ g (o + 1) a1)).trans (setCell_grown _ g (o + 2) a2)).trans (setCell_grown _ g (o + 3) a3)).trans (setCell_grown _ g (o + 4) a4)
theorem OwnR.put5 {B g off n c k : Nat} {w : World} {nds : List T.Nd} {cur : Array Value} {y : T.Nd} {A2 : Option Addr} {c2 : Nat} (h : OwnR (NdF B) B w (.slice (some ⟨g, off, none⟩) n c) nds) (hn : nds.length = n) (hk : k < n) (hg : w.heap[g]? = some (.cells cur 41 (0, 0))) (hs : off + k * 5 + 4 < cur.size) (hy : NdF B w (ndC y A2 c2) y) :
    OwnR (NdF B) B (st5 w g (off + k * 5) (.int .i64 y.op) (.int .i64 y.w) (.int .i64 y.fl) (.slice A2 y.args.length c2) (.int .u32 y.imm)) (.slice (some ⟨g, off, none⟩) n c) (nds.set k y) := by
  have hgr := st5_grown w g (off + k * 5) (.int .i64 y.op) (.int .i64 y.w) (.int .i64 y.fl) (.slice A2 y.args.length c2) (.int .u32 y.imm)
  have hoth : ∀ g' cur' T fr, some g = some g' → w.heap[g']? = some (.cells cur' T fr) → T = 41 := fun g' cur' T fr e hcc => by
    injection e with e
    subst e
    rw [hg] at hcc
    injection hcc with hcc
    injection hcc with _ hcc _
    exact hcc.symm
  refine OwnR.put (y := y) (A2 := A2) (c2 := c2) h hn hk hg hgr (st5_row _ _ _ _ _ _ hg) (by simp) (fun i hi => ?_) (fun i u hu => ?_) (NdF.other' hy hgr hoth)
  · simp only [Array.getElem?_setIfInBounds, Array.size_setIfInBounds]
    rw [if_neg (by omega), if_neg (by omega), if_neg (by omega), if_neg (by omega), if_neg (by omega)]
  · simp only [Array.getElem?_setIfInBounds, Array.size_setIfInBounds]
    rcases i with _ | _ | _ | _ | _ | i
    · rw [if_neg (by omega), if_neg (by omega), if_neg (by omega), if_neg (by omega), if_pos (by omega), if_pos (by omega)]; exact hu
    · rw [if_neg (by omega), if_neg (by omega), if_neg (by omega), if_pos (by omega), if_pos (by omega)]; exact hu
    · rw [if_neg (by omega), if_neg (by omega), if_pos (by omega), if_pos (by omega)]; exact hu
    · rw [if_neg (by omega), if_pos (by omega), if_pos (by omega)]; exact hu
    · rw [if_pos (by omega), if_pos (by omega)]; exact hu
    · simp [ndC] at hu

theorem Side.set0 {W wr : World} {v : Value} {nds : List T.Nd} {w5 : World} (h : Side W wr v nds w5) (k : Nat) (u : Value) : Side W wr v nds (w5.setCell ⟨wr.heap.size, k, none⟩ u) := ⟨h.below.setCell (p := ⟨wr.heap.size, k, none⟩) (Nat.le_refl _) _, h.bw, h.own⟩
theorem st5_new {w : World} {g : Nat} {T : TypeId} {b0 b1 b2 b3 b4 : Value} (a0 a1 a2 a3 a4 : Value) (h : w.heap[g]? = some (.cells #[b0, b1, b2, b3, b4] T (0, 0))) : (((((w.setCell ⟨g, 0, none⟩ a0).setCell ⟨g, 1, none⟩ a1).setCell ⟨g, 2, none⟩ a2).setCell ⟨g, 3, none⟩ a3).setCell ⟨g, 4, none⟩ a4).heap[g]? = some (.cells #[a0, a1, a2, a3, a4] T (0, 0)) :=
  heap_setCell_same _ g 4 _ _ a4 (heap_setCell_same _ g 3 _ _ a3 (heap_setCell_same _ g 2 _ _ a2 (heap_setCell_same _ g 1 _ _ a1 (heap_setCell_same w g 0 _ _ a0 h))))
theorem Side.row {W wr : World} {v : Value} {nds : List T.Nd} {w5 : World} {g : Nat} {o : Obj} (h : Side W wr v nds w5) (hg : wr.heap[g]? = some o) : w5.heap[g]? = some o := (h.below.block _ (Array.getElem?_eq_some_iff.1 hg).1).trans hg
theorem nd_at {w : World} {g o : Nat} {T : TypeId} {cur : Array Value} {l : List Value} (h : w.heap[g]? = some (.cells cur T (0, 0))) (hc : ∀ (i : Nat) u, l[i]? = some u → cur[o + i]? = some u) : ∀ i u, l[i]? = some u → w.cell? ⟨g, o + i, none⟩ = some u := fun i u hu => by
  rw [cell_of_row _ _ _ _ _ (0, 0) h]; exact hc i u hu
theorem R.fl0 {op fl : Int} (h : R.flOk op fl = true) (ho : op = 34 ∨ op = 35) : fl = 0 := by
  unfold R.flOk at h
  rw [if_neg (by omega), if_neg (by omega)] at h
  simpa using h
theorem R.pnode_const {p : List T.Nd} {right : Bool} {k : Nat} {x : T.Nd} (h : R.pnode p right k x = true) (ho : x.op = 0) (hw : x.w ≠ 0) : B.isW x.w x.imm = true := by
  unfold R.pnode at h
  simp only [Bool.and_eq_true, decide_eq_true_eq] at h
  obtain ⟨_, h⟩ := h
  unfold R.pimmOk at h
  rw [if_pos ho] at h
  simp only [Bool.or_eq_true, decide_eq_true_eq] at h
  rcases h with h | h
  · exact absurd h hw
  · exact h

set_option maxRecDepth 100000 in
set_option maxHeartbeats 8000000 in
theorem rat_any {p : List T.Nd} {right : Bool} {w : Int} {hs : List Int} {n cp ch : Nat} {Ap Ah : Option Addr} {W : World} (hP : StAt 5 NdR W Ap n p) (hH : SlAt (IntR .u32) W Ah 2 hs) (hw : B.isWd w = true) (hh : R.HsOk w hs) (hp : ∀ k x, p[k]? = some x → R.pnode p right k x = true) (hn : n ≤ 1000) :
    Calls Tryd.prog 45 #[.slice Ap n cp, .int .i64 w, .slice Ah 2 ch] W fun e W' => ∃ v, e = .returned v ∧ OwnR (NdF W.heap.size) W.heap.size W' v (R.inst p w hs) ∧ Below W.heap.size W W' := by
  have hl := hP.len
  have hwd := B.isWd_iff.1 hw
  have Hcp := Lib.hid (CopyNodes_any (ct := cp) hP (by omega) (fun x hx => by
    obtain ⟨k, hk⟩ := List.mem_iff_getElem?.1 hx
    have := R.pnode_small (hp k x hk); omega))
  have HP := Lib.hid hP
  have HH := Lib.hid hH
  have Hp := Lib.hid hp
  have Hw := Lib.hid hw
  have Hh := Lib.hid hh
  have Hl := Lib.hid hl
  clear hP hH hp hw hh hl
  go_enter Tryd.func45, Tryd.ntmps45
  go_wp2_with fail
  (with_reducible refine Hcp.out.mono ?_)
  rintro e w0 ⟨v, rfl, hown, hb0⟩
  obtain ⟨Av, cv, rfl⟩ := hown.form
  rw [Hl.out] at hown ⊢
  have Hown := Lib.hid hown
  have Hb0 := Lib.hid hb0
  clear hown hb0 Hcp
  go_wp2
  go_loopg [8] (n + 1) (fun gg i wr => ∃ (j : Nat), j ≤ n ∧ i = .int .i64 (j : Int) ∧ gg + j = n + 1 ∧ Hid (Below W.heap.size W wr) ∧ Hid (OwnR (NdF W.heap.size) W.heap.size wr (.slice Av n cv) ((R.inst p w hs).take j ++ p.drop j)))
  case atStart => exact ⟨0, Nat.zero_le _, rfl, rfl, Hb0, Lib.hid Hown.out⟩
  case round =>
    obtain ⟨j, hj, rfl, hgk, Hbw, Hown⟩ := hrel
    have Hgk := Lib.hid hgk; clear hgk
    by_cases hjn : j < n
    · have hlj : ((R.inst p w hs).take j ++ p.drop j).length = n := by rw [List.length_append, List.length_take, R.inst_len, List.length_drop, Hl.out]; omega
      obtain ⟨x, g, off, cur, A, c, hx, hA, hB, hg, hc, hf⟩ := Hown.out.cells_ hlj hjn
      subst hA
      have hxt : p[j]? = some x := by
        rw [List.getElem?_append_right (by rw [List.length_take, R.inst_len]; omega), List.length_take, R.inst_len, Hl.out, Nat.min_eq_left (by omega), List.getElem?_drop, Nat.sub_self, Nat.add_zero] at hx
        exact hx
      have Hin := Lib.hid (show (R.inst p w hs)[j]? = some (R.inst1 p w hs x) from by unfold R.inst; rw [List.getElem?_map, hxt]; rfl)
      have Hel := Lib.hid (show ((R.inst p w hs).take j ++ p.drop j).set j (R.inst1 p w hs x) = (R.inst p w hs).take (j + 1) ++ p.drop (j + 1) from by
        rw [List.set_append_right _ _ (by rw [List.length_take, R.inst_len]; omega), List.length_take, R.inst_len, Hl.out, Nat.min_eq_left (by omega), Nat.sub_self, List.drop_eq_getElem_cons (by rw [Hl.out]; exact hjn), List.set_cons_zero, take_next Hin.out, List.append_assoc]
        rfl)
      have hpn := Hp.out j x hxt
      have hwx := R.pnode_w hpn
      have hfl := R.pnode_flags hpn
      have hsm := R.pnode_small hpn
      have hhole := R.pnode_hole hpn
      have hcst := R.pnode_const hpn
      have hleaf := R.pnode_leaf hpn
      have htrail := R.pnode_trail hpn
      have hcell := nd_at hg hc
      have k0 := hcell 0 _ rfl
      have k1 := hcell 1 _ rfl
      have k2 := hcell 2 _ rfl
      have k3 := hcell 3 _ rfl
      have k4 := hcell 4 _ rfl
      rw [Nat.add_zero] at k0
      have hcs : off + j * 5 + 4 < cur.size := (Array.getElem?_eq_some_iff.1 (hc 4 _ rfl)).1
      obtain ⟨op, wd, fl, args, imm⟩ := x
      dsimp only at *
      have i01 : 0 ≤ imm ∧ imm < 4294967296 := by
        obtain ⟨_, _, _, _, h1, h2, _⟩ := hf
        exact ⟨h1, h2⟩
      obtain ⟨w1, hw1⟩ : ∃ w1, w1 = wr.alloc (.cells #[.int .i64 op, .int .i64 wd, .int .i64 fl, .slice A args.length c, .int .u32 imm] 41) := ⟨_, rfl⟩
      have hb1 : Below wr.heap.size wr w1 := by rw [hw1]; exact (Below.refl _ _).alloc (Nat.le_refl _) _
      have hr1 : w1.heap[wr.heap.size]? = some (.cells #[.int .i64 op, .int .i64 wd, .int .i64 fl, .slice A args.length c, .int .u32 imm] 41 (0, 0)) := by rw [hw1]; exact heap_alloc_new wr _
      have Hside1 := Lib.hid (show Side W wr (.slice (some ⟨g, off, none⟩) n cv) ((R.inst p w hs).take j ++ p.drop j) w1 from ⟨hb1, Hbw.out, Hown.out⟩)
      have Harg1 := Lib.hid (show ArgF W.heap.size wr.heap.size w1 A c args from by
        obtain ⟨A3, c3, e1, e2, _, _, e3⟩ := hf
        simp only [ndC, List.cons.injEq, Value.slice.injEq] at e1
        obtain ⟨_, _, _, ⟨e4, _, e5⟩, _⟩ := e1
        subst e4 e5
        exact ⟨e2.below hb1 e2.lt, fun q hq => ⟨e3 q hq, by have := e2.lt q hq; omega⟩⟩)
      have Hrow1 := Lib.hid hr1
      have Hg := Lib.hid hg
      have Hc := Lib.hid hcs
      have Hx := Lib.hid hxt
      have Hi := Lib.hid i01
      have Hlj := Lib.hid hlj
      have Hhole := Lib.hid hhole
      have Htrail := Lib.hid htrail
      have Hcst := Lib.hid hcst
      have Hleaf := Lib.hid hleaf
      have Hfl := Lib.hid hfl
      have HB := Lib.hid hB
      have hi64 : wrap64 imm = imm := by unfold wrap64; omega
      obtain ⟨x0, x1, x2, x3, x4, f0, f1, f2, f3, f4⟩ := nd5_all hr1
      have X0 := Lib.hid (nd5_all hr1)
      rw [hw1] at x0 x1
      clear hx hg hc hf hxt hpn hsm hhole hcst hleaf htrail hcell hb1 hr1 hlj hfl hB hcs f0 f1 f2 f3 f4 x2 x3 x4
      go_upto_if 28 with (fail)
      rw [← hw1]
      clear hw1 x0 x1 k0 k1 k2 k3 k4
      obtain ⟨x0, x1, x2, x3, x4, f0, f1, f2, f3, f4⟩ := X0.out
      by_cases hop : op = 0
      · by_cases hwd0 : wd = 0
        · subst hop
          subst hwd0
          have He := Lib.hid (show R.inst1 p w hs ⟨0, 0, fl, args, imm⟩ = ⟨0, w, fl, args, imm % B.pw w⟩ from by unfold R.inst1; simp)
          have hr2 := heap_setCell_same w1 wr.heap.size 1 _ _ (.int .i64 w) Hrow1.out
          have Hrow2 := Lib.hid (show (w1.setCell ⟨wr.heap.size, 1, none⟩ (.int .i64 w)).heap[wr.heap.size]? = some (.cells #[.int .i64 0, .int .i64 w, .int .i64 fl, .slice A args.length c, .int .u32 imm] 41 (0, 0)) from hr2)
          have Hside2 := Lib.hid (Hside1.out.set0 1 (.int .i64 w))
          have Harg2 := Lib.hid (Harg1.out.set 1 (.int .i64 w))
          clear hr2
          obtain ⟨y0, y1, y2, y3, y4, g0, g1, g2, g3, g4⟩ := nd5_all Hrow2.out
          have HOf := Lib.hid (rOf_any w imm (w1.setCell ⟨wr.heap.size, 1, none⟩ (.int .i64 w)) Hw.out (by omega) (by omega))
          have hr9 := heap_setCell_same (w1.setCell ⟨wr.heap.size, 1, none⟩ (.int .i64 w)) wr.heap.size 4 _ _ (.int .u32 (imm % B.pw w)) Hrow2.out
          have Hrow9 := Lib.hid (show ((w1.setCell ⟨wr.heap.size, 1, none⟩ (.int .i64 w)).setCell ⟨wr.heap.size, 4, none⟩ (.int .u32 (imm % B.pw w))).heap[wr.heap.size]? = some (.cells #[.int .i64 0, .int .i64 w, .int .i64 fl, .slice A args.length c, .int .u32 (imm % B.pw w)] 41 (0, 0)) from hr9)
          have Hside9 := Lib.hid (Hside2.out.set0 4 (.int .u32 (imm % B.pw w)))
          have Harg9 := Lib.hid (Harg2.out.set 4 (.int .u32 (imm % B.pw w)))
          clear hr9
          have Hm := Lib.hid (mod_u32 imm hwd.2)
          obtain ⟨m0, m1, m2, m3, m4, _⟩ := nd5_all Hrow9.out
          have hgE := Hside9.out.row Hg.out
          have HgE := Lib.hid hgE
          obtain ⟨u0, u1, u2, u3, u4, hu0, hu1, hu2, hu3, hu4⟩ : ∃ u0 u1 u2 u3 u4, ((w1.setCell ⟨wr.heap.size, 1, none⟩ (.int .i64 w)).setCell ⟨wr.heap.size, 4, none⟩ (.int .u32 (imm % B.pw w))).cell? ⟨g, off + j * 5, none⟩ = some u0 ∧ ((w1.setCell ⟨wr.heap.size, 1, none⟩ (.int .i64 w)).setCell ⟨wr.heap.size, 4, none⟩ (.int .u32 (imm % B.pw w))).cell? ⟨g, off + j * 5 + 1, none⟩ = some u1 ∧ ((w1.setCell ⟨wr.heap.size, 1, none⟩ (.int .i64 w)).setCell ⟨wr.heap.size, 4, none⟩ (.int .u32 (imm % B.pw w))).cell? ⟨g, off + j * 5 + 2, none⟩ = some u2 ∧ ((w1.setCell ⟨wr.heap.size, 1, none⟩ (.int .i64 w)).setCell ⟨wr.heap.size, 4, none⟩ (.int .u32 (imm % B.pw w))).cell? ⟨g, off + j * 5 + 3, none⟩ = some u3 ∧ ((w1.setCell ⟨wr.heap.size, 1, none⟩ (.int .i64 w)).setCell ⟨wr.heap.size, 4, none⟩ (.int .u32 (imm % B.pw w))).cell? ⟨g, off + j * 5 + 4, none⟩ = some u4 := by
            have hcs := Hc.out
            refine ⟨cur[off + j * 5], cur[off + j * 5 + 1], cur[off + j * 5 + 2], cur[off + j * 5 + 3], cur[off + j * 5 + 4], ?_, ?_, ?_, ?_, ?_⟩ <;> (rw [cell_of_row _ _ _ _ _ (0, 0) hgE]; exact Array.getElem?_eq_getElem _)
          have v0 := frozen_row hgE (off + j * 5)
          have v1 := frozen_row hgE (off + j * 5 + 1)
          have v2 := frozen_row hgE (off + j * 5 + 2)
          have v3 := frozen_row hgE (off + j * 5 + 3)
          have v4 := frozen_row hgE (off + j * 5 + 4)
          have HX := Lib.hid (show OwnR (NdF W.heap.size) W.heap.size (st5 ((w1.setCell ⟨wr.heap.size, 1, none⟩ (.int .i64 w)).setCell ⟨wr.heap.size, 4, none⟩ (.int .u32 (imm % B.pw w))) g (off + j * 5) (.int .i64 0) (.int .i64 (w)) (.int .i64 (fl)) (.slice A args.length c) (.int .u32 (imm % B.pw w))) (.slice (some ⟨g, off, none⟩) n cv) (((R.inst p w hs).take j ++ p.drop j).set j ⟨0, w, fl, args, imm % B.pw w⟩) from OwnR.put5 (y := ⟨0, w, fl, args, imm % B.pw w⟩) (A2 := A) (c2 := c) Hside9.out.own5 Hlj.out hjn HgE.out Hc.out (ArgF.nd (x := ⟨0, w, fl, args, imm % B.pw w⟩) Harg9.out Hm.out.1 Hm.out.2))
          rw [← He.out, Hel.out] at HX
          have HbX := Lib.hid (st5_below (off + j * 5) (.int .i64 0) (.int .i64 (w)) (.int .i64 (fl)) (.slice A args.length c) (.int .u32 (imm % B.pw w)) Hside9.out.b5 HB.out)
          clear hgE
          go_wp2_with fail
          (with_reducible refine HOf.out.mono ?_)
          rintro e w6 ⟨rfl, rfl⟩
          go_wp2
          go_roundg (gk - 1)
          case measure => have := Hgk.out; omega
          case rel =>
            have := Hgk.out
            exact ⟨j + 1, by omega, by go_num, by omega, HbX, HX⟩
        · subst hop
          have qw : (wd == 0) = false := by simpa using hwd0
          have He := Lib.hid (show R.inst1 p w hs ⟨0, wd, fl, args, imm⟩ = ⟨0, wd, fl, args, imm⟩ from by unfold R.inst1; simp [hwd0])
          have HOf := Lib.hid (rOf_any wd imm w1 (B.isWd_iff.2 ⟨by omega, by omega⟩) (by omega) (by omega))
          have hmod : imm % B.pw wd = imm := by
            have h := B.isW_iff.1 (Hcst.out rfl hwd0)
            exact Int.emod_eq_of_lt (by omega) (by omega)
          rw [hmod] at HOf
          clear hmod
          have hr9 := heap_setCell_same w1 wr.heap.size 4 _ _ (.int .u32 (imm)) Hrow1.out
          have Hrow9 := Lib.hid (show (w1.setCell ⟨wr.heap.size, 4, none⟩ (.int .u32 (imm))).heap[wr.heap.size]? = some (.cells #[.int .i64 0, .int .i64 wd, .int .i64 fl, .slice A args.length c, .int .u32 (imm)] 41 (0, 0)) from hr9)
          have Hside9 := Lib.hid (Hside1.out.set0 4 (.int .u32 (imm)))
          have Harg9 := Lib.hid (Harg1.out.set 4 (.int .u32 (imm)))
          clear hr9
          obtain ⟨m0, m1, m2, m3, m4, _⟩ := nd5_all Hrow9.out
          have hgE := Hside9.out.row Hg.out
          have HgE := Lib.hid hgE
          obtain ⟨u0, u1, u2, u3, u4, hu0, hu1, hu2, hu3, hu4⟩ : ∃ u0 u1 u2 u3 u4, (w1.setCell ⟨wr.heap.size, 4, none⟩ (.int .u32 (imm))).cell? ⟨g, off + j * 5, none⟩ = some u0 ∧ (w1.setCell ⟨wr.heap.size, 4, none⟩ (.int .u32 (imm))).cell? ⟨g, off + j * 5 + 1, none⟩ = some u1 ∧ (w1.setCell ⟨wr.heap.size, 4, none⟩ (.int .u32 (imm))).cell? ⟨g, off + j * 5 + 2, none⟩ = some u2 ∧ (w1.setCell ⟨wr.heap.size, 4, none⟩ (.int .u32 (imm))).cell? ⟨g, off + j * 5 + 3, none⟩ = some u3 ∧ (w1.setCell ⟨wr.heap.size, 4, none⟩ (.int .u32 (imm))).cell? ⟨g, off + j * 5 + 4, none⟩ = some u4 := by
            have hcs := Hc.out
            refine ⟨cur[off + j * 5], cur[off + j * 5 + 1], cur[off + j * 5 + 2], cur[off + j * 5 + 3], cur[off + j * 5 + 4], ?_, ?_, ?_, ?_, ?_⟩ <;> (rw [cell_of_row _ _ _ _ _ (0, 0) hgE]; exact Array.getElem?_eq_getElem _)
          have v0 := frozen_row hgE (off + j * 5)
          have v1 := frozen_row hgE (off + j * 5 + 1)
          have v2 := frozen_row hgE (off + j * 5 + 2)
          have v3 := frozen_row hgE (off + j * 5 + 3)
          have v4 := frozen_row hgE (off + j * 5 + 4)
          have HX := Lib.hid (show OwnR (NdF W.heap.size) W.heap.size (st5 (w1.setCell ⟨wr.heap.size, 4, none⟩ (.int .u32 (imm))) g (off + j * 5) (.int .i64 0) (.int .i64 (wd)) (.int .i64 (fl)) (.slice A args.length c) (.int .u32 (imm))) (.slice (some ⟨g, off, none⟩) n cv) (((R.inst p w hs).take j ++ p.drop j).set j ⟨0, wd, fl, args, imm⟩) from OwnR.put5 (y := ⟨0, wd, fl, args, imm⟩) (A2 := A) (c2 := c) Hside9.out.own5 Hlj.out hjn HgE.out Hc.out (ArgF.nd (x := ⟨0, wd, fl, args, imm⟩) Harg9.out Hi.out.1 Hi.out.2))
          rw [← He.out, Hel.out] at HX
          have HbX := Lib.hid (st5_below (off + j * 5) (.int .i64 0) (.int .i64 (wd)) (.int .i64 (fl)) (.slice A args.length c) (.int .u32 (imm)) Hside9.out.b5 HB.out)
          clear hgE
          go_wp2_with fail
          (with_reducible refine HOf.out.mono ?_)
          rintro e w6 ⟨rfl, rfl⟩
          go_wp2
          go_roundg (gk - 1)
          case measure => have := Hgk.out; omega
          case rel =>
            have := Hgk.out
            exact ⟨j + 1, by omega, by go_num, by omega, HbX, HX⟩
      · have h0 := hop
        clear hop
        by_cases hop : op = 34
        · subst hop
          obtain ⟨hwd0, him⟩ := Hhole.out rfl
          have hfl0 := R.fl0 Hfl.out (.inl rfl)
          have har := Hleaf.out (.inr rfl)
          subst hwd0 hfl0 har
          obtain ⟨h, rfl⟩ : ∃ h : Nat, imm = h := ⟨imm.toNat, by omega⟩
          have hh2 : h < 2 := by omega
          obtain ⟨m, bh, offh, u, hm, rfl, hbh, hc, rfl⟩ := HH.out.at_ hh2
          have hmw := Hh.out.2 m (List.mem_of_getElem? hm)
          have He := Lib.hid (show R.inst1 p w hs ⟨34, 0, 0, [], (h : Int)⟩ = ⟨0, w, 0, [], m⟩ from by
            unfold R.inst1
            have e : hs.getD ((h : Int)).toNat 0 = m := by rw [Int.toNat_natCast, List.getD_eq_getElem?_getD, hm]; rfl
            simp only [if_true, e])
          have hr2 := heap_setCell_same w1 wr.heap.size 1 _ _ (.int .i64 w) Hrow1.out
          have Hrow2 := Lib.hid (show (w1.setCell ⟨wr.heap.size, 1, none⟩ (.int .i64 w)).heap[wr.heap.size]? = some (.cells #[.int .i64 34, .int .i64 w, .int .i64 0, .slice A 0 c, .int .u32 (h : Int)] 41 (0, 0)) from hr2)
          have Hside2 := Lib.hid (Hside1.out.set0 1 (.int .i64 w))
          have Harg2 := Lib.hid (Harg1.out.set 1 (.int .i64 w))
          clear hr2
          obtain ⟨y0, y1, y2, y3, y4, g0, g1, g2, g3, g4⟩ := nd5_all Hrow2.out
          have kh4 : (w1.setCell ⟨wr.heap.size, 1, none⟩ (.int .i64 w)).cell? ⟨bh, offh + h, none⟩ = some (.int .u32 m) := (Hside2.out.b5.cell (p := ⟨bh, offh + h, none⟩) hbh).trans hc
          have Hm := Lib.hid (isW_u32 hmw.2 hmw.1)
          clear hm hbh hc hmw
          go_upto_region 12 with (fail)
          generalize (w1.setCell ⟨wr.heap.size, 1, none⟩ (.int .i64 w)) = w2 at *
          have Hrow9 := Lib.hid (show ((((((w2).setCell ⟨wr.heap.size, 0, none⟩ (.int .i64 0)).setCell ⟨wr.heap.size, 1, none⟩ (.int .i64 w)).setCell ⟨wr.heap.size, 2, none⟩ (.int .i64 0)).setCell ⟨wr.heap.size, 3, none⟩ (.slice none 0 0)).setCell ⟨wr.heap.size, 4, none⟩ (.int .u32 (m))).heap[wr.heap.size]? = some (.cells #[.int .i64 0, .int .i64 w, .int .i64 0, .slice none 0 0, .int .u32 (m)] 41 (0, 0)) from st5_new _ _ _ _ _ Hrow2.out)
          have Hside9 := Lib.hid (show Side W wr (.slice (some ⟨g, off, none⟩) n cv) ((R.inst p w hs).take j ++ p.drop j) ((((((w2).setCell ⟨wr.heap.size, 0, none⟩ (.int .i64 0)).setCell ⟨wr.heap.size, 1, none⟩ (.int .i64 w)).setCell ⟨wr.heap.size, 2, none⟩ (.int .i64 0)).setCell ⟨wr.heap.size, 3, none⟩ (.slice none 0 0)).setCell ⟨wr.heap.size, 4, none⟩ (.int .u32 (m))) from ((((Hside2.out.set0 0 _).set0 1 _).set0 2 _).set0 3 _).set0 4 _)
          have Harg9 := Lib.hid (show ArgF W.heap.size wr.heap.size ((((((w2).setCell ⟨wr.heap.size, 0, none⟩ (.int .i64 0)).setCell ⟨wr.heap.size, 1, none⟩ (.int .i64 w)).setCell ⟨wr.heap.size, 2, none⟩ (.int .i64 0)).setCell ⟨wr.heap.size, 3, none⟩ (.slice none 0 0)).setCell ⟨wr.heap.size, 4, none⟩ (.int .u32 (m))) none 0 [] from ⟨OwnAt.nil_ _ _ _, fun g hg => by simp [Value.ownBlock] at hg⟩)
          go_upto_region 17 with (fail)
          generalize ((((((w2).setCell ⟨wr.heap.size, 0, none⟩ (.int .i64 0)).setCell ⟨wr.heap.size, 1, none⟩ (.int .i64 w)).setCell ⟨wr.heap.size, 2, none⟩ (.int .i64 0)).setCell ⟨wr.heap.size, 3, none⟩ (.slice none 0 0)).setCell ⟨wr.heap.size, 4, none⟩ (.int .u32 (m))) = w9 at *
          clear y0 y1 y2 y3 y4 g0 g1 g2 g3 g4 kh4
          obtain ⟨m0, m1, m2, m3, m4, _⟩ := nd5_all Hrow9.out
          have hgE := Hside9.out.row Hg.out
          have HgE := Lib.hid hgE
          obtain ⟨u0, u1, u2, u3, u4, hu0, hu1, hu2, hu3, hu4⟩ : ∃ u0 u1 u2 u3 u4, w9.cell? ⟨g, off + j * 5, none⟩ = some u0 ∧ w9.cell? ⟨g, off + j * 5 + 1, none⟩ = some u1 ∧ w9.cell? ⟨g, off + j * 5 + 2, none⟩ = some u2 ∧ w9.cell? ⟨g, off + j * 5 + 3, none⟩ = some u3 ∧ w9.cell? ⟨g, off + j * 5 + 4, none⟩ = some u4 := by
            have hcs := Hc.out
            refine ⟨cur[off + j * 5], cur[off + j * 5 + 1], cur[off + j * 5 + 2], cur[off + j * 5 + 3], cur[off + j * 5 + 4], ?_, ?_, ?_, ?_, ?_⟩ <;> (rw [cell_of_row _ _ _ _ _ (0, 0) hgE]; exact Array.getElem?_eq_getElem _)
          have v0 := frozen_row hgE (off + j * 5)
          have v1 := frozen_row hgE (off + j * 5 + 1)
          have v2 := frozen_row hgE (off + j * 5 + 2)
          have v3 := frozen_row hgE (off + j * 5 + 3)
          have v4 := frozen_row hgE (off + j * 5 + 4)
          have HX := Lib.hid (show OwnR (NdF W.heap.size) W.heap.size (st5 w9 g (off + j * 5) (.int .i64 0) (.int .i64 (w)) (.int .i64 (0)) (.slice none 0 0) (.int .u32 (m))) (.slice (some ⟨g, off, none⟩) n cv) (((R.inst p w hs).take j ++ p.drop j).set j ⟨0, w, 0, [], m⟩) from OwnR.put5 (y := ⟨0, w, 0, [], m⟩) (A2 := none) (c2 := 0) Hside9.out.own5 Hlj.out hjn HgE.out Hc.out (ArgF.nd (x := ⟨0, w, 0, [], m⟩) Harg9.out Hm.out.1 Hm.out.2))
          rw [← He.out, Hel.out] at HX
          have HbX := Lib.hid (st5_below (off + j * 5) (.int .i64 0) (.int .i64 (w)) (.int .i64 (0)) (.slice none 0 0) (.int .u32 (m)) Hside9.out.b5 HB.out)
          clear hgE
          go_wp2
          go_roundg (gk - 1)
          case measure => have := Hgk.out; omega
          case rel =>
            have := Hgk.out
            exact ⟨j + 1, by omega, by go_num, by omega, HbX, HX⟩
        · have h34 := hop
          clear hop
          by_cases hop : op = 35
          · subst hop
            obtain ⟨hwd0, a, ha, haj, ho34⟩ := Htrail.out rfl
            have hfl0 := R.fl0 Hfl.out (.inr rfl)
            subst hwd0 hfl0
            have hpos : 0 < args.length := by rw [ha]; simp
            obtain ⟨z, bp, offp, Az, cz, hz, rfl, hbp, _, _, _, hz3, _, hsz, _, _⟩ := nd_cells HP.out hjn
            obtain rfl : z = ⟨35, 0, 0, args, imm⟩ := by rw [Hx.out] at hz; exact (Option.some.inj hz).symm
            dsimp only at hz3 hsz
            obtain ⟨y, b2, off2, A3, c3, hy, hb2, hbl, _, _, _, _, hy4, _, _, _⟩ := nd_cells HP.out (show a < n by omega)
            injection hb2 with hb2
            injection hb2 with hb2 hb3 _
            subst hb2
            subst hb3
            have hyo : y.op = 34 := by rw [List.getD_eq_getElem?_getD, hy] at ho34; exact ho34
            obtain ⟨_, hyi⟩ := R.pnode_hole (Hp.out a y hy) hyo
            have hyi0 := nd_imm HP.out y (List.mem_of_getElem? hy)
            obtain ⟨h, hh⟩ : ∃ h : Nat, y.imm = h := ⟨y.imm.toNat, by omega⟩
            rw [hh] at hy4
            have hh2 : h < 2 := by omega
            obtain ⟨m, bh, offh, u, hm, rfl, hbh, hc, rfl⟩ := HH.out.at_ hh2
            obtain ⟨a', ba, offa, ua, ha', rfl, hba, hca, rfl⟩ := hsz.at_ hpos
            obtain rfl : a' = (a : Int) := by rw [ha] at ha'; simpa using ha'.symm
            have hmw := Hh.out.2 m (List.mem_of_getElem? hm)
            have He := Lib.hid (show R.inst1 p w hs ⟨35, 0, 0, args, imm⟩ = ⟨0, w, 0, [], B.trl w m % B.pw w⟩ from by
              have e0 : (args.getD 0 0).toNat = a := by rw [ha]; simp
              have e1 : (p.getD a default).imm.toNat = h := by rw [List.getD_eq_getElem?_getD, hy]; show y.imm.toNat = h; omega
              have e2 : hs.getD h 0 = m := by rw [List.getD_eq_getElem?_getD, hm]; rfl
              unfold R.inst1
              dsimp only
              rw [e0, e1, e2, if_neg (by decide), if_pos rfl, if_pos rfl])
            obtain ⟨wN, rfl⟩ : ∃ wN : Nat, w = wN := ⟨w.toNat, by omega⟩
            obtain ⟨mN, rfl⟩ : ∃ mN : Nat, m = mN := ⟨m.toNat, by omega⟩
            have hr2 := heap_setCell_same w1 wr.heap.size 1 _ _ (.int .i64 (wN : Int)) Hrow1.out
            have Hrow2 := Lib.hid (show (w1.setCell ⟨wr.heap.size, 1, none⟩ (.int .i64 (wN : Int))).heap[wr.heap.size]? = some (.cells #[.int .i64 35, .int .i64 (wN : Int), .int .i64 0, .slice A args.length c, .int .u32 imm] 41 (0, 0)) from hr2)
            have Hside2 := Lib.hid (Hside1.out.set0 1 (.int .i64 (wN : Int)))
            have Harg2 := Lib.hid (Harg1.out.set 1 (.int .i64 (wN : Int)))
            clear hr2
            obtain ⟨y0, y1, y2, y3, y4, g0, g1, g2, g3, g4⟩ := nd5_all Hrow2.out
            have hbw4 := Hside2.out.b5
            have kh4 : (w1.setCell ⟨wr.heap.size, 1, none⟩ (.int .i64 (wN : Int))).cell? _ = _ := (hbw4.cell (p := ⟨bh, offh + h, none⟩) hbh).trans hc
            have ka4 : (w1.setCell ⟨wr.heap.size, 1, none⟩ (.int .i64 (wN : Int))).cell? _ = _ := (hbw4.cell (p := ⟨ba, offa, none⟩) hba).trans hca
            have kz4 : (w1.setCell ⟨wr.heap.size, 1, none⟩ (.int .i64 (wN : Int))).cell? _ = _ := (hbw4.cell (p := ⟨bp, offp + j * 5 + 3, none⟩) hbp).trans hz3
            have kp4 : (w1.setCell ⟨wr.heap.size, 1, none⟩ (.int .i64 (wN : Int))).cell? _ = _ := (hbw4.cell (p := ⟨bp, offp + a * 5 + 4, none⟩) hbl).trans hy4
            have HTr := Lib.hid (rTrailing_any wN mN (w1.setCell ⟨wr.heap.size, 1, none⟩ (.int .i64 (wN : Int))) hmw.2 (by have := isW_u32 hmw.2 hmw.1; omega))
            have htr := R.trl_lt (wN : Int) (mN : Int) (by omega)
            have HOf := Lib.hid (rOf_any (wN : Int) (B.trl (wN : Int) (mN : Int)) (w1.setCell ⟨wr.heap.size, 1, none⟩ (.int .i64 (wN : Int))) Hw.out (by omega) (by omega))
            have Hm := Lib.hid (mod_u32 (B.trl (wN : Int) (mN : Int)) hwd.2)
            clear hm hbh hc hmw hy hbl hy4 hyo hyi hyi0 hh ha' hba hca ho34 hbw4 ha hz hz3 hsz hbp
            go_wp2_with fail
            generalize (w1.setCell ⟨wr.heap.size, 1, none⟩ (.int .i64 (wN : Int))) = w2 at *
            (with_reducible refine HTr.out.mono ?_)
            rintro e w6 ⟨rfl, rfl⟩
            go_wp2_with fail
            (with_reducible refine HOf.out.mono ?_)
            rintro e w6 ⟨rfl, rfl⟩
            have Hrow9 := Lib.hid (show ((((((w2).setCell ⟨wr.heap.size, 0, none⟩ (.int .i64 0)).setCell ⟨wr.heap.size, 1, none⟩ (.int .i64 (wN : Int))).setCell ⟨wr.heap.size, 2, none⟩ (.int .i64 0)).setCell ⟨wr.heap.size, 3, none⟩ (.slice none 0 0)).setCell ⟨wr.heap.size, 4, none⟩ (.int .u32 (B.trl (wN : Int) (mN : Int) % B.pw (wN : Int)))).heap[wr.heap.size]? = some (.cells #[.int .i64 0, .int .i64 (wN : Int), .int .i64 0, .slice none 0 0, .int .u32 (B.trl (wN : Int) (mN : Int) % B.pw (wN : Int))] 41 (0, 0)) from st5_new _ _ _ _ _ Hrow2.out)
            have Hside9 := Lib.hid (show Side W wr (.slice (some ⟨g, off, none⟩) n cv) ((R.inst p (wN : Int) hs).take j ++ p.drop j) ((((((w2).setCell ⟨wr.heap.size, 0, none⟩ (.int .i64 0)).setCell ⟨wr.heap.size, 1, none⟩ (.int .i64 (wN : Int))).setCell ⟨wr.heap.size, 2, none⟩ (.int .i64 0)).setCell ⟨wr.heap.size, 3, none⟩ (.slice none 0 0)).setCell ⟨wr.heap.size, 4, none⟩ (.int .u32 (B.trl (wN : Int) (mN : Int) % B.pw (wN : Int)))) from ((((Hside2.out.set0 0 _).set0 1 _).set0 2 _).set0 3 _).set0 4 _)
            have Harg9 := Lib.hid (show ArgF W.heap.size wr.heap.size ((((((w2).setCell ⟨wr.heap.size, 0, none⟩ (.int .i64 0)).setCell ⟨wr.heap.size, 1, none⟩ (.int .i64 (wN : Int))).setCell ⟨wr.heap.size, 2, none⟩ (.int .i64 0)).setCell ⟨wr.heap.size, 3, none⟩ (.slice none 0 0)).setCell ⟨wr.heap.size, 4, none⟩ (.int .u32 (B.trl (wN : Int) (mN : Int) % B.pw (wN : Int)))) none 0 [] from ⟨OwnAt.nil_ _ _ _, fun g hg => by simp [Value.ownBlock] at hg⟩)
            go_upto_region 17 with (fail)
            generalize ((((((w2).setCell ⟨wr.heap.size, 0, none⟩ (.int .i64 0)).setCell ⟨wr.heap.size, 1, none⟩ (.int .i64 (wN : Int))).setCell ⟨wr.heap.size, 2, none⟩ (.int .i64 0)).setCell ⟨wr.heap.size, 3, none⟩ (.slice none 0 0)).setCell ⟨wr.heap.size, 4, none⟩ (.int .u32 (B.trl (wN : Int) (mN : Int) % B.pw (wN : Int)))) = w9 at *
            clear y0 y1 y2 y3 y4 g0 g1 g2 g3 g4 kh4 ka4 kz4 kp4
            obtain ⟨m0, m1, m2, m3, m4, _⟩ := nd5_all Hrow9.out
            have hgE := Hside9.out.row Hg.out
            have HgE := Lib.hid hgE
            obtain ⟨u0, u1, u2, u3, u4, hu0, hu1, hu2, hu3, hu4⟩ : ∃ u0 u1 u2 u3 u4, w9.cell? ⟨g, off + j * 5, none⟩ = some u0 ∧ w9.cell? ⟨g, off + j * 5 + 1, none⟩ = some u1 ∧ w9.cell? ⟨g, off + j * 5 + 2, none⟩ = some u2 ∧ w9.cell? ⟨g, off + j * 5 + 3, none⟩ = some u3 ∧ w9.cell? ⟨g, off + j * 5 + 4, none⟩ = some u4 := by
              have hcs := Hc.out
              refine ⟨cur[off + j * 5], cur[off + j * 5 + 1], cur[off + j * 5 + 2], cur[off + j * 5 + 3], cur[off + j * 5 + 4], ?_, ?_, ?_, ?_, ?_⟩ <;> (rw [cell_of_row _ _ _ _ _ (0, 0) hgE]; exact Array.getElem?_eq_getElem _)
            have v0 := frozen_row hgE (off + j * 5)
            have v1 := frozen_row hgE (off + j * 5 + 1)
            have v2 := frozen_row hgE (off + j * 5 + 2)
            have v3 := frozen_row hgE (off + j * 5 + 3)
            have v4 := frozen_row hgE (off + j * 5 + 4)
            have HX := Lib.hid (show OwnR (NdF W.heap.size) W.heap.size (st5 w9 g (off + j * 5) (.int .i64 0) (.int .i64 (wN : Int)) (.int .i64 (0)) (.slice none 0 0) (.int .u32 (B.trl (wN : Int) (mN : Int) % B.pw (wN : Int)))) (.slice (some ⟨g, off, none⟩) n cv) (((R.inst p (wN : Int) hs).take j ++ p.drop j).set j ⟨0, (wN : Int), 0, [], B.trl (wN : Int) (mN : Int) % B.pw (wN : Int)⟩) from OwnR.put5 (y := ⟨0, (wN : Int), 0, [], B.trl (wN : Int) (mN : Int) % B.pw (wN : Int)⟩) (A2 := none) (c2 := 0) Hside9.out.own5 Hlj.out hjn HgE.out Hc.out (ArgF.nd (x := ⟨0, (wN : Int), 0, [], B.trl (wN : Int) (mN : Int) % B.pw (wN : Int)⟩) Harg9.out Hm.out.1 Hm.out.2))
            rw [← He.out, Hel.out] at HX
            have HbX := Lib.hid (st5_below (off + j * 5) (.int .i64 0) (.int .i64 (wN : Int)) (.int .i64 (0)) (.slice none 0 0) (.int .u32 (B.trl (wN : Int) (mN : Int) % B.pw (wN : Int))) Hside9.out.b5 HB.out)
            clear hgE
            go_wp2
            go_roundg (gk - 1)
            case measure => have := Hgk.out; omega
            case rel =>
              have := Hgk.out
              exact ⟨j + 1, by omega, by go_num, by omega, HbX, HX⟩
          · have h35 := hop
            clear hop
            by_cases hwd0 : wd = 0
            · subst hwd0
              have q0 : (op == 0) = false := by simpa using h0
              have q34 : (op == 34) = false := by simpa using h34
              have q35 : (op == 35) = false := by simpa using h35
              have He := Lib.hid (show R.inst1 p w hs ⟨op, 0, fl, args, imm⟩ = ⟨op, w, fl, args, imm⟩ from by unfold R.inst1; simp [h0, h34, h35])
              have hr2 := heap_setCell_same w1 wr.heap.size 1 _ _ (.int .i64 w) Hrow1.out
              have Hrow2 := Lib.hid (show (w1.setCell ⟨wr.heap.size, 1, none⟩ (.int .i64 w)).heap[wr.heap.size]? = some (.cells #[.int .i64 op, .int .i64 w, .int .i64 fl, .slice A args.length c, .int .u32 imm] 41 (0, 0)) from hr2)
              have Hside2 := Lib.hid (Hside1.out.set0 1 (.int .i64 w))
              have Harg2 := Lib.hid (Harg1.out.set 1 (.int .i64 w))
              clear hr2
              obtain ⟨y0, y1, y2, y3, y4, g0, g1, g2, g3, g4⟩ := nd5_all Hrow2.out
              obtain ⟨m0, m1, m2, m3, m4, _⟩ := nd5_all Hrow2.out
              have hgE := Hside2.out.row Hg.out
              have HgE := Lib.hid hgE
              obtain ⟨u0, u1, u2, u3, u4, hu0, hu1, hu2, hu3, hu4⟩ : ∃ u0 u1 u2 u3 u4, (w1.setCell ⟨wr.heap.size, 1, none⟩ (.int .i64 w)).cell? ⟨g, off + j * 5, none⟩ = some u0 ∧ (w1.setCell ⟨wr.heap.size, 1, none⟩ (.int .i64 w)).cell? ⟨g, off + j * 5 + 1, none⟩ = some u1 ∧ (w1.setCell ⟨wr.heap.size, 1, none⟩ (.int .i64 w)).cell? ⟨g, off + j * 5 + 2, none⟩ = some u2 ∧ (w1.setCell ⟨wr.heap.size, 1, none⟩ (.int .i64 w)).cell? ⟨g, off + j * 5 + 3, none⟩ = some u3 ∧ (w1.setCell ⟨wr.heap.size, 1, none⟩ (.int .i64 w)).cell? ⟨g, off + j * 5 + 4, none⟩ = some u4 := by
                have hcs := Hc.out
                refine ⟨cur[off + j * 5], cur[off + j * 5 + 1], cur[off + j * 5 + 2], cur[off + j * 5 + 3], cur[off + j * 5 + 4], ?_, ?_, ?_, ?_, ?_⟩ <;> (rw [cell_of_row _ _ _ _ _ (0, 0) hgE]; exact Array.getElem?_eq_getElem _)
              have v0 := frozen_row hgE (off + j * 5)
              have v1 := frozen_row hgE (off + j * 5 + 1)
              have v2 := frozen_row hgE (off + j * 5 + 2)
              have v3 := frozen_row hgE (off + j * 5 + 3)
              have v4 := frozen_row hgE (off + j * 5 + 4)
              have HX := Lib.hid (show OwnR (NdF W.heap.size) W.heap.size (st5 (w1.setCell ⟨wr.heap.size, 1, none⟩ (.int .i64 w)) g (off + j * 5) (.int .i64 op) (.int .i64 (w)) (.int .i64 (fl)) (.slice A args.length c) (.int .u32 (imm))) (.slice (some ⟨g, off, none⟩) n cv) (((R.inst p w hs).take j ++ p.drop j).set j ⟨op, w, fl, args, imm⟩) from OwnR.put5 (y := ⟨op, w, fl, args, imm⟩) (A2 := A) (c2 := c) Hside2.out.own5 Hlj.out hjn HgE.out Hc.out (ArgF.nd (x := ⟨op, w, fl, args, imm⟩) Harg2.out Hi.out.1 Hi.out.2))
              rw [← He.out, Hel.out] at HX
              have HbX := Lib.hid (st5_below (off + j * 5) (.int .i64 op) (.int .i64 (w)) (.int .i64 (fl)) (.slice A args.length c) (.int .u32 (imm)) Hside2.out.b5 HB.out)
              clear hgE
              go_wp2
              go_roundg (gk - 1)
              case measure => have := Hgk.out; omega
              case rel =>
                have := Hgk.out
                exact ⟨j + 1, by omega, by go_num, by omega, HbX, HX⟩
            · have qw : (wd == 0) = false := by simpa using hwd0
              have q0 : (op == 0) = false := by simpa using h0
              have q34 : (op == 34) = false := by simpa using h34
              have q35 : (op == 35) = false := by simpa using h35
              have He := Lib.hid (show R.inst1 p w hs ⟨op, wd, fl, args, imm⟩ = ⟨op, wd, fl, args, imm⟩ from by unfold R.inst1; simp [hwd0, h0, h34, h35])
              obtain ⟨m0, m1, m2, m3, m4, _⟩ := nd5_all Hrow1.out
              have hgE := Hside1.out.row Hg.out
              have HgE := Lib.hid hgE
              obtain ⟨u0, u1, u2, u3, u4, hu0, hu1, hu2, hu3, hu4⟩ : ∃ u0 u1 u2 u3 u4, w1.cell? ⟨g, off + j * 5, none⟩ = some u0 ∧ w1.cell? ⟨g, off + j * 5 + 1, none⟩ = some u1 ∧ w1.cell? ⟨g, off + j * 5 + 2, none⟩ = some u2 ∧ w1.cell? ⟨g, off + j * 5 + 3, none⟩ = some u3 ∧ w1.cell? ⟨g, off + j * 5 + 4, none⟩ = some u4 := by
                have hcs := Hc.out
                refine ⟨cur[off + j * 5], cur[off + j * 5 + 1], cur[off + j * 5 + 2], cur[off + j * 5 + 3], cur[off + j * 5 + 4], ?_, ?_, ?_, ?_, ?_⟩ <;> (rw [cell_of_row _ _ _ _ _ (0, 0) hgE]; exact Array.getElem?_eq_getElem _)
              have v0 := frozen_row hgE (off + j * 5)
              have v1 := frozen_row hgE (off + j * 5 + 1)
              have v2 := frozen_row hgE (off + j * 5 + 2)
              have v3 := frozen_row hgE (off + j * 5 + 3)
              have v4 := frozen_row hgE (off + j * 5 + 4)
              have HX := Lib.hid (show OwnR (NdF W.heap.size) W.heap.size (st5 w1 g (off + j * 5) (.int .i64 op) (.int .i64 (wd)) (.int .i64 (fl)) (.slice A args.length c) (.int .u32 (imm))) (.slice (some ⟨g, off, none⟩) n cv) (((R.inst p w hs).take j ++ p.drop j).set j ⟨op, wd, fl, args, imm⟩) from OwnR.put5 (y := ⟨op, wd, fl, args, imm⟩) (A2 := A) (c2 := c) Hside1.out.own5 Hlj.out hjn HgE.out Hc.out (ArgF.nd (x := ⟨op, wd, fl, args, imm⟩) Harg1.out Hi.out.1 Hi.out.2))
              rw [← He.out, Hel.out] at HX
              have HbX := Lib.hid (st5_below (off + j * 5) (.int .i64 op) (.int .i64 (wd)) (.int .i64 (fl)) (.slice A args.length c) (.int .u32 (imm)) Hside1.out.b5 HB.out)
              clear hgE
              go_wp2
              go_roundg (gk - 1)
              case measure => have := Hgk.out; omega
              case rel =>
                have := Hgk.out
                exact ⟨j + 1, by omega, by go_num, by omega, HbX, HX⟩
    · obtain rfl : j = n := by omega
      have e : (R.inst p w hs).take j = R.inst p w hs := List.take_of_length_le (by rw [R.inst_len, Hl.out]; exact Nat.le_refl _)
      have e2 : p.drop j = [] := List.drop_eq_nil_iff.2 (by rw [Hl.out]; exact Nat.le_refl _)
      rw [e, e2, List.append_nil] at Hown
      go_wp2
      go_ret
      exact ⟨_, rfl, Hown.out, Hbw.out⟩
end Go.Proofs.YtmebpgggfppmhaaDoor
