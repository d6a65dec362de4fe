/- Merged: QJ1, QJ2. -/
import Derived.Test.YtcmlmjbpdaecbaaGreatA21
set_option linter.unusedVariables false
set_option linter.unusedSimpArgs false
section
namespace Go.Proofs.YtcmlmjbpdaecbaaGreat
open Go.RowKit Go.MapKept Go.Maps Go.WideMaps
set_option linter.unusedVariables false
set_option linter.unusedSimpArgs false

theorem rkKeyed : Keyed Tryz.prog 95 := Keyed.of_law (deep_law_laid (by kernel_rfl) (m := 3) (by omega) (of_decide_eq_true (by kernel_rfl)) (by kernel_rfl) (by kernel_rfl))
theorem keyOf_rk {k : E.Opn} (h : OWf k) : ∃ l, keyOf Tryz.prog 95 (opV k) = some l := by
  obtain ⟨h1, h2, h4, h5, h6, h7⟩ := h
  have f1 : Tryz.prog.keyType 95 = true := by kernel_rfl
  have f2 : Tryz.prog.cellsOf 95 = 6 := by kernel_rfl
  have f4 : Tryz.prog.cellsOf 3 = 1 := by kernel_rfl
  have f5 : Tryz.prog.cellsOf 61 = 1 := by kernel_rfl
  obtain ⟨d, hd⟩ : ∃ d, Tryz.prog.types.size + 1 = d + 4 := ⟨Tryz.prog.types.size - 3, by have : 3 ≤ Tryz.prog.types.size := of_decide_eq_true (by kernel_rfl); omega⟩
  have hL : Tryz.prog.keyLits (Tryz.prog.types.size + 1) 95 (opV k).cells.toList = some [.int .i64 k.op, .int .i64 k.w, .int .u32 k.imm, .int .i64 k.a0, .int .i64 k.a1, .int .i64 k.a2] := by
    rw [hd]
    unfold Program.keyLits
    simp only [Tryz.underlying95, f2]
    simp only [opV, Value.cells]
    refine (if_pos ⟨rfl, by kernel_rfl⟩).trans ?_
    simp only [List.mapM_cons, List.mapM_nil, f4, f5, List.drop_zero, List.drop_succ_cons, List.take_succ_cons, List.take_zero]
    rw [keyLits_int Tryz.underlying3 (d + 2) (lit_i64 h1), keyLits_int Tryz.underlying3 (d + 2) (lit_i64 h2), keyLits_int Tryz.underlying61 (d + 2) (lit_u32 h4), keyLits_int Tryz.underlying3 (d + 2) (lit_i64 h5), keyLits_int Tryz.underlying3 (d + 2) (lit_i64 h6), keyLits_int Tryz.underlying3 (d + 2) (lit_i64 h7)]
    rfl
  have hf : (opV k).formed Tryz.prog 95 = true := by simp [Value.formed, Tryz.underlying95, f2, opV]
  unfold keyOf
  simp only [Tryz.underlying95, f1, hf, hL, Bool.and_self, if_true, Option.map_some]
  exact ⟨_, rfl⟩

set_option maxRecDepth 100000 in
set_option maxHeartbeats 1000000 in
theorem rfind_any {p : List Nat} {b n ca : Nat} {A : Option Addr} {W : World} (hrow : W.cell? ⟨b, 0, none⟩ = some (.slice A n ca)) (hp : SlAt (IntR .i64) W A n (ini p)) (hd : E.Down p) (c : Nat) (hc : c < p.length) :
    Calls Tryz.prog 37 #[.pointer (some ⟨b, 0, none⟩), .int .i64 (c : Int)] W fun e W' => e = .returned (.int .i64 (E.root p c : Nat)) ∧ W' = W := by
  have hn : p.length = n := by have := hp.len; rw [ini_len] at this; exact this
  have hle := hp.le
  have Hp := Lib.hid hp
  have Hd := Lib.hid hd
  have Hn := Lib.hid hn
  have Hc := Lib.hid hc
  clear hp hd hn hc
  go_enter Tryz.func37, Tryz.ntmps37
  go_wp2
  go_loopg [1] c (fun gg i wr => ∃ (j : Nat), i = .int .i64 (j : Int) ∧ gg = j ∧ Hid (j ≤ c ∧ E.root p j = E.root p c) ∧ wr = W)
  case atStart => exact ⟨c, rfl, rfl, Lib.hid ⟨Nat.le_refl _, rfl⟩, rfl⟩
  case round =>
    obtain ⟨j, rfl, hgk, Hj, rfl⟩ := hrel
    have Hgk := Lib.hid hgk; clear hgk
    have hjn : j < n := by have := Hj.out.1; have := Hc.out; have := Hn.out; omega
    obtain ⟨x, ba, off, u, hx, rfl, hba, hcell, rfl⟩ := Hp.out.at_ hjn
    obtain ⟨d, rfl, hd'⟩ := ini_some hx
    obtain ⟨d1, d2, d3⟩ := E.root_next Hd.out hd'
    have D2 := Lib.hid d2
    have D3 := Lib.hid d3
    clear hx hd' d2 d3 hba
    by_cases hdj : d = j
    · subst hdj
      have hres := D2.out rfl
      have Hres := Lib.hid hres
      clear hres
      go_wp2
      go_ret
      exact ⟨congrArg (fun n : Nat => Ending.returned (Value.int .i64 (n : Int))) (show d = E.root p c from Hres.out.symm.trans Hj.out.2), rfl⟩
    · have hne : (d : Int) ≠ (j : Int) := by omega
      have D1 := Lib.hid d1
      have Hdj := Lib.hid hdj
      clear d1 hdj
      go_wp2
      go_roundg d
      case measure => have := Hgk.out; have := D1.out; have := Hdj.out; omega
      case rel =>
        have := D1.out
        exact ⟨d, rfl, rfl, Lib.hid ⟨by have := Hj.out.1; omega, D3.out.trans Hj.out.2⟩, rfl⟩
set_option maxRecDepth 100000 in
set_option maxHeartbeats 4000000 in
theorem rcanon_any {p : List Nat} {b n ca : Nat} {A : Option Addr} {W : World} {x : E.Opn} (hb : b < W.heap.size) (hrow : W.cell? ⟨b, 0, none⟩ = some (.slice A n ca)) (hp : SlAt (IntR .i64) W A n (ini p)) (hd : E.Down p) (hx : E.Ar p.length x) :
    Calls Tryz.prog 105 #[.pointer (some ⟨b, 0, none⟩), opV x] W fun e W' => e = .returned (opV (E.can p x)) ∧ Below W.heap.size W W' := by
  obtain ⟨W2, hW2⟩ : ∃ W2, W2 = (W.alloc (.cells #[.int .i64 x.op, .int .i64 x.w, .int .u32 x.imm, .int .i64 x.a0, .int .i64 x.a1, .int .i64 x.a2] 95)).alloc (.cells #[.int .i64 0, .int .i64 0, .int .u32 0, .int .i64 0, .int .i64 0, .int .i64 0] 95) := ⟨_, rfl⟩
  have hb2 : Below W.heap.size W W2 := by rw [hW2]; exact ((Below.refl _ _).alloc (Nat.le_refl _) _).alloc (by simp) _
  have hr0 : W2.heap[W.heap.size]? = some (.cells (opC (E.canTo p 0 x)) 95 (0, 0)) := by rw [hW2]; exact row_alloc (heap_alloc_new W _) _
  have hr1 : W2.heap[W.heap.size + 1]? = some (.cells #[.int .i64 0, .int .i64 0, .int .u32 0, .int .i64 0, .int .i64 0, .int .i64 0] 95 (0, 0)) := by rw [hW2]; exact new_two W _ _
  have Hcall := Lib.hid (show ∀ X, Below W.heap.size W X → ∀ c, c < p.length → Calls Tryz.prog 37 #[.pointer (some ⟨b, 0, none⟩), .int .i64 (c : Int)] X fun e W' => e = .returned (.int .i64 (E.root p c : Nat)) ∧ W' = X from fun X hX c hc =>
    rfind_any ((hX.cell (p := ⟨b, 0, none⟩) hb).trans hrow) (hp.below (monoInt _) hX) hd c hc)
  have c3 : W2.cell? ⟨W.heap.size, 3, none⟩ = some (.int .i64 x.a0) := by rw [cell_of_row _ _ _ _ _ (0, 0) hr0]; rfl
  have Hw := Lib.hid (show Below W.heap.size W W2 ∧ W2.heap[W.heap.size]? = some (.cells (opC (E.canTo p 0 x)) 95 (0, 0)) ∧ W2.heap[W.heap.size + 1]? = some (.cells #[.int .i64 0, .int .i64 0, .int .u32 0, .int .i64 0, .int .i64 0, .int .i64 0] 95 (0, 0)) from ⟨hb2, hr0, hr1⟩)
  have Hx := Lib.hid hx
  clear hb hrow hp hd hb2 hr0 hr1 hx
  unfold opV
  go_enter Tryz.func105, Tryz.ntmps105
  go_upto_region 1 with (fail)
  rw [← hW2]
  clear hW2
  -- operand 0
  go_upto_if 7 with (fail)
  go_cut [4] (fun s4 wx => s4 = .pointer (some ⟨W.heap.size + 1, 0, none⟩) ∧ Hid (Below W.heap.size W wx ∧ wx.heap[W.heap.size]? = some (.cells (opC (E.canTo p 1 x)) 95 (0, 0)) ∧ wx.heap[W.heap.size + 1]? = some (.cells #[.int .i64 0, .int .i64 0, .int .u32 0, .int .i64 0, .int .i64 0, .int .i64 0] 95 (0, 0))))
  case first =>
    by_cases ha : x.a0 = -1
    · have q : ¬ x.a0 ≥ 0 := by omega
      have Ha := Lib.hid ha
      clear ha
      go_wp2_with fail
      go_meet
      exact ⟨rfl, Lib.hid ⟨Hw.out.1, by rw [Hw.out.2.1]; simp [opC, E.canTo, Ha.out, E.cr_none], Hw.out.2.2⟩⟩
    · obtain ⟨c, hc, hcl, hcr⟩ := E.cr_class Hx.out.1 ha
      have q : x.a0 ≥ 0 := by omega
      have hcc := Hcall.out _ Hw.out.1 c hcl
      rw [← hc] at hcc
      have Hcc := Lib.hid hcc
      have Hcr := Lib.hid hcr
      have hf := frozen_row Hw.out.2.1 3
      clear hcl hcr hcc hc ha
      go_wp2_with fail
      (with_reducible refine Hcc.out.mono ?_)
      rintro e w9 ⟨rfl, rfl⟩
      go_wp2_with fail
      go_meet
      refine ⟨rfl, Lib.hid ⟨Hw.out.1.setCell (p := ⟨W.heap.size, 3, none⟩) (Nat.le_refl _) _, ?_, ?_⟩⟩
      · rw [heap_setCell_same _ _ 3 _ _ _ Hw.out.2.1]
        simp [opC, E.canTo, Hcr.out]
      · exact (heap_setCell_other _ _ _ _ (by simp)).trans Hw.out.2.2
  case rest =>
  clear c3
  obtain ⟨rfl, Hw'⟩ := hcut
  obtain ⟨w3, hw⟩ : ∃ w, w = wc := ⟨_, rfl⟩
  rw [← hw] at Hw' ⊢
  clear hw Hw
  have Hw := Hw'
  clear Hw'
  have c4 : w3.cell? ⟨W.heap.size, 4, none⟩ = some (.int .i64 x.a1) := by rw [cell_of_row _ _ _ _ _ (0, 0) Hw.out.2.1]; rfl
  -- operand 1
  go_upto_if 15 with (fail)
  go_cut [4] (fun s4 wx => s4 = .pointer (some ⟨W.heap.size + 1, 0, none⟩) ∧ Hid (Below W.heap.size W wx ∧ wx.heap[W.heap.size]? = some (.cells (opC (E.canTo p 2 x)) 95 (0, 0)) ∧ wx.heap[W.heap.size + 1]? = some (.cells #[.int .i64 0, .int .i64 0, .int .u32 0, .int .i64 0, .int .i64 0, .int .i64 0] 95 (0, 0))))
  case first =>
    by_cases ha : x.a1 = -1
    · have q : ¬ x.a1 ≥ 0 := by omega
      have Ha := Lib.hid ha
      clear ha
      go_wp2_with fail
      go_meet
      exact ⟨rfl, Lib.hid ⟨Hw.out.1, by rw [Hw.out.2.1]; simp [opC, E.canTo, Ha.out, E.cr_none], Hw.out.2.2⟩⟩
    · obtain ⟨c, hc, hcl, hcr⟩ := E.cr_class Hx.out.2.1 ha
      have q : x.a1 ≥ 0 := by omega
      have hcc := Hcall.out _ Hw.out.1 c hcl
      rw [← hc] at hcc
      have Hcc := Lib.hid hcc
      have Hcr := Lib.hid hcr
      have hf := frozen_row Hw.out.2.1 4
      clear hcl hcr hcc hc ha
      go_wp2_with fail
      (with_reducible refine Hcc.out.mono ?_)
      rintro e w9 ⟨rfl, rfl⟩
      go_wp2_with fail
      go_meet
      refine ⟨rfl, Lib.hid ⟨Hw.out.1.setCell (p := ⟨W.heap.size, 4, none⟩) (Nat.le_refl _) _, ?_, ?_⟩⟩
      · rw [heap_setCell_same _ _ 4 _ _ _ Hw.out.2.1]
        simp [opC, E.canTo, Hcr.out]
      · exact (heap_setCell_other _ _ _ _ (by simp)).trans Hw.out.2.2
  case rest =>
  clear c4
  obtain ⟨rfl, Hw'⟩ := hcut
  obtain ⟨w4, hw⟩ : ∃ w, w = wc := ⟨_, rfl⟩
  rw [← hw] at Hw' ⊢
  clear hw Hw
  have Hw := Hw'
  clear Hw'
  have c5 : w4.cell? ⟨W.heap.size, 5, none⟩ = some (.int .i64 x.a2) := by rw [cell_of_row _ _ _ _ _ (0, 0) Hw.out.2.1]; rfl
  -- operand 2
  go_upto_if 23 with (fail)
  go_cut [4] (fun s4 wx => s4 = .pointer (some ⟨W.heap.size + 1, 0, none⟩) ∧ Hid (Below W.heap.size W wx ∧ wx.heap[W.heap.size]? = some (.cells (opC (E.canTo p 3 x)) 95 (0, 0)) ∧ wx.heap[W.heap.size + 1]? = some (.cells #[.int .i64 0, .int .i64 0, .int .u32 0, .int .i64 0, .int .i64 0, .int .i64 0] 95 (0, 0))))
  case first =>
    by_cases ha : x.a2 = -1
    · have q : ¬ x.a2 ≥ 0 := by omega
      have Ha := Lib.hid ha
      clear ha
      go_wp2_with fail
      go_meet
      exact ⟨rfl, Lib.hid ⟨Hw.out.1, by rw [Hw.out.2.1]; simp [opC, E.canTo, Ha.out, E.cr_none], Hw.out.2.2⟩⟩
    · obtain ⟨c, hc, hcl, hcr⟩ := E.cr_class Hx.out.2.2 ha
      have q : x.a2 ≥ 0 := by omega
      have hcc := Hcall.out _ Hw.out.1 c hcl
      rw [← hc] at hcc
      have Hcc := Lib.hid hcc
      have Hcr := Lib.hid hcr
      have hf := frozen_row Hw.out.2.1 5
      clear hcl hcr hcc hc ha
      go_wp2_with fail
      (with_reducible refine Hcc.out.mono ?_)
      rintro e w9 ⟨rfl, rfl⟩
      go_wp2_with fail
      go_meet
      refine ⟨rfl, Lib.hid ⟨Hw.out.1.setCell (p := ⟨W.heap.size, 5, none⟩) (Nat.le_refl _) _, ?_, ?_⟩⟩
      · rw [heap_setCell_same _ _ 5 _ _ _ Hw.out.2.1]
        simp [opC, E.canTo, Hcr.out]
      · exact (heap_setCell_other _ _ _ _ (by simp)).trans Hw.out.2.2
  case rest =>
  clear c5
  obtain ⟨rfl, Hw'⟩ := hcut
  obtain ⟨w5, hw⟩ : ∃ w, w = wc := ⟨_, rfl⟩
  rw [← hw] at Hw' ⊢
  clear hw Hw
  have Hw := Hw'
  clear Hw'
  have hsz : W.heap.size + 1 < w5.heap.size := (Array.getElem?_eq_some_iff.1 Hw.out.2.2).1
  have hr := Hw.out.2.1
  rw [E.canTo_all] at hr
  unfold opC at hr
  obtain ⟨y0, y1, y2, y3, y4, y5⟩ := op6_cells hr
  have f0 := fun k => frozen_row Hw.out.2.2 k
  have z0 := f0 0
  have z1 := f0 1
  have z2 := f0 2
  have z3 := f0 3
  have z4 := f0 4
  have z5 := f0 5
  obtain ⟨v0, v1, v2, v3, v4, v5⟩ := op6_cells Hw.out.2.2
  clear f0
  generalize hq : E.can p x = q at *
  clear hr
  go_wp2
  refine bodyPost_ret (results_cell_row rfl _ _ (W.heap.size + 1) 95 (opC q) (0, 0) _ rfl (set6_row Hw.out.2.2 _ _ _ _ _ _) Tryz.underlying95 rfl (by kernel_rfl)) rfl ?_
  exact ⟨by subst hq; rfl, set6_below Hw.out.1 (by omega) _ _ _ _ _ _⟩
end Go.Proofs.YtcmlmjbpdaecbaaGreat
end
section
namespace Go.Proofs.YtcmlmjbpdaecbaaGreat
open Go.RowKit Go.MapKept Go.Maps Go.WideMaps
set_option linter.unusedVariables false
set_option linter.unusedSimpArgs false

/-- the parts of a graph of the reference: parents, widths, the table, names, the widths of variables -/
structure RGC (w : World) (b : Nat) (p : List Nat) (wd : List Int) (kn : List (E.Opn × Nat)) (nm : List Nat) (vr : E.Vr) (v1 v2 v4 : Value) (kb : Nat) : Prop where
  row : w.heap[b]? = some (.cells #[v1, v2, .map (some kb), v4, .int .i64 vr.a, .int .i64 vr.b, .int .i64 vr.c, .int .i64 vr.d] 92 (0, 0))
  o1 : OwnAt w 3 1 v1 p.length (ivs p)
  o2 : OwnAt w 3 1 v2 wd.length (wd.map (.int .i64))
  km : MapAt Tryz.prog 95 opV NatE w kb kn
  o4 : OwnAt w 3 1 v4 nm.length (ivs nm)
  d12 : ∀ g, v1.ownBlock = some g → v2.ownBlock ≠ some g
  d14 : ∀ g, v1.ownBlock = some g → v4.ownBlock ≠ some g
  d24 : ∀ g, v2.ownBlock = some g → v4.ownBlock ≠ some g
/-- its blocks -/
def MR (b : Nat) (v1 v2 v4 : Value) (kb i : Nat) : Prop := i = b ∨ i = kb ∨ v1.ownBlock = some i ∨ v2.ownBlock = some i ∨ v4.ownBlock = some i

section
variable {w w' : World} {b : Nat} {p : List Nat} {wd : List Int} {kn : List (E.Opn × Nat)} {nm : List Nat} {vr : E.Vr} {v1 v2 v4 : Value} {kb : Nat}
theorem RGC.lt (h : RGC w b p wd kn nm vr v1 v2 v4 kb) : ∀ i, MR b v1 v2 v4 kb i → i < w.heap.size := by
  rintro i (rfl | rfl | h1 | h1 | h1)
  · exact (Array.getElem?_eq_some_iff.1 h.row).1
  · exact h.km.lt
  · exact h.o1.lt _ h1
  · exact h.o2.lt _ h1
  · exact h.o4.lt _ h1
theorem RGC.frame (h : RGC w b p wd kn nm vr v1 v2 v4 kb) (hs : ∀ i, MR b v1 v2 v4 kb i → w'.heap[i]? = w.heap[i]?) : RGC w' b p wd kn nm vr v1 v2 v4 kb :=
  ⟨(hs b (.inl rfl)).trans h.row, h.o1.same fun g hg => hs g (.inr (.inr (.inl hg))), h.o2.same fun g hg => hs g (.inr (.inr (.inr (.inl hg)))), h.km.keep (hs kb (.inr (.inl rfl))) (fun _ _ _ h => h), h.o4.same fun g hg => hs g (.inr (.inr (.inr (.inr hg)))), h.d12, h.d14, h.d24⟩
theorem RGC.below (h : RGC w b p wd kn nm vr v1 v2 v4 kb) (hb : Below w.heap.size w w') : RGC w' b p wd kn nm vr v1 v2 v4 kb := h.frame fun i hi => hb.block i (h.lt i hi)
theorem RGC.kne (h : RGC w b p wd kn nm vr v1 v2 v4 kb) : kb ≠ b := fun e => by
  obtain ⟨es', cl, h1, _⟩ := h.km
  rw [e, h.row] at h1
  cases h1
theorem RGC.ne1 (h : RGC w b p wd kn nm vr v1 v2 v4 kb) : v1.ownBlock ≠ some b := h.o1.ne_row h.row (by decide)
theorem RGC.ne2 (h : RGC w b p wd kn nm vr v1 v2 v4 kb) : v2.ownBlock ≠ some b := h.o2.ne_row h.row (by decide)
theorem RGC.ne4 (h : RGC w b p wd kn nm vr v1 v2 v4 kb) : v4.ownBlock ≠ some b := h.o4.ne_row h.row (by decide)
theorem RGC.nk1 (h : RGC w b p wd kn nm vr v1 v2 v4 kb) : v1.ownBlock ≠ some kb := let ⟨_, _, h1, _⟩ := h.km; h.o1.ne_map h1
theorem RGC.nk2 (h : RGC w b p wd kn nm vr v1 v2 v4 kb) : v2.ownBlock ≠ some kb := let ⟨_, _, h1, _⟩ := h.km; h.o2.ne_map h1
theorem RGC.nk4 (h : RGC w b p wd kn nm vr v1 v2 v4 kb) : v4.ownBlock ≠ some kb := let ⟨_, _, h1, _⟩ := h.km; h.o4.ne_map h1
theorem RGC.cells (h : RGC w b p wd kn nm vr v1 v2 v4 kb) : w.cell? ⟨b, 0, none⟩ = some v1 ∧ w.cell? ⟨b, 1, none⟩ = some v2 ∧ w.cell? ⟨b, 2, none⟩ = some (.map (some kb)) ∧ w.cell? ⟨b, 3, none⟩ = some v4 := by
  refine ⟨?_, ?_, ?_, ?_⟩
  all_goals rw [cell_of_row _ _ _ _ _ (0, 0) h.row]; rfl
theorem RGC.slP (h : RGC w b p wd kn nm vr v1 v2 v4 kb) : ∃ A c, v1 = .slice A p.length c ∧ SlAt (IntR .i64) w A p.length (ini p) := by
  obtain ⟨A, c, rfl⟩ := h.o1.form
  have ho := h.o1
  rw [show ivs p = (ini p).map (Value.int .i64) by simp [ivs, ini]] at ho
  exact ⟨A, c, rfl, ho.slInts⟩
theorem RGC.find (h : RGC w b p wd kn nm vr v1 v2 v4 kb) (hd : E.Down p) (c : Nat) (hc : c < p.length) : Calls Tryz.prog 37 #[.pointer (some ⟨b, 0, none⟩), .int .i64 (c : Int)] w fun e W' => e = .returned (.int .i64 (E.root p c : Nat)) ∧ W' = w := by
  obtain ⟨A, ca, rfl, hs⟩ := h.slP
  exact rfind_any h.cells.1 hs hd c hc
theorem RGC.canon (h : RGC w b p wd kn nm vr v1 v2 v4 kb) (hd : E.Down p) {x : E.Opn} (hx : E.Ar p.length x) : Calls Tryz.prog 105 #[.pointer (some ⟨b, 0, none⟩), opV x] w fun e W' => e = .returned (opV (E.can p x)) ∧ Below w.heap.size w W' := by
  obtain ⟨A, ca, rfl, hs⟩ := h.slP
  exact rcanon_any (h.lt b (.inl rfl)) h.cells.1 hs hd hx
/-- a new list of parents behind an append -/
theorem RGC.app1 (h : RGC w b p wd kn nm vr v1 v2 v4 kb) {v1' : Value} {c : Nat} (hown : OwnAt w' 3 1 v1' (p.length + 1) (ivs p ++ [.int .i64 (c : Int)])) (hg : w.grownBy w' v1.ownBlock) (hat : v1'.ownBlock = v1.ownBlock ∨ ∃ k, w.heap.size ≤ k ∧ v1'.ownBlock = some k) :
    RGC (w'.setCell ⟨b, 0, none⟩ v1') b (p ++ [c]) wd kn nm vr v1' v2 v4 kb := by
  have ho : ∀ i, i < w.heap.size → i ≠ b → v1.ownBlock ≠ some i → (w'.setCell ⟨b, 0, none⟩ v1').heap[i]? = w.heap[i]? := fun i hi hb h1 => by
    rw [Below.heap_setCell _ _ _ i (fun e => hb (by rw [e])), hg.block i hi (fun e => h1 e.symm)]
  have hrw : w'.heap[b]? = _ := (hg.block b (h.lt b (.inl rfl)) (fun e => h.ne1 e.symm)).trans h.row
  have hne : v1'.ownBlock ≠ some b := by
    rcases hat with e | ⟨k, hk, e⟩
    · rw [e]; exact h.ne1
    · rw [e]; intro e'; injection e' with e'; have := h.lt b (.inl rfl); omega
  have hd : ∀ {v : Value}, (∀ g, v1.ownBlock = some g → v.ownBlock ≠ some g) → (∀ g, v.ownBlock = some g → g < w.heap.size) → ∀ g, v1'.ownBlock = some g → v.ownBlock ≠ some g := fun hd hl g hg' => by
    rcases hat with e | ⟨k, hk, e⟩
    · exact hd g (e ▸ hg')
    · rw [e] at hg'; injection hg' with hg'; intro e'; have := hl g e'; omega
  refine ⟨heap_setCell_same _ b 0 _ _ v1' hrw, ?_, h.o2.same fun g hg' => ho g (h.o2.lt g hg') (fun e => h.ne2 (e ▸ hg')) (fun e => h.d12 g e hg'), h.km.keep (ho kb h.km.lt h.kne h.nk1) (fun _ _ _ h => h), h.o4.same fun g hg' => ho g (h.o4.lt g hg') (fun e => h.ne4 (e ▸ hg')) (fun e => h.d14 g e hg'), hd h.d12 h.o2.lt, hd h.d14 h.o4.lt, h.d24⟩
  rw [List.length_append, List.length_singleton, show ivs (p ++ [c]) = ivs p ++ [.int .i64 (c : Int)] by simp [ivs]]
  exact hown.setCell hne _
/-- .. of widths -/
theorem RGC.app2 (h : RGC w b p wd kn nm vr v1 v2 v4 kb) {v2' : Value} {c : Int} (hown : OwnAt w' 3 1 v2' (wd.length + 1) (wd.map (.int .i64) ++ [.int .i64 c])) (hg : w.grownBy w' v2.ownBlock) (hat : v2'.ownBlock = v2.ownBlock ∨ ∃ k, w.heap.size ≤ k ∧ v2'.ownBlock = some k) :
    RGC (w'.setCell ⟨b, 1, none⟩ v2') b p (wd ++ [c]) kn nm vr v1 v2' v4 kb := by
  have ho : ∀ i, i < w.heap.size → i ≠ b → v2.ownBlock ≠ some i → (w'.setCell ⟨b, 1, none⟩ v2').heap[i]? = w.heap[i]? := fun i hi hb h1 => by
    rw [Below.heap_setCell _ _ _ i (fun e => hb (by rw [e])), hg.block i hi (fun e => h1 e.symm)]
  have hrw : w'.heap[b]? = _ := (hg.block b (h.lt b (.inl rfl)) (fun e => h.ne2 e.symm)).trans h.row
  have hne : v2'.ownBlock ≠ some b := by
    rcases hat with e | ⟨k, hk, e⟩
    · rw [e]; exact h.ne2
    · rw [e]; intro e'; injection e' with e'; have := h.lt b (.inl rfl); omega
  refine ⟨heap_setCell_same _ b 1 _ _ v2' hrw, h.o1.same fun g hg' => ho g (h.o1.lt g hg') (fun e => h.ne1 (e ▸ hg')) (fun e => h.d12 g hg' e), ?_, h.km.keep (ho kb h.km.lt h.kne h.nk2) (fun _ _ _ h => h), h.o4.same fun g hg' => ho g (h.o4.lt g hg') (fun e => h.ne4 (e ▸ hg')) (fun e => h.d24 g e hg'), fun g hg' e' => ?_, h.d14, fun g hg' e' => ?_⟩
  · rw [List.length_append, List.length_singleton, List.map_append]
    exact hown.setCell hne _
  · rcases hat with e | ⟨k, hk, e⟩
    · exact h.d12 g hg' (e ▸ e')
    · rw [e] at e'; injection e' with e'; have := h.o1.lt g hg'; omega
  · rcases hat with e | ⟨k, hk, e⟩
    · exact h.d24 g (e ▸ hg') e'
    · rw [e] at hg'; injection hg' with hg'; have := h.o4.lt g e'; omega
/-- .. of names -/
theorem RGC.app4 (h : RGC w b p wd kn nm vr v1 v2 v4 kb) {v4' : Value} {c : Nat} (hown : OwnAt w' 3 1 v4' (nm.length + 1) (ivs nm ++ [.int .i64 (c : Int)])) (hg : w.grownBy w' v4.ownBlock) (hat : v4'.ownBlock = v4.ownBlock ∨ ∃ k, w.heap.size ≤ k ∧ v4'.ownBlock = some k) :
    RGC (w'.setCell ⟨b, 3, none⟩ v4') b p wd kn (nm ++ [c]) vr v1 v2 v4' kb := by
  have ho : ∀ i, i < w.heap.size → i ≠ b → v4.ownBlock ≠ some i → (w'.setCell ⟨b, 3, none⟩ v4').heap[i]? = w.heap[i]? := fun i hi hb h1 => by
    rw [Below.heap_setCell _ _ _ i (fun e => hb (by rw [e])), hg.block i hi (fun e => h1 e.symm)]
  have hrw : w'.heap[b]? = _ := (hg.block b (h.lt b (.inl rfl)) (fun e => h.ne4 e.symm)).trans h.row
  have hne : v4'.ownBlock ≠ some b := by
    rcases hat with e | ⟨k, hk, e⟩
    · rw [e]; exact h.ne4
    · rw [e]; intro e'; injection e' with e'; have := h.lt b (.inl rfl); omega
  refine ⟨heap_setCell_same _ b 3 _ _ v4' hrw, h.o1.same fun g hg' => ho g (h.o1.lt g hg') (fun e => h.ne1 (e ▸ hg')) (fun e => h.d14 g hg' e), h.o2.same fun g hg' => ho g (h.o2.lt g hg') (fun e => h.ne2 (e ▸ hg')) (fun e => h.d24 g hg' e), h.km.keep (ho kb h.km.lt h.kne h.nk4) (fun _ _ _ h => h), ?_, h.d12, fun g hg' e' => ?_, fun g hg' e' => ?_⟩
  · rw [List.length_append, List.length_singleton, show ivs (nm ++ [c]) = ivs nm ++ [.int .i64 (c : Int)] by simp [ivs]]
    exact hown.setCell hne _
  · rcases hat with e | ⟨k, hk, e⟩
    · exact h.d14 g hg' (e ▸ e')
    · rw [e] at e'; injection e' with e'; have := h.o1.lt g hg'; omega
  · rcases hat with e | ⟨k, hk, e⟩
    · exact h.d24 g hg' (e ▸ e')
    · rw [e] at e'; injection e' with e'; have := h.o2.lt g hg'; omega
/-- what is known turns -/
theorem RGC.know (h : RGC w b p wd kn nm vr v1 v2 v4 kb) {kn' : List (E.Opn × Nat)} (hg : w.grownBy w' (some kb)) (hm : MapAt Tryz.prog 95 opV NatE w' kb kn') : RGC w' b p wd kn' nm vr v1 v2 v4 kb := by
  have ho : ∀ i, i < w.heap.size → i ≠ kb → w'.heap[i]? = w.heap[i]? := fun i hi hb => hg.block i hi (fun e => hb (by injection e))
  exact ⟨(ho b (h.lt b (.inl rfl)) (fun e => h.kne e.symm)).trans h.row, h.o1.same fun g hg' => ho g (h.o1.lt g hg') (fun e => h.nk1 (e ▸ hg')), h.o2.same fun g hg' => ho g (h.o2.lt g hg') (fun e => h.nk2 (e ▸ hg')), hm, h.o4.same fun g hg' => ho g (h.o4.lt g hg') (fun e => h.nk4 (e ▸ hg')), h.d12, h.d14, h.d24⟩
/-- a parent is stored -/
theorem RGC.setP {g off c : Nat} (h : RGC w b p wd kn nm vr (.slice (some ⟨g, off, none⟩) p.length c) v2 v4 kb) {m k : Nat} (hm : m < p.length) : RGC (w.setCell ⟨g, off + m, none⟩ (.int .i64 (k : Int))) b (p.set m k) wd kn nm vr (.slice (some ⟨g, off, none⟩) p.length c) v2 v4 kb := by
  have hb1 : (Value.slice (some ⟨g, off, none⟩) p.length c).ownBlock = some g := rfl
  have ho : ∀ i, i ≠ g → (w.setCell ⟨g, off + m, none⟩ (.int .i64 (k : Int))).heap[i]? = w.heap[i]? := fun i hi => Below.heap_setCell _ _ _ i hi
  refine ⟨(ho b (fun e => h.ne1 (by rw [hb1, e]))).trans h.row, ?_, h.o2.same fun i hi => ho i (fun e => h.d12 g hb1 (e ▸ hi)), h.km.keep (ho kb (fun e => h.nk1 (by rw [hb1, e]))) (fun _ _ _ h => h), h.o4.same fun i hi => ho i (fun e => h.d14 g hb1 (e ▸ hi)), h.d12, h.d14, h.d24⟩
  have := h.o1.set_ hm (.int .i64 (k : Int))
  rw [List.length_set, show ivs (p.set m k) = (ivs p).set m (.int .i64 (k : Int)) by simp [ivs, List.map_set]]
  exact this
end
end Go.Proofs.YtcmlmjbpdaecbaaGreat
end
