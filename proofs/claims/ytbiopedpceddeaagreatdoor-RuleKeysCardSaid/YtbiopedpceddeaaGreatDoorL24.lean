/- Rules: what a binding holds; its holes (the program). -/
import Derived.Test.YtbiopedpceddeaaGreatDoorL23
set_option linter.unusedVariables false
set_option linter.unusedSimpArgs false
namespace Go.Proofs.YtbiopedpceddeaaGreatDoor
open Go.RowKit
set_option linter.unusedVariables false
set_option linter.unusedSimpArgs false

/-- what a variable is bound to -/
def VarAt (gb : Nat) (W : World) (v : Value) : Option T.F → Prop
  | none => v = .slice none 0 0
  | some f => T.One f ∧ ∃ A n c, v = .slice (some A) n c ∧ ∀ W', Kpm (fun i => i = gb) W W' → StAt 5 NdR W' (some A) n (T.canon f)
/-- what a hole is bound to -/
def HolAt (h : Int) (b : Bool) : Option Int → Prop
  | none => b = false ∧ h = 0
  | some n => b = true ∧ h = n
/-- the row of a binding -/
def bdRow (w : Int) (L Tm v0 v1 : Value) (h0 h1 : Int) (b0 b1 : Bool) : Obj := .cells #[.int .i64 w, L, Tm, v0, v1, .slice none 0 0, .slice none 0 0, .int .u32 h0, .int .u32 h1, .bool b0, .bool b1] 144 (0, 0)
/-- a binding in block gb -/
def BdAt (W : World) (gb : Nat) (w : Int) (L Tm : Value) (s : R.St) : Prop :=
  ∃ v0 v1 h0 h1 b0 b1, W.heap[gb]? = some (bdRow w L Tm v0 v1 h0 h1 b0 b1) ∧ VarAt gb W v0 (s.v 0) ∧ VarAt gb W v1 (s.v 1) ∧ HolAt h0 b0 (s.h 0) ∧ HolAt h1 b1 (s.h 1)

section
variable {W W' : World} {gb : Nat} {w : Int} {L Tm v : Value} {s : R.St}

theorem VarAt.kpm {o : Option T.F} (h : VarAt gb W v o) (hk : Kpm (fun i => i = gb) W W') : VarAt gb W' v o := by
  cases o with
  | none => exact h
  | some f =>
    obtain ⟨h1, A, n, c, h2, h3⟩ := h
    exact ⟨h1, A, n, c, h2, fun W'' h'' => h3 W'' (hk.trans h'' fun _ _ h => h)⟩

theorem BdAt.lt (h : BdAt W gb w L Tm s) : gb < W.heap.size := by
  obtain ⟨_, _, _, _, _, _, h, _⟩ := h
  exact (Array.getElem?_eq_some_iff.1 h).1

theorem BdAt.below (h : BdAt W gb w L Tm s) (hb : Below W.heap.size W W') : BdAt W' gb w L Tm s := by
  have hlt := h.lt
  have hk := Kpm.of_below hb (fun i => i = gb)
  obtain ⟨v0, v1, h0, h1, b0, b1, hr, r0, r1, r2, r3⟩ := h
  exact ⟨v0, v1, h0, h1, b0, b1, (hb.block gb hlt).trans hr, r0.kpm hk, r1.kpm hk, r2, r3⟩

/-- the cells of a binding -/
theorem bd_cells {v0 v1 : Value} {h0 h1 : Int} {b0 b1 : Bool} (h : W.heap[gb]? = some (bdRow w L Tm v0 v1 h0 h1 b0 b1)) :
    W.cell? ⟨gb, 0, none⟩ = some (.int .i64 w) ∧ W.cell? ⟨gb, 1, none⟩ = some L ∧ W.cell? ⟨gb, 2, none⟩ = some Tm ∧ W.cell? ⟨gb, 3, none⟩ = some v0 ∧ W.cell? ⟨gb, 4, none⟩ = some v1 ∧ W.cell? ⟨gb, 7, none⟩ = some (.int .u32 h0) ∧ W.cell? ⟨gb, 8, none⟩ = some (.int .u32 h1) ∧ W.cell? ⟨gb, 9, none⟩ = some (.bool b0) ∧ W.cell? ⟨gb, 10, none⟩ = some (.bool b1) ∧ ∀ k, W.frozen? ⟨gb, k, none⟩ = false := by
  unfold bdRow at h
  refine ⟨?_, ?_, ?_, ?_, ?_, ?_, ?_, ?_, ?_, fun k => frozen_row h k⟩
  all_goals rw [cell_of_row _ _ _ _ _ (0, 0) h]; rfl
end

theorem bindH_some {s : R.St} {h n m : Int} (hm : s.h h = some m) : R.bindH s h n = if m = n then some s else none := by unfold R.bindH; rw [hm]
theorem bindH_none {s : R.St} {h n : Int} (hm : s.h h = none) : R.bindH s h n = some (s.setH h n) := by unfold R.bindH; rw [hm]

def HolePost (X : World) (gb : Nat) (w : Int) (L Tm : Value) (s : R.St) (h n : Int) (e : Ending) (X' : World) : Prop :=
  e = .returned (.bool (R.bindH s h n).isSome) ∧ Kpm (fun i => i = gb) X X' ∧ ∀ s', R.bindH s h n = some s' → BdAt X' gb w L Tm s'

set_option maxRecDepth 100000 in
set_option maxHeartbeats 2000000 in
theorem ghole0_any {X : World} {gb : Nat} {w : Int} {L Tm : Value} {s : R.St} {n : Int} (hb : BdAt X gb w L Tm s) :
    Calls Tryz.prog 189 #[.pointer (some ⟨gb, 0, none⟩), .int .i64 0, .int .u32 n] X (HolePost X gb w L Tm s 0 n) := by
  obtain ⟨v0, v1, h0, h1, b0, b1, hr, r0, r1, r2, r3⟩ := id hb
  have Hr := Lib.hid hr
  have Hb := Lib.hid hb
  have Hv := Lib.hid (show VarAt gb X v0 (s.v 0) ∧ VarAt gb X v1 (s.v 1) ∧ HolAt h0 b0 (s.h 0) ∧ HolAt h1 b1 (s.h 1) from ⟨r0, r1, r2, r3⟩)
  obtain ⟨c0, c1, c2, c3, c4, c7, c8, c9, c10, cf⟩ := bd_cells hr
  have f7 := cf 7
  have f9 := cf 9
  clear hb hr cf r0 r1 r3 c0 c1 c2 c3 c4
  cases hs : s.h 0 with
  | none =>
    rw [hs] at r2
    obtain ⟨rfl, rfl⟩ := r2
    have He := Lib.hid (bindH_none (n := n) hs)
    have q : (n == n) = true := by simp
    clear hs
    have g7 : (X.setCell ⟨gb, 7, none⟩ (.int .u32 n)).cell? ⟨gb, 9, none⟩ = some (.bool false) := by rw [cell_of_row _ _ _ _ _ (0, 0) (heap_setCell_same _ gb 7 _ _ _ Hr.out)]; rfl
    have g9 : (X.setCell ⟨gb, 9, none⟩ (.bool true)).cell? ⟨gb, 7, none⟩ = some (.int .u32 0) := by rw [cell_of_row _ _ _ _ _ (0, 0) (heap_setCell_same _ gb 9 _ _ _ Hr.out)]; rfl
    go_enter Tryz.func189, Tryz.ntmps189
    go_wp2
    go_region
    have hr1 := heap_setCell_same X gb 7 _ _ (.int .u32 n) Hr.out
    have hr2 := heap_setCell_same _ gb 9 _ _ (.bool true) hr1
    have Hrow := Lib.hid (show ((X.setCell ⟨gb, 7, none⟩ (.int .u32 n)).setCell ⟨gb, 9, none⟩ (.bool true)).drew.heap[gb]? = some (bdRow w L Tm v0 v1 n h1 true b1) from hr2)
    have Hk := Lib.hid (show Kpm (fun i => i = gb) X ((X.setCell ⟨gb, 7, none⟩ (.int .u32 n)).setCell ⟨gb, 9, none⟩ (.bool true)).drew from (((Kpm.refl (fun i => i = gb) X).setCell (p := ⟨gb, 7, none⟩) (fun _ => rfl) _).setCell (p := ⟨gb, 9, none⟩) (fun _ => rfl) _).drew)
    clear hr1 hr2 g7 g9 c7 c8 c9 c10 f7 f9
    generalize ((X.setCell ⟨gb, 7, none⟩ (.int .u32 n)).setCell ⟨gb, 9, none⟩ (.bool true)).drew = X2 at *
    obtain ⟨_, _, _, _, _, d7, d8, _, _, _⟩ := bd_cells Hrow.out
    go_wp2
    go_ret
    refine ⟨ret_bool (by rw [He.out]; rfl), Hk.out, fun s' h' => ?_⟩
    rw [He.out] at h'
    cases h'
    obtain ⟨z0, z1, z2, z3⟩ := Hv.out
    exact ⟨v0, v1, n, h1, true, b1, Hrow.out, z0.kpm Hk.out, z1.kpm Hk.out, ⟨rfl, rfl⟩, z3⟩
  | some m =>
    rw [hs] at r2
    obtain ⟨rfl, rfl⟩ := r2
    have He := Lib.hid (bindH_some (n := n) hs)
    clear hs
    by_cases hn : h0 = n
    · have q : (h0 == n) = true := by simpa using hn
      have He2 := Lib.hid (show R.bindH s 0 n = some s from by rw [He.out, if_pos hn])
      clear hn He
      go_enter Tryz.func189, Tryz.ntmps189
      go_wp2
      go_ret
      refine ⟨ret_bool (by rw [He2.out]; rfl), Kpm.refl _ _, fun s' h' => ?_⟩
      rw [He2.out] at h'
      cases h'
      exact Hb.out
    · have q : (h0 == n) = false := by simpa using hn
      have He2 := Lib.hid (show R.bindH s 0 n = none from by rw [He.out, if_neg hn])
      clear hn He
      go_enter Tryz.func189, Tryz.ntmps189
      go_wp2
      go_ret
      refine ⟨ret_bool (by rw [He2.out]; rfl), Kpm.refl _ _, fun s' h' => ?_⟩
      rw [He2.out] at h'
      cases h'

set_option maxRecDepth 100000 in
set_option maxHeartbeats 2000000 in
theorem ghole1_any {X : World} {gb : Nat} {w : Int} {L Tm : Value} {s : R.St} {n : Int} (hb : BdAt X gb w L Tm s) :
    Calls Tryz.prog 189 #[.pointer (some ⟨gb, 0, none⟩), .int .i64 1, .int .u32 n] X (HolePost X gb w L Tm s 1 n) := by
  obtain ⟨v0, v1, h0, h1, b0, b1, hr, r0, r1, r2, r3⟩ := id hb
  have Hr := Lib.hid hr
  have Hb := Lib.hid hb
  have Hv := Lib.hid (show VarAt gb X v0 (s.v 0) ∧ VarAt gb X v1 (s.v 1) ∧ HolAt h0 b0 (s.h 0) ∧ HolAt h1 b1 (s.h 1) from ⟨r0, r1, r2, r3⟩)
  obtain ⟨c0, c1, c2, c3, c4, c7, c8, c9, c10, cf⟩ := bd_cells hr
  have f7 := cf 8
  have f9 := cf 10
  clear hb hr cf r0 r1 r2 c0 c1 c2 c3 c4
  cases hs : s.h 1 with
  | none =>
    rw [hs] at r3
    obtain ⟨rfl, rfl⟩ := r3
    have He := Lib.hid (bindH_none (n := n) hs)
    have q : (n == n) = true := by simp
    clear hs
    have g8 : (X.setCell ⟨gb, 8, none⟩ (.int .u32 n)).cell? ⟨gb, 10, none⟩ = some (.bool false) := by rw [cell_of_row _ _ _ _ _ (0, 0) (heap_setCell_same _ gb 8 _ _ _ Hr.out)]; rfl
    have g10 : (X.setCell ⟨gb, 10, none⟩ (.bool true)).cell? ⟨gb, 8, none⟩ = some (.int .u32 0) := by rw [cell_of_row _ _ _ _ _ (0, 0) (heap_setCell_same _ gb 10 _ _ _ Hr.out)]; rfl
    go_enter Tryz.func189, Tryz.ntmps189
    go_wp2
    go_region
    have hr1 := heap_setCell_same X gb 8 _ _ (.int .u32 n) Hr.out
    have hr2 := heap_setCell_same _ gb 10 _ _ (.bool true) hr1
    have Hrow := Lib.hid (show ((X.setCell ⟨gb, 8, none⟩ (.int .u32 n)).setCell ⟨gb, 10, none⟩ (.bool true)).drew.heap[gb]? = some (bdRow w L Tm v0 v1 h0 n b0 true) from hr2)
    have Hk := Lib.hid (show Kpm (fun i => i = gb) X ((X.setCell ⟨gb, 8, none⟩ (.int .u32 n)).setCell ⟨gb, 10, none⟩ (.bool true)).drew from (((Kpm.refl (fun i => i = gb) X).setCell (p := ⟨gb, 8, none⟩) (fun _ => rfl) _).setCell (p := ⟨gb, 10, none⟩) (fun _ => rfl) _).drew)
    clear hr1 hr2 g8 g10 c7 c8 c9 c10 f7 f9
    generalize ((X.setCell ⟨gb, 8, none⟩ (.int .u32 n)).setCell ⟨gb, 10, none⟩ (.bool true)).drew = X2 at *
    obtain ⟨_, _, _, _, _, d7, d8, _, _, _⟩ := bd_cells Hrow.out
    go_wp2
    go_ret
    refine ⟨ret_bool (by rw [He.out]; rfl), Hk.out, fun s' h' => ?_⟩
    rw [He.out] at h'
    cases h'
    obtain ⟨z0, z1, z2, z3⟩ := Hv.out
    exact ⟨v0, v1, h0, n, b0, true, Hrow.out, z0.kpm Hk.out, z1.kpm Hk.out, z2, ⟨rfl, rfl⟩⟩
  | some m =>
    rw [hs] at r3
    obtain ⟨rfl, rfl⟩ := r3
    have He := Lib.hid (bindH_some (n := n) hs)
    clear hs
    by_cases hn : h1 = n
    · have q : (h1 == n) = true := by simpa using hn
      have He2 := Lib.hid (show R.bindH s 1 n = some s from by rw [He.out, if_pos hn])
      clear hn He
      go_enter Tryz.func189, Tryz.ntmps189
      go_wp2
      go_ret
      refine ⟨ret_bool (by rw [He2.out]; rfl), Kpm.refl _ _, fun s' h' => ?_⟩
      rw [He2.out] at h'
      cases h'
      exact Hb.out
    · have q : (h1 == n) = false := by simpa using hn
      have He2 := Lib.hid (show R.bindH s 1 n = none from by rw [He.out, if_neg hn])
      clear hn He
      go_enter Tryz.func189, Tryz.ntmps189
      go_wp2
      go_ret
      refine ⟨ret_bool (by rw [He2.out]; rfl), Kpm.refl _ _, fun s' h' => ?_⟩
      rw [He2.out] at h'
      cases h'

theorem ghole_any {X : World} {gb : Nat} {w : Int} {L Tm : Value} {s : R.St} {h n : Int} (hb : BdAt X gb w L Tm s) (h0 : 0 ≤ h) (h2 : h < 2) :
    Calls Tryz.prog 189 #[.pointer (some ⟨gb, 0, none⟩), .int .i64 h, .int .u32 n] X (HolePost X gb w L Tm s h n) := by
  rcases (show h = 0 ∨ h = 1 by omega) with rfl | rfl
  · exact ghole0_any hb
  · exact ghole1_any hb
end Go.Proofs.YtbiopedpceddeaaGreatDoor
