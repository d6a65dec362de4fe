/- Walks of the reference: the state of a propagation. -/
import Derived.Test.YtceelipcclfdmaaW5
import Derived.Test.YtceelipcclfdmaaPlain09b
import Derived.Deep.LoopGhost
import Derived.Deep.RegionWith
namespace Go.Proofs.Ytceelipcclfdmaa
open Go.RowKit

/-- Block B is a state of the reference over n variables, whose numbers lie in block O. -/
structure StAt (w : World) (B O n : Nat) (of : List Int) (conf : Bool) : Prop where
  st : w.heap[B]? = some (.cells #[.slice (some ⟨O, 0, none⟩) (n + 1) (n + 1), .bool conf] 69 (0, 0))
  nums : w.heap[O]? = some (.cells (of.map (Value.int .i64)).toArray 3 (0, 0))
  len : of.length = n + 1
  ne : O ≠ B

section
variable {w w' : World} {B O n : Nat} {of : List Int} {conf : Bool}
theorem frozen_of_row (w : World) (g j : Nat) (cs : Array Value) (t : TypeId) (hg : w.heap[g]? = some (.cells cs t (0, 0))) : w.frozen? ⟨g, j, none⟩ = false := by
  simp [World.frozen?, hg]
theorem StAt.c0 (h : StAt w B O n of conf) : w.cell? ⟨B, 0, none⟩ = some (.slice (some ⟨O, 0, none⟩) (n + 1) (n + 1)) := by rw [cell_of_row w B 0 _ _ _ h.st]; rfl
theorem StAt.c1 (h : StAt w B O n of conf) : w.cell? ⟨B, 1, none⟩ = some (.bool conf) := by rw [cell_of_row w B 1 _ _ _ h.st]; rfl
theorem StAt.f1 (h : StAt w B O n of conf) : w.frozen? ⟨B, 1, none⟩ = false := frozen_of_row w B 1 _ _ h.st
theorem StAt.cn (h : StAt w B O n of conf) {k : Nat} (hk : k ≤ n) : w.cell? ⟨O, k, none⟩ = some (.int .i64 (of.getD k 0)) := by
  rw [cell_of_row w O k _ _ _ h.nums]
  have : k < of.length := by rw [h.len]; omega
  simp [List.getD, this]
theorem StAt.fn (h : StAt w B O n of conf) (k : Nat) : w.frozen? ⟨O, k, none⟩ = false := frozen_of_row w O k _ _ h.nums
theorem StAt.same (h : StAt w B O n of conf) (h1 : w'.heap[B]? = w.heap[B]?) (h2 : w'.heap[O]? = w.heap[O]?) : StAt w' B O n of conf := ⟨h1.trans h.st, h2.trans h.nums, h.len, h.ne⟩
theorem StAt.dr (h : StAt w B O n of conf) (hd : Dr w w') : StAt w' B O n of conf := by obtain ⟨m, rfl⟩ := hd; exact ⟨h.st, h.nums, h.len, h.ne⟩
theorem StAt.ltB (h : StAt w B O n of conf) : B < w.heap.size := (Array.getElem?_eq_some_iff.1 h.st).1
theorem StAt.ltO (h : StAt w B O n of conf) : O < w.heap.size := (Array.getElem?_eq_some_iff.1 h.nums).1
theorem heap_setCell_same (w : World) (g i : Nat) (cs : Array Value) (t : TypeId) (u : Value) (hg : w.heap[g]? = some (.cells cs t (0, 0))) : (w.setCell ⟨g, i, none⟩ u).heap[g]? = some (.cells (cs.setIfInBounds i u) t (0, 0)) := by
  simp [World.setCell, Array.getElem?_modify, hg]
theorem StAt.setConf (h : StAt w B O n of conf) (c : Bool) : StAt (w.setCell ⟨B, 1, none⟩ (.bool c)) B O n of c :=
  ⟨by rw [heap_setCell_same w B 1 _ _ _ h.st]; rfl, by rw [Below.heap_setCell w _ _ O h.ne]; exact h.nums, h.len, h.ne⟩
theorem StAt.setNum (h : StAt w B O n of conf) (k : Nat) (x : Int) : StAt (w.setCell ⟨O, k, none⟩ (.int .i64 x)) B O n (of.set k x) conf :=
  ⟨by rw [Below.heap_setCell w _ _ B h.ne.symm]; exact h.st, by rw [heap_setCell_same w O k _ _ _ h.nums]; simp [List.map_set], by simp [h.len], h.ne⟩
end

theorem ret_none : Ending.returned (.tuple #[]) = .returned (.tuple #[]) := rfl

set_option maxHeartbeats 400000 in
theorem sign_any (l : Int) (w : World) : Calls Try.prog 77 #[.int .i64 l] w fun e w' => e = .returned (.int .i64 (S.sgn l)) ∧ w = w' := by
  by_cases h : 0 < l
  · go_enter Try.func77, Try.ntmps77
    go_wp2
    go_ret
    exact ⟨ret_int (by simp [S.sgn, h]), rfl⟩
  · go_enter Try.func77, Try.ntmps77
    go_wp2
    go_ret
    exact ⟨ret_int (by rw [S.sgn, if_neg (by omega)]), rfl⟩

set_option maxHeartbeats 400000 in
theorem value_any (B O n : Nat) (of : List Int) (conf : Bool) (l : Int) (w : World) (h : StAt w B O n of conf) (hw : S.Wf n of) (hl : S.isLit n l = true) (hn : n ≤ 4000) :
    Calls Try.prog 76 #[.pointer (some ⟨B, 0, none⟩), .int .i64 l] w fun e w' => e = .returned (.int .i64 (S.val of l)) ∧ w = w' := by
  have hl' : -(n : Int) ≤ l ∧ l ≤ n ∧ l ≠ 0 := by simpa [S.isLit] using hl
  clear hl
  have h0 := h.c0
  by_cases hp : 0 < l
  · obtain ⟨k, rfl⟩ : ∃ k : Nat, l = k := ⟨l.toNat, by omega⟩
    have hk : k ≤ n := by omega
    have hc := h.cn hk
    have hv : S.val of (k : Int) = of.getD k 0 := by simp only [S.val, if_pos hp, Int.toNat_natCast]
    obtain ⟨x, hx⟩ : ∃ x, x = of.getD k 0 := ⟨_, rfl⟩
    rw [← hx] at hc hv
    have Hv := Lib.hid hv; clear hv h hw hx
    go_enter Try.func76, Try.ntmps76
    go_wp2
    go_ret
    exact ⟨ret_int Hv.out.symm, rfl⟩
  · obtain ⟨k, rfl⟩ : ∃ k : Nat, l = -(k : Int) := ⟨(-l).toNat, by omega⟩
    have hk : k ≤ n := by omega
    have hc := h.cn hk
    have hv : S.val of (-(k : Int)) = - of.getD k 0 := by simp only [S.val, if_neg hp, Int.neg_neg, Int.toNat_natCast]
    obtain ⟨x, hx⟩ : ∃ x, x = of.getD k 0 := ⟨_, rfl⟩
    have hxb : -1 ≤ x ∧ x ≤ 1 := by have := hw.tri k; rw [← hx] at this; omega
    obtain ⟨hx1, hx2⟩ := hxb
    rw [← hx] at hc hv
    have Hv := Lib.hid hv; clear hv h hw hx
    go_enter Try.func76, Try.ntmps76
    go_wp2
    go_ret
    exact ⟨ret_int Hv.out.symm, rfl⟩

set_option maxHeartbeats 800000 in
theorem take_any (B O n : Nat) (of : List Int) (conf : Bool) (l : Int) (w : World) (h : StAt w B O n of conf) (hw : S.Wf n of) (hl : S.isLit n l = true) (hn : n ≤ 4000) (B0 : Nat) (hB : B0 ≤ B) (hO : B0 ≤ O) :
    Calls Try.prog 60 #[.pointer (some ⟨B, 0, none⟩), .int .i64 l] w fun e w' => e = .returned (.tuple #[]) ∧ Below B0 w w' ∧
      ((S.val of l < 0 ∧ StAt w' B O n of true) ∨ (0 ≤ S.val of l ∧ StAt w' B O n (S.put of l) conf)) := by
  have hl' : -(n : Int) ≤ l ∧ l ≤ n ∧ l ≠ 0 := by simpa [S.isLit] using hl
  have Hcon := Lib.hid (value_any B O n of conf l w h hw hl hn)
  have Hsign : ∀ W, Calls Try.prog 77 #[.int .i64 l] W fun e w' => e = .returned (.int .i64 (S.sgn l)) ∧ W = w' := fun W => sign_any l W
  have HS := Lib.hid Hsign; clear Hsign
  have H := Lib.hid h
  have h1 := h.c1
  have hf1 := h.f1
  have h0 := h.c0
  obtain ⟨v, hv⟩ : ∃ v, v = S.val of l := ⟨_, rfl⟩
  rw [← hv] at Hcon ⊢
  have Hv := Lib.hid hv; clear hv
  by_cases hneg : v < 0
  · clear h
    go_enter Try.func60, Try.ntmps60
    go_wp2_with fail
    refine Hcon.out.mono ?_
    rintro e w' ⟨rfl, rfl⟩
    go_wp2
    refine bodyPost_ret (results_none rfl _ _ _) rfl ?_
    exact ⟨rfl, (Below.refl _ _).setCell (by exact hB) _, .inl ⟨hneg, H.out.setConf true⟩⟩
  · by_cases hp : 0 < l
    · obtain ⟨k, rfl⟩ : ∃ k : Nat, l = k := ⟨l.toNat, by omega⟩
      have hk : k ≤ n := by omega
      have hc := h.cn hk
      have hfk := h.fn k
      clear h
      go_enter Try.func60, Try.ntmps60
      go_wp2_with fail
      refine Hcon.out.mono ?_
      rintro e w' ⟨rfl, rfl⟩
      go_wp2_with fail
      go_region_with ((go_at_call 77; refine (HS.out _).mono ?_; rintro e w' ⟨rfl, rfl⟩))
      all_goals
        go_wp2
        refine bodyPost_end (results_none rfl _ _ _) rfl ?_
        refine ⟨rfl, ((Below.refl _ _).drew).setCell (by exact hO) _, .inr ⟨hneg, ?_⟩⟩
        have hs := (H.out.dr ((Dr.refl w).drew)).setNum k (S.sgn k)
        have e1 : S.put of (k : Int) = of.set k (S.sgn k) := by simp [S.put]
        rw [e1]
        exact hs
    · obtain ⟨k, rfl⟩ : ∃ k : Nat, l = -(k : Int) := ⟨(-l).toNat, by omega⟩
      have hk : k ≤ n := by omega
      have hc := h.cn hk
      have hfk := h.fn k
      clear h
      go_enter Try.func60, Try.ntmps60
      go_wp2_with fail
      refine Hcon.out.mono ?_
      rintro e w' ⟨rfl, rfl⟩
      go_wp2_with fail
      have hwr : IntKind.i64.wrap (k : Int) = k := IntWalk.i64_in _ (by omega)
      go_region_with ((go_at_call 77; refine (HS.out _).mono ?_; rintro e w' ⟨rfl, rfl⟩))
      all_goals
        go_wp2
        refine bodyPost_end (results_none rfl _ _ _) rfl ?_
        refine ⟨rfl, ((Below.refl _ _).drew).setCell (by exact hO) _, .inr ⟨hneg, ?_⟩⟩
        have hs := (H.out.dr ((Dr.refl w).drew)).setNum k (S.sgn (-(k : Int)))
        have e1 : S.put of (-(k : Int)) = of.set k (S.sgn (-(k : Int))) := by simp [S.put]
        rw [e1]
        exact hs
end Go.Proofs.Ytceelipcclfdmaa
