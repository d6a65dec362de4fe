/- Walks of the program's layer of bits: Total. -/
import Derived.Test.YtableoihgkmbjaaB5
import Derived.Deep.RegionWith
import Derived.StillTailTactics
import Derived.BigRegion
namespace Go.Proofs.Ytableoihgkmbjaa
open Go.RowKit Go.Maps Go.Shelf
set_option linter.unusedVariables false
set_option linter.unusedSimpArgs false

theorem zeroOp (w : World) : (zeroValue 99).run Try.prog w = .ok (.agg #[.nilFunc, .nilFunc, .nilFunc]) w := by kernel_rfl

/-- two words, as a slice -/
theorem fits_two (n a b : Int) (p : Nat) (w : World) (h0 : w.cell? ⟨p, 0, none⟩ = some (.int .u32 a)) (h1 : w.cell? ⟨p, 1, none⟩ = some (.int .u32 b)) :
    Calls Try.prog 66 #[.int .i64 n, .slice (some ⟨p, 0, none⟩) 2 2] w fun e w' => e = .returned (.bool (B.isW n a && B.isW n b)) ∧ w = w' := by
  have hs : SlAt (IntR .u32) w (some ⟨p, 0, none⟩) 2 [a, b] := by
    refine ⟨rfl, by omega, fun k x hx => ?_⟩
    have hlt := World.block_lt_of_cell? _ _ h0
    match k, hx with
    | 0, hx => cases hx; exact ⟨_, _, _, rfl, hlt, h0, rfl⟩
    | 1, hx => cases hx; exact ⟨_, _, _, rfl, hlt, h1, rfl⟩
    | k + 2, hx => simp at hx
  refine (fits_any n _ 2 2 [a, b] w hs).mono fun e w' ⟨he, hw⟩ => ⟨he.trans (ret_bool ?_), hw⟩
  simp only [B.isW, List.all_cons, List.all_nil, Bool.and_true]
  cases B.isWd n <;> simp

/-- the store of three cells into a block above which what is read lies -/
theorem elB_store {b : Nat} {w w' : World} {k : Int} {u : Value} {x : Unit} (h : ElB b w k u x) (hs : w.heap.size ≤ w'.heap.size) (hb : ∀ B0, b < B0 → B0 < w.heap.size → w'.heap[B0]? = w.heap[B0]?) : ElB b w' k u x := by
  obtain ⟨f, caps, v1, v2, own, hu, hv, he, ho, hd⟩ := h
  exact ⟨f, caps, v1, v2, own, hu, hv, he, fun B0 hB => ⟨Nat.lt_of_lt_of_le (ho B0 hB).1 hs, (ho B0 hB).2⟩, fun W hW => hd W fun B0 hB => (hW B0 hB).trans (hb B0 (ho B0 hB).2 (ho B0 hB).1)⟩
theorem heap_set3 (w : World) (p B0 : Nat) (u0 u1 u2 : Value) (h : B0 ≠ p) : (((w.setCell ⟨p, 0, none⟩ u0).setCell ⟨p, 1, none⟩ u1).setCell ⟨p, 2, none⟩ u2).heap[B0]? = w.heap[B0]? := by
  rw [Below.heap_setCell _ _ _ _ h, Below.heap_setCell _ _ _ _ h, Below.heap_setCell _ _ _ _ h]
theorem size_set3 (w : World) (p : Nat) (u0 u1 u2 : Value) : (((w.setCell ⟨p, 0, none⟩ u0).setCell ⟨p, 1, none⟩ u1).setCell ⟨p, 2, none⟩ u2).heap.size = w.heap.size := by simp

set_option maxRecDepth 100000 in
set_option maxHeartbeats 2000000 in
theorem asked_any (op n a b : Int) (w : World) (hop : (Lit.int .i64 op).wf = true) : Calls Try.prog 60 #[.int .i64 op, .int .i64 n, .int .u32 a, .int .u32 b] w fun e w' =>
    ∃ u : Value, e = .returned (.tuple #[u, .bool (B.okOp op n a b)]) ∧ Below w.heap.size w w' ∧ w.heap.size < w'.heap.size ∧ ((B.okOp op n a b = true ∧ ∃ bm, ElB bm w' op u ()) ∨ B.okOp op n a b = false ∧ ∃ u0 u1 u2, u = .agg #[u0, u1, u2] ∧ u0.oneCell' = true ∧ u1.oneCell' = true ∧ u2.oneCell' = true) := by
  have HO := Lib.hid (fun W => operations_any W)
  have HF := Lib.hid (fun p W h0 h1 => fits_two n a b p W h0 h1)
  have K := int_keyed Try.underlying3
  have facts : ∀ w1 : World, Below (w.alloc (.cells #[.nilFunc, .nilFunc, .nilFunc] 99)).heap.size (w.alloc (.cells #[.nilFunc, .nilFunc, .nilFunc] 99)) w1 → 
      w1.cell? ⟨w.heap.size, 0, none⟩ = some .nilFunc ∧ w1.cell? ⟨w.heap.size, 1, none⟩ = some .nilFunc ∧ w1.cell? ⟨w.heap.size, 2, none⟩ = some .nilFunc ∧ (∀ j, w1.frozen? ⟨w.heap.size, j, none⟩ = false) ∧ w.heap.size < w1.heap.size := fun w1 hb =>
    ⟨(hb.cell (p := ⟨w.heap.size, 0, none⟩) (by simp)).trans (by rw [cell_of_row _ _ _ _ _ (0, 0) (heap_alloc_new w _)]; rfl), (hb.cell (p := ⟨w.heap.size, 1, none⟩) (by simp)).trans (by rw [cell_of_row _ _ _ _ _ (0, 0) (heap_alloc_new w _)]; rfl),
      (hb.cell (p := ⟨w.heap.size, 2, none⟩) (by simp)).trans (by rw [cell_of_row _ _ _ _ _ (0, 0) (heap_alloc_new w _)]; rfl), fun j => (hb.frozen (p := ⟨w.heap.size, j, none⟩) (by simp)).trans (by simp [go_sem]), by have := hb.size; simp at this; omega⟩
  have Hfacts := Lib.hid facts; clear facts
  by_cases hk : 1 ≤ op ∧ op ≤ 13
  · go_enter Try.func60, Try.ntmps60
    go_wp2_with fail
    refine (HO.out _).mono ?_
    rintro e w1 ⟨l, rfl, ho, hget, hb⟩
    obtain ⟨u, hl0, hlook, hu⟩ := MapAt.lookup ho K (ek_int_inj .i64) Try.underlying107 (zeroOp w1) (k := op) (keyOf_int_mk Try.underlying3 hop)
    rw [World.size_alloc] at hlook
    rw [hget op, if_pos hk] at hlook hu
    rw [show (some ()).isSome = true from rfl] at hlook
    have hel : ElB (w.alloc (.cells #[.nilFunc, .nilFunc, .nilFunc] 99)).heap.size w1 op u () := by
      rcases hu with ⟨h, _⟩ | ⟨_, _, h⟩
      · cases h
      · exact h
    have Hel := Lib.hid hel
    obtain ⟨f, caps, v1, v2, own, rfl, ⟨hv1, hv2⟩, hr0⟩ := hel
    have hst1 : ∀ W A m, (store A v1 m).run Try.prog W = stored Try.prog W A v1 m := fun W A m => run_store _ W A v1 m hv1
    have hst2 : ∀ W A m, (store A v2 m).run Try.prog W = stored Try.prog W A v2 m := fun W A m => run_store _ W A v2 m hv2
    have HV := Lib.hid (And.intro hv1 hv2)
    clear hv1 hv2 hu hget ho hl0 hr0
    obtain ⟨hc0, hc1, hc2, hf0, hsz⟩ := Hfacts.out _ hb
    have Hb := Lib.hid hb; clear hb
    have hret : ∀ (a' : Act) (W : World), a'.tmps.getD 8 undef = .pointer (some ⟨w.heap.size, 0, none⟩) → a'.tmps.getD 9 undef = .bool (B.isW n a && B.isW n b) → a'.defers = [] →
        W = (((((w1.setCell ⟨w.heap.size, 0, none⟩ (.func (.func f) #[] caps)).setCell ⟨w.heap.size, 1, none⟩ v1).setCell ⟨w.heap.size, 2, none⟩ v2).alloc (.cells #[.func (.func f) #[] caps, v1, v2] 99)).alloc (.cells #[.int .u32 a, .int .u32 b] 40)).drew →
        bodyPost Try.prog Try.f60 (fun e w' => ∃ u : Value, e = .returned (.tuple #[u, .bool (B.okOp op n a b)]) ∧ Below w.heap.size w w' ∧ w.heap.size < w'.heap.size ∧ ((B.okOp op n a b = true ∧ ∃ bm, ElB bm w' op u ()) ∨ B.okOp op n a b = false ∧ ∃ u0 u1 u2, u = .agg #[u0, u1, u2] ∧ u0.oneCell' = true ∧ u1.oneCell' = true ∧ u2.oneCell' = true)) Exit.ret a' W := by
      intro a' W h8 h9 hd hW
      subst hW
      rw [Array.getD_eq_getD_getElem?] at h8 h9
      have hbig : Below w.heap.size w (((((w1.setCell ⟨w.heap.size, 0, none⟩ (.func (.func f) #[] caps)).setCell ⟨w.heap.size, 1, none⟩ v1).setCell ⟨w.heap.size, 2, none⟩ v2).alloc (.cells #[.func (.func f) #[] caps, v1, v2] 99)).alloc (.cells #[.int .u32 a, .int .u32 b] 40)).drew :=
        (((((((Below.refl _ _).alloc (Nat.le_refl _) _).trans (Hb.out.mono (by simp))).setCell (p := ⟨w.heap.size, 0, none⟩) (Nat.le_refl _) _).setCell (p := ⟨w.heap.size, 1, none⟩) (Nat.le_refl _) _).setCell (p := ⟨w.heap.size, 2, none⟩) (Nat.le_refl _) _).alloc (by simp; omega) _).alloc (by simp; omega) _ |>.drew
      refine bodyPost_ret (v := .tuple #[.agg #[.func (.func f) #[] caps, v1, v2], .bool (B.isW n a && B.isW n b)]) ?_ hd ⟨.agg #[.func (.func f) #[] caps, v1, v2], ?_, hbig, by simp; omega, ?_⟩
      · simp [results, Try.results60, go_sem, h8, h9, hc0, hc1, hc2, hf0, hsz]
      · have e : B.okOp op n a b = (B.isW n a && B.isW n b) := by unfold B.okOp; simp [hk.1, hk.2]
        rw [e]
      · cases hok : B.okOp op n a b
        · exact .inr ⟨rfl, _, _, _, rfl, rfl, HV.out.1, HV.out.2⟩
        · refine .inl ⟨rfl, (w.alloc (.cells #[.nilFunc, .nilFunc, .nilFunc] 99)).heap.size, ?_⟩
          refine elB_store Hel.out (by simp; omega) fun B0 h1 h2 => ?_
          rw [World.size_alloc] at h1
          show (World.alloc (World.alloc (World.setCell (World.setCell (World.setCell w1 ⟨w.heap.size, 0, none⟩ _) ⟨w.heap.size, 1, none⟩ _) ⟨w.heap.size, 2, none⟩ _) _) _).heap[B0]? = w1.heap[B0]?
          rw [Below.heap_alloc _ _ _ (by simp; omega), Below.heap_alloc _ _ _ (by simp; omega), heap_set3 _ _ _ _ _ _ (by omega)]
    have Hret := Lib.hid hret; clear hret
    go_wp2_with fail
    go_region_with ((go_at_call 66; refine Calls.mono (HF.out _ _ ?_ ?_) ?_; go_simp; go_simp; rintro e w5 ⟨rfl, rfl⟩))
    all_goals go_wp2
    all_goals exact Hret.out _ _ rfl rfl rfl rfl
  · go_enter Try.func60, Try.ntmps60
    go_wp2_with fail
    refine (HO.out _).mono ?_
    rintro e w1 ⟨l, rfl, ho, hget, hb⟩
    obtain ⟨u, hl0, hlook, hu⟩ := MapAt.lookup ho K (ek_int_inj .i64) Try.underlying107 (zeroOp w1) (k := op) (keyOf_int_mk Try.underlying3 hop)
    rw [World.size_alloc] at hlook
    rw [hget op, if_neg hk] at hlook hu
    rw [show (none : Option Unit).isSome = false from rfl] at hlook
    obtain rfl : u = .agg #[.nilFunc, .nilFunc, .nilFunc] := by
      rcases hu with ⟨_, h⟩ | ⟨_, h, _⟩
      · exact h
      · cases h
    clear hu hget ho hl0
    obtain ⟨hc0, hc1, hc2, hf0, hsz⟩ := Hfacts.out _ hb
    have Hb := Lib.hid hb; clear hb
    have Hk := Lib.hid hk; clear hk
    go_wp2_with fail
    go_big_region
    all_goals go_wp2
    all_goals
      have hbig : Below w.heap.size w ((((w1.setCell ⟨w.heap.size, 0, none⟩ .nilFunc).setCell ⟨w.heap.size, 1, none⟩ .nilFunc).setCell ⟨w.heap.size, 2, none⟩ .nilFunc).alloc (.cells #[.nilFunc, .nilFunc, .nilFunc] 99)).drew :=
        (((((((Below.refl _ _).alloc (Nat.le_refl _) _).trans (Hb.out.mono (by simp))).setCell (p := ⟨w.heap.size, 0, none⟩) (Nat.le_refl _) _).setCell (p := ⟨w.heap.size, 1, none⟩) (Nat.le_refl _) _).setCell (p := ⟨w.heap.size, 2, none⟩) (Nat.le_refl _) _).alloc (by simp; omega) _).drew
      refine bodyPost_ret (v := .tuple #[.agg #[.nilFunc, .nilFunc, .nilFunc], .bool false]) ?_ rfl ⟨.agg #[.nilFunc, .nilFunc, .nilFunc], ?_, hbig, by simp; omega, ?_⟩
      · simp [results, Try.results60, go_sem, hc0, hc1, hc2, hf0, hsz]
      · have e : B.okOp op n a b = false := by
          have h1 : (decide (1 ≤ op) && decide (op ≤ 13)) = false := by
            have := Hk.out
            by_cases h : 1 ≤ op
            · have : ¬ op ≤ 13 := fun h' => this ⟨h, h'⟩
              simp [this]
            · simp [h]
          unfold B.okOp; rw [h1]; rfl
        rw [e]
      · refine .inr ⟨?_, _, _, _, rfl, rfl, rfl, rfl⟩
        have h1 : (decide (1 ≤ op) && decide (op ≤ 13)) = false := by
          have := Hk.out
          by_cases h : 1 ≤ op
          · have : ¬ op ≤ 13 := fun h' => this ⟨h, h'⟩
            simp [this]
          · simp [h]
        unfold B.okOp; rw [h1]; rfl
end Go.Proofs.Ytableoihgkmbjaa
