/- Merged: QOv, QU4. -/
import Derived.Test.YtbiopedpceddeaaGreatDoorN09
import Derived.Test.YtbiopedpceddeaaGreatDoorN08
import Derived.Test.YtbiopedpceddeaaGreatDoorN05
set_option linter.unusedVariables false
set_option linter.unusedSimpArgs false
section
namespace Go.Proofs.YtbiopedpceddeaaGreatDoor
open Go.RowKit

/-- worlds that keep what W holds, as the values of one function -/
structure Ov (W : World) where
  f : World → World
  below : ∀ u, Below W.heap.size W (f u)
  eq : ∀ u, Below W.heap.size W u → f u = u

theorem ov_ex (W : World) : Nonempty (Ov W) := by
  have h : ∀ u : World, ∃ v : World, Below W.heap.size W v ∧ (Below W.heap.size W u → v = u) := fun u => by
    by_cases h : Below W.heap.size W u
    · exact ⟨u, h, fun _ => rfl⟩
    · exact ⟨W, Below.refl _ _, fun h' => absurd h' h⟩
  obtain ⟨f, hf⟩ := Classical.axiomOfChoice h
  exact ⟨⟨f, fun u => (hf u).1, fun u => (hf u).2⟩⟩

theorem cell_below {W : World} {b o : Nat} {v : Value} (h : W.cell? ⟨b, o, none⟩ = some v) : b < W.heap.size := by
  rcases Nat.lt_or_ge b W.heap.size with h' | h'
  · exact h'
  · simp [World.cell?, Array.getElem?_eq_none h'] at h

theorem Ov.cell {W : World} (ov : Ov W) {b o : Nat} {v : Value} (h : W.cell? ⟨b, o, none⟩ = some v) (u : World) : (ov.f u).cell? ⟨b, o, none⟩ = some v :=
  ((ov.below u).cell (p := ⟨b, o, none⟩) (cell_below h)).trans h

theorem calls_over {P : Program} {f : FuncId} {args : Array Value} {W u : World} {ov : Ov W} {v : Value} (h : Calls P f args (ov.f u) fun e w' => e = .returned v ∧ Below (ov.f u).heap.size (ov.f u) w') :
    Calls P f args (ov.f u) fun e w'' => e = .returned v ∧ ∃ m, w'' = ov.f m :=
  h.mono fun _ w'' ⟨he, hb⟩ => ⟨he, w'', (ov.eq _ ((ov.below u).trans (hb.mono (ov.below u).size))).symm⟩
theorem calls_over_same {P : Program} {f : FuncId} {args : Array Value} {W u : World} {ov : Ov W} {v : Value} (h : Calls P f args (ov.f u) fun e w' => e = .returned v ∧ ov.f u = w') :
    Calls P f args (ov.f u) fun e w'' => e = .returned v ∧ ∃ m, w'' = ov.f m :=
  h.mono fun _ w'' ⟨he, hb⟩ => ⟨he, u, hb.symm⟩
theorem calls_over_dr {P : Program} {f : FuncId} {args : Array Value} {W u : World} {ov : Ov W} {v : Value} (h : Calls P f args (ov.f u) fun e w' => e = .returned v ∧ Dr (ov.f u) w') :
    Calls P f args (ov.f u) fun e w'' => e = .returned v ∧ ∃ m, w'' = ov.f m :=
  calls_over (h.mono fun _ w'' ⟨he, hb⟩ => ⟨he, hb.below _⟩)

def lastOf : List Oper → List Oper
  | [] => []
  | o :: l => match l with
    | [] => [o]
    | _ => lastOf l
def headOf : List Oper → List Oper
  | [] => []
  | o :: l => match l with
    | [] => []
    | _ => o :: headOf l
theorem headOf_take (l : List Oper) : headOf l = l.take (l.length - 1) := by
  induction l with
  | nil => rfl
  | cons o l ih =>
    cases l with
    | nil => rfl
    | cons o' l => show o :: headOf (o' :: l) = _; rw [ih]; simp
theorem lastOf_drop (l : List Oper) : lastOf l = l.drop (l.length - 1) := by
  induction l with
  | nil => rfl
  | cons o l ih =>
    cases l with
    | nil => rfl
    | cons o' l => show lastOf (o' :: l) = _; rw [ih]; simp

/-- A drawn region with a tail: its head reads and calls, its last operation is whatever. -/
theorem wp_region_ov {P : Program} {id : Nat} {Q : Exit → Act → World → Prop} {a : Act} {w : World} {l : List Oper} (ov : Ov w) (hm : P.follows .mixedOrders = true) (hB : (Rg.fineB .any l.toArray (l.length - 1) && decide (l.length - 1 + 1 = l.length)) = true)
    (h : wpQuiet P l.toArray (fun w' => ∃ u, w' = ov.f u) (fun a' => ∀ w', (∃ u, w' = ov.f u) → ∀ K : Act → World → Prop, (∀ a w, Q .normal a w → K a w) → wpList P l.toArray (Rg.onlyK K) (lastOf l) a' w') (headOf l) a) : (Code.region id l.toArray true).wp P Q a w := by
  rw [headOf_take, lastOf_drop] at h
  exact Rg.wp_region (fun w' => ∃ u, w' = ov.f u) _ hm hB ⟨w.drew, (ov.eq w.drew ⟨rfl, rfl, rfl, Nat.le_refl _, fun _ _ => rfl⟩).symm⟩ h

/-- A drawn region that reads and calls. -/
theorem wp_region_ovq {P : Program} {id : Nat} {Q : Exit → Act → World → Prop} {a : Act} {w : World} {l : List Oper} (ov : Ov w) (hm : P.follows .mixedOrders = true) (hB : Region.lexB .any l.toArray = true)
    (h : wpQuiet P l.toArray (fun w' => ∃ u, w' = ov.f u) (fun a' => ∀ w', (∃ u, w' = ov.f u) → Q .normal a' w') l a) : (Code.region id l.toArray true).wp P Q a w :=
  wp_region_quiet (C := fun w' => ∃ u, w' = ov.f u) hm hB ⟨w.drew, (ov.eq w.drew ⟨rfl, rfl, rfl, Nat.le_refl _, fun _ _ => rfl⟩).symm⟩ (by simpa using h)
end Go.Proofs.YtbiopedpceddeaaGreatDoor
end
section
namespace Go.Proofs.YtbiopedpceddeaaGreatDoor
open Go.RowKit
set_option linter.unusedVariables false
set_option linter.unusedSimpArgs false

set_option maxHeartbeats 1000000 in
theorem typedClo_any (t : List T.Nd) (args : List Int) (i Bt Bx n m c ct : Nat) (At A : Option Addr) (W : World) (hT : StAt 5 NdR W At n t) (hA : SlAt (IntR .i64) W A m args) (hBt : W.cell? ⟨Bt, 0, none⟩ = some (.slice At n ct)) (hBx : W.cell? ⟨Bx, 3, none⟩ = some (.slice A m c))
    (hi : i < m) (ha : 0 ≤ args.getD i 0 ∧ args.getD i 0 < n) :
    Calls Tryz.prog 197 #[.int .i64 (i : Int), .pointer (some ⟨Bt, 0, none⟩), .pointer (some ⟨Bx, 0, none⟩)] W fun e w' => e = .returned (.int .i64 (t.getD (args.getD i 0).toNat default).w) ∧ Dr W w' := by
  obtain ⟨y, b, off, u, hy, rfl, hb, hc, rfl⟩ := hA.at_ hi
  rw [getD_of hy] at ha ⊢
  obtain ⟨j, rfl⟩ : ∃ j : Nat, y = j := ⟨y.toNat, by omega⟩
  obtain ⟨x, b2, off2, A2, c2, hx, rfl, _, _, hw, _⟩ := nd_cells hT (j := j) (by omega)
  rw [Int.toNat_natCast, getD_of hx]
  have hj : j < n := by omega
  have hle := hA.le
  have hle2 := hT.le
  clear hy hA hT hx hb ha
  go_enter Tryz.func197, Tryz.ntmps197
  go_wp2
  go_quiet (fail)
  go_wp2
  go_ret
  exact ⟨rfl, _, rfl⟩

set_option maxRecDepth 100000 in
set_option maxHeartbeats 4000000 in
theorem pisTyped_any (t : List T.Nd) (x : T.Nd) (n ct : Nat) (At A : Option Addr) (c : Nat) (W : World) (hT : StAt 5 NdR W At n t) (hA : SlAt (IntR .i64) W A x.args.length x.args) (hlen : 1 ≤ x.op → x.op ≤ 18 → (x.args.length : Int) = T.ar x.op) (harg : ∀ a ∈ x.args, 0 ≤ a ∧ a < (n : Int)) :
    Calls Tryz.prog 158 #[.slice At n ct, ndV x A c] W fun e w' => e = .returned (.bool (T.typed t x)) ∧ Below W.heap.size W w' := by
  obtain ⟨W1, hW1⟩ : ∃ W1, W1 = (W.alloc (.cells #[.slice At n ct] 22)).alloc (.cells #[.int .i64 x.op, .int .i64 x.w, .int .i64 x.fl, .slice A x.args.length c, .int .u32 x.imm] 62) := ⟨_, rfl⟩
  have hB1 : Below W.heap.size W W1 := by rw [hW1]; exact ((Below.refl _ _).alloc (Nat.le_refl _) _).alloc (by simp) _
  have hr0 : W1.heap[W.heap.size]? = some (.cells #[.slice At n ct] 22 (0, 0)) := by rw [hW1]; exact row_alloc (heap_alloc_new W _) _
  have hr1 : W1.heap[W.heap.size + 1]? = some (.cells #[.int .i64 x.op, .int .i64 x.w, .int .i64 x.fl, .slice A x.args.length c, .int .u32 x.imm] 62 (0, 0)) := by rw [hW1]; exact new_two W _ _
  have HQ : ∀ i, i < x.args.length → Hid (∀ nn, Calls Tryz.prog 197 #[.int .i64 (i : Int), .pointer (some ⟨W.heap.size, 0, none⟩), .pointer (some ⟨W.heap.size + 1, 0, none⟩)] (W1.drewN nn) fun e w'' => e = .returned (.int .i64 (T.wd t x i)) ∧ ∃ m, w'' = W1.drewN m) := fun i hi => by
    intro nn
    have hb := hB1.dr ⟨nn, rfl⟩
    have ha := harg _ (List.getElem_mem hi)
    have hc := typedClo_any t x.args i W.heap.size (W.heap.size + 1) n x.args.length c ct At A (W1.drewN nn) (hT.below monoNd hb) (hA.below (monoInt _) hb) (by rw [cell_of_row (W1.drewN nn) _ _ _ _ (0, 0) hr0]; rfl) (by rw [cell_of_row (W1.drewN nn) _ _ _ _ (0, 0) hr1]; rfl) hi (by rw [List.getD_eq_getElem?_getD, List.getElem?_eq_getElem hi]; exact ha)
    exact Calls.quiet_of (hc.mono fun e w' ⟨h1, m, h2⟩ => ⟨h1, m, h2⟩)
  obtain ⟨op, w, fl, args, imm⟩ := x
  rw [show ndV ⟨op, w, fl, args, imm⟩ A c = .agg #[.int .i64 op, .int .i64 w, .int .i64 fl, .slice A args.length c, .int .u32 imm] from rfl]
  dsimp only at HQ hW1 hlen
  have HB1 := Lib.hid hB1
  have hle := hA.le
  dsimp only at hr1
  have x0 : W1.cell? ⟨W.heap.size + 1, 0, none⟩ = some (.int .i64 op) := by rw [cell_of_row _ _ _ _ _ (0, 0) hr1]; rfl
  have x1 : W1.cell? ⟨W.heap.size + 1, 1, none⟩ = some (.int .i64 w) := by rw [cell_of_row _ _ _ _ _ (0, 0) hr1]; rfl
  rcases typed_cases op with h | h | h | h | h | h | h
  · have hl2 : (args.length : Int) = 2 := by rw [hlen (by omega) (by omega)]; unfold T.ar; rw [if_neg (by omega), if_pos (by omega)]
    have Q0 : Hid (∀ nn, Calls Tryz.prog 197 #[.int .i64 0, .pointer (some ⟨W.heap.size, 0, none⟩), .pointer (some ⟨W.heap.size + 1, 0, none⟩)] (W1.drewN nn) fun e w'' => e = .returned (.int .i64 (T.wd t ⟨op, w, fl, args, imm⟩ 0)) ∧ ∃ m, w'' = W1.drewN m) := HQ 0 (by omega)
    have Q1 : Hid (∀ nn, Calls Tryz.prog 197 #[.int .i64 1, .pointer (some ⟨W.heap.size, 0, none⟩), .pointer (some ⟨W.heap.size + 1, 0, none⟩)] (W1.drewN nn) fun e w'' => e = .returned (.int .i64 (T.wd t ⟨op, w, fl, args, imm⟩ 1)) ∧ ∃ m, w'' = W1.drewN m) := HQ 1 (by omega)
    have q1 : decide (1 ≤ op) = true := by simpa using h.1
    have q2 : decide (op ≤ 13) = true := by simpa using h.2
    rw [typed_13 h]
    dsimp only
    obtain ⟨a0, h0⟩ : ∃ a0, a0 = T.wd t ⟨op, w, fl, args, imm⟩ 0 := ⟨_, rfl⟩
    obtain ⟨a1, h1⟩ : ∃ a1, a1 = T.wd t ⟨op, w, fl, args, imm⟩ 1 := ⟨_, rfl⟩
    rw [← h0] at Q0 ⊢
    rw [← h1] at Q1 ⊢
    clear HQ hr0 hr1 hT hA harg hlen hB1
    clear h0 h1 h hl2
    by_cases e0 : a0 = w
    · have z0 : (a0 == w) = true := by simpa using e0
      have hd : (decide (a0 = w) && decide (a1 = w)) = (a1 == w) := by rw [decide_eq_true e0, Bool.true_and]; by_cases h : a1 = w <;> simp [h]
      rw [hd]
      clear e0 hd
      go_enter Tryz.func158, Tryz.ntmps158
      go_wp2
      rw [← hW1]
      clear hW1
      go_quiet ((go_at_call 197; first | with_reducible exact Q0.out _ | with_reducible exact Q1.out _ | fail))
      go_wp2
      go_ret
      exact ⟨rfl, HB1.out.dr ⟨_, rfl⟩⟩
    · have z0 : (a0 == w) = false := by simpa using e0
      rw [decide_eq_false e0, Bool.false_and]
      clear e0
      go_enter Tryz.func158, Tryz.ntmps158
      go_wp2
      rw [← hW1]
      clear hW1
      go_quiet ((go_at_call 197; first | with_reducible exact Q0.out _ | with_reducible exact Q1.out _ | fail))
      go_wp2
      go_ret
      exact ⟨rfl, HB1.out.dr ⟨_, rfl⟩⟩
  · have hl2 : (args.length : Int) = 2 := by rw [hlen (by omega) (by omega)]; unfold T.ar; rw [if_neg (by omega), if_pos (by omega)]
    have Q0 : Hid (∀ nn, Calls Tryz.prog 197 #[.int .i64 0, .pointer (some ⟨W.heap.size, 0, none⟩), .pointer (some ⟨W.heap.size + 1, 0, none⟩)] (W1.drewN nn) fun e w'' => e = .returned (.int .i64 (T.wd t ⟨op, w, fl, args, imm⟩ 0)) ∧ ∃ m, w'' = W1.drewN m) := HQ 0 (by omega)
    have Q1 : Hid (∀ nn, Calls Tryz.prog 197 #[.int .i64 1, .pointer (some ⟨W.heap.size, 0, none⟩), .pointer (some ⟨W.heap.size + 1, 0, none⟩)] (W1.drewN nn) fun e w'' => e = .returned (.int .i64 (T.wd t ⟨op, w, fl, args, imm⟩ 1)) ∧ ∃ m, w'' = W1.drewN m) := HQ 1 (by omega)
    rw [typed_14 h]
    try dsimp only at h ⊢
    obtain ⟨a0, h0⟩ : ∃ a0, a0 = T.wd t ⟨op, w, fl, args, imm⟩ 0 := ⟨_, rfl⟩
    obtain ⟨a1, h1⟩ : ∃ a1, a1 = T.wd t ⟨op, w, fl, args, imm⟩ 1 := ⟨_, rfl⟩
    rw [← h0] at Q0 ⊢
    rw [← h1] at Q1 ⊢
    clear HQ hr0 hr1 hT hA harg hlen hB1
    clear h0 h1 hl2
    subst h
    have hd : decide (a0 = a1) = (a0 == a1) := by by_cases h : a0 = a1 <;> simp [h]
    rw [hd]
    clear hd
    go_enter Tryz.func158, Tryz.ntmps158
    go_wp2_with fail
    rw [← hW1]
    clear hW1
    refine Calls.mono (w := W1) (Q0.out 0) ?_
    rintro e w2 ⟨rfl, m0, rfl⟩
    go_wp2_with fail
    refine (Q1.out m0).mono ?_
    rintro e w3 ⟨rfl, m1, rfl⟩
    go_wp2
    go_ret
    exact ⟨rfl, HB1.out.dr ⟨_, rfl⟩⟩
  · have hl3 : (args.length : Int) = 3 := by rw [hlen (by omega) (by omega)]; unfold T.ar; rw [if_neg (by omega), if_neg (by omega), if_pos (by omega)]
    have Q0 : Hid (∀ nn, Calls Tryz.prog 197 #[.int .i64 0, .pointer (some ⟨W.heap.size, 0, none⟩), .pointer (some ⟨W.heap.size + 1, 0, none⟩)] (W1.drewN nn) fun e w'' => e = .returned (.int .i64 (T.wd t ⟨op, w, fl, args, imm⟩ 0)) ∧ ∃ m, w'' = W1.drewN m) := HQ 0 (by omega)
    have Q1 : Hid (∀ nn, Calls Tryz.prog 197 #[.int .i64 1, .pointer (some ⟨W.heap.size, 0, none⟩), .pointer (some ⟨W.heap.size + 1, 0, none⟩)] (W1.drewN nn) fun e w'' => e = .returned (.int .i64 (T.wd t ⟨op, w, fl, args, imm⟩ 1)) ∧ ∃ m, w'' = W1.drewN m) := HQ 1 (by omega)
    have Q2 : Hid (∀ nn, Calls Tryz.prog 197 #[.int .i64 2, .pointer (some ⟨W.heap.size, 0, none⟩), .pointer (some ⟨W.heap.size + 1, 0, none⟩)] (W1.drewN nn) fun e w'' => e = .returned (.int .i64 (T.wd t ⟨op, w, fl, args, imm⟩ 2)) ∧ ∃ m, w'' = W1.drewN m) := HQ 2 (by omega)
    rw [typed_15 h]
    try dsimp only at h ⊢
    obtain ⟨a0, h0⟩ : ∃ a0, a0 = T.wd t ⟨op, w, fl, args, imm⟩ 0 := ⟨_, rfl⟩
    obtain ⟨a1, h1⟩ : ∃ a1, a1 = T.wd t ⟨op, w, fl, args, imm⟩ 1 := ⟨_, rfl⟩
    obtain ⟨a2, h2⟩ : ∃ a2, a2 = T.wd t ⟨op, w, fl, args, imm⟩ 2 := ⟨_, rfl⟩
    rw [← h0] at Q0 ⊢
    rw [← h1] at Q1 ⊢
    rw [← h2] at Q2 ⊢
    clear HQ hr0 hr1 hT hA harg hlen hB1
    clear h0 h1 h2 hl3
    subst h
    by_cases e0 : a0 = 1
    · have z0 : (a0 == 1) = true := by simpa using e0
      by_cases e1 : a1 = w
      · have z1 : (a1 == w) = true := by simpa using e1
        have hd : (decide (a0 = 1) && decide (a1 = w) && decide (a2 = w)) = (a2 == w) := by rw [decide_eq_true e0, decide_eq_true e1, Bool.true_and, Bool.true_and]; by_cases h : a2 = w <;> simp [h]
        rw [hd]
        clear e0 e1 hd
        go_enter Tryz.func158, Tryz.ntmps158
        go_wp2
        rw [← hW1]
        clear hW1
        go_quiet ((go_at_call 197; first | with_reducible exact Q0.out _ | with_reducible exact Q1.out _ | with_reducible exact Q2.out _ | fail))
        go_wp2
        go_ret
        exact ⟨rfl, HB1.out.dr ⟨_, rfl⟩⟩
      · have z1 : (a1 == w) = false := by simpa using e1
        rw [decide_eq_false e1, Bool.and_false, Bool.false_and]
        clear e0 e1
        go_enter Tryz.func158, Tryz.ntmps158
        go_wp2
        rw [← hW1]
        clear hW1
        go_quiet ((go_at_call 197; first | with_reducible exact Q0.out _ | with_reducible exact Q1.out _ | with_reducible exact Q2.out _ | fail))
        go_wp2
        go_ret
        exact ⟨rfl, HB1.out.dr ⟨_, rfl⟩⟩
    · have z0 : (a0 == 1) = false := by simpa using e0
      rw [decide_eq_false e0, Bool.false_and, Bool.false_and]
      clear e0
      go_enter Tryz.func158, Tryz.ntmps158
      go_wp2
      rw [← hW1]
      clear hW1
      go_quiet ((go_at_call 197; first | with_reducible exact Q0.out _ | with_reducible exact Q1.out _ | with_reducible exact Q2.out _ | fail))
      go_wp2
      go_ret
      exact ⟨rfl, HB1.out.dr ⟨_, rfl⟩⟩
  · have hl1 : (args.length : Int) = 1 := by rw [hlen (by omega) (by omega)]; unfold T.ar; rw [if_neg (by omega), if_neg (by omega), if_neg (by omega), if_pos (by omega)]
    have Q0 : Hid (∀ nn, Calls Tryz.prog 197 #[.int .i64 0, .pointer (some ⟨W.heap.size, 0, none⟩), .pointer (some ⟨W.heap.size + 1, 0, none⟩)] (W1.drewN nn) fun e w'' => e = .returned (.int .i64 (T.wd t ⟨op, w, fl, args, imm⟩ 0)) ∧ ∃ m, w'' = W1.drewN m) := HQ 0 (by omega)
    rw [typed_16 (.inl h)]
    try dsimp only at h ⊢
    obtain ⟨a0, h0⟩ : ∃ a0, a0 = T.wd t ⟨op, w, fl, args, imm⟩ 0 := ⟨_, rfl⟩
    rw [← h0] at Q0 ⊢
    clear HQ hr0 hr1 hT hA harg hlen hB1
    clear h0 hl1
    subst h
    go_enter Tryz.func158, Tryz.ntmps158
    go_wp2
    rw [← hW1]
    clear hW1
    go_quiet ((go_at_call 197; first | with_reducible exact Q0.out _ | fail))
    go_wp2
    go_ret
    exact ⟨rfl, HB1.out.dr ⟨_, rfl⟩⟩
  · have hl1 : (args.length : Int) = 1 := by rw [hlen (by omega) (by omega)]; unfold T.ar; rw [if_neg (by omega), if_neg (by omega), if_neg (by omega), if_pos (by omega)]
    have Q0 : Hid (∀ nn, Calls Tryz.prog 197 #[.int .i64 0, .pointer (some ⟨W.heap.size, 0, none⟩), .pointer (some ⟨W.heap.size + 1, 0, none⟩)] (W1.drewN nn) fun e w'' => e = .returned (.int .i64 (T.wd t ⟨op, w, fl, args, imm⟩ 0)) ∧ ∃ m, w'' = W1.drewN m) := HQ 0 (by omega)
    rw [typed_16 (.inr h)]
    try dsimp only at h ⊢
    obtain ⟨a0, h0⟩ : ∃ a0, a0 = T.wd t ⟨op, w, fl, args, imm⟩ 0 := ⟨_, rfl⟩
    rw [← h0] at Q0 ⊢
    clear HQ hr0 hr1 hT hA harg hlen hB1
    clear h0 hl1
    subst h
    go_enter Tryz.func158, Tryz.ntmps158
    go_wp2
    rw [← hW1]
    clear hW1
    go_quiet ((go_at_call 197; first | with_reducible exact Q0.out _ | fail))
    go_wp2
    go_ret
    exact ⟨rfl, HB1.out.dr ⟨_, rfl⟩⟩
  · have hl1 : (args.length : Int) = 1 := by rw [hlen (by omega) (by omega)]; unfold T.ar; rw [if_neg (by omega), if_neg (by omega), if_neg (by omega), if_pos (by omega)]
    have Q0 : Hid (∀ nn, Calls Tryz.prog 197 #[.int .i64 0, .pointer (some ⟨W.heap.size, 0, none⟩), .pointer (some ⟨W.heap.size + 1, 0, none⟩)] (W1.drewN nn) fun e w'' => e = .returned (.int .i64 (T.wd t ⟨op, w, fl, args, imm⟩ 0)) ∧ ∃ m, w'' = W1.drewN m) := HQ 0 (by omega)
    rw [typed_18 h]
    try dsimp only at h ⊢
    obtain ⟨a0, h0⟩ : ∃ a0, a0 = T.wd t ⟨op, w, fl, args, imm⟩ 0 := ⟨_, rfl⟩
    rw [← h0] at Q0 ⊢
    clear HQ hr0 hr1 hT hA harg hlen hB1
    clear h0 hl1
    subst h
    go_enter Tryz.func158, Tryz.ntmps158
    go_wp2
    rw [← hW1]
    clear hW1
    go_quiet ((go_at_call 197; first | with_reducible exact Q0.out _ | fail))
    go_wp2
    go_ret
    exact ⟨rfl, HB1.out.dr ⟨_, rfl⟩⟩
  · rw [typed_else h]
    obtain ⟨h1, h2, h3, h4, h5, h6⟩ := h
    have q14 : (op == 14) = false := by simpa using h2
    have q15 : (op == 15) = false := by simpa using h3
    have q16 : (op == 16) = false := by simpa using h4
    have q17 : (op == 17) = false := by simpa using h5
    have q18 : (op == 18) = false := by simpa using h6
    clear HQ hr0 hr1 hT hA harg hlen hB1 x0 x1
    by_cases hp : 1 ≤ op
    · have q1 : decide (1 ≤ op) = true := by simpa using hp
      have q2 : decide (op ≤ 13) = false := by simp; omega
      clear h1 h2 h3 h4 h5 h6 hp
      go_enter Tryz.func158, Tryz.ntmps158
      go_wp2
      go_ret
      exact ⟨rfl, by have := HB1.out; rwa [hW1] at this⟩
    · have q1 : decide (1 ≤ op) = false := by simpa using hp
      clear h1 h2 h3 h4 h5 h6 hp
      go_enter Tryz.func158, Tryz.ntmps158
      go_wp2
      go_ret
      exact ⟨rfl, by have := HB1.out; rwa [hW1] at this⟩
end Go.Proofs.YtbiopedpceddeaaGreatDoor
end
