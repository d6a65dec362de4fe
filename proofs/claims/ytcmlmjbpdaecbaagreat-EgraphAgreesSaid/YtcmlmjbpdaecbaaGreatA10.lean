/- Merged: QG3, QPlainEA, QG4. -/
import Derived.Test.YtcmlmjbpdaecbaaGreatA09
import Derived.Test.YtcmlmjbpdaecbaaGreatA04
import Derived.Test.YtcmlmjbpdaecbaaGreatA01
set_option linter.unusedVariables false
set_option linter.unusedSimpArgs false
section
namespace Go.Proofs.YtcmlmjbpdaecbaaGreat
open Go.RowKit Go.MapKept Go.Maps Go.WideMaps
set_option linter.unusedVariables false
set_option linter.unusedSimpArgs false

/-- an operation as six cells -/
def opC (x : E.Opn) : Array Value := #[.int .i64 x.op, .int .i64 x.w, .int .u32 x.imm, .int .i64 x.a0, .int .i64 x.a1, .int .i64 x.a2]
namespace E
/-- the first operands are turned already -/
def canTo (p : List Nat) (j : Nat) (x : Opn) : Opn := ⟨x.op, x.w, x.imm, if 0 < j then cr p x.a0 else x.a0, if 1 < j then cr p x.a1 else x.a1, if 2 < j then cr p x.a2 else x.a2⟩
theorem canTo_all (p : List Nat) (x : Opn) : canTo p 3 x = can p x := rfl
theorem cr_class {p : List Nat} {a : Int} (h : ArOk p.length a) (h1 : a ≠ -1) : ∃ c : Nat, a = (c : Int) ∧ c < p.length ∧ cr p a = (root p c : Nat) := by
  rcases h with h | ⟨h2, h3⟩
  · exact absurd h h1
  · refine ⟨a.toNat, by omega, by omega, ?_⟩
    unfold cr
    rw [if_neg (by omega)]
theorem cr_none {p : List Nat} : cr p (-1) = -1 := by unfold cr; rw [if_pos (by omega)]
end E

theorem op6_cells {w : World} {g : Nat} {T : TypeId} {a0 a1 a2 a3 a4 a5 : Value} (h : w.heap[g]? = some (.cells #[a0, a1, a2, a3, a4, a5] T (0, 0))) :
    w.cell? ⟨g, 0, none⟩ = some a0 ∧ w.cell? ⟨g, 1, none⟩ = some a1 ∧ w.cell? ⟨g, 2, none⟩ = some a2 ∧ w.cell? ⟨g, 3, none⟩ = some a3 ∧ w.cell? ⟨g, 4, none⟩ = some a4 ∧ w.cell? ⟨g, 5, none⟩ = some a5 := by
  refine ⟨?_, ?_, ?_, ?_, ?_, ?_⟩
  all_goals rw [cell_of_row _ _ _ _ _ (0, 0) h]; rfl

theorem set6_row {w : World} {g : Nat} {T : TypeId} {a0 a1 a2 a3 a4 a5 : Value} (h : w.heap[g]? = some (.cells #[a0, a1, a2, a3, a4, a5] T (0, 0))) (u0 u1 u2 u3 u4 u5 : Value) :
    ((((((w.setCell ⟨g, 0, none⟩ u0).setCell ⟨g, 1, none⟩ u1).setCell ⟨g, 2, none⟩ u2).setCell ⟨g, 3, none⟩ u3).setCell ⟨g, 4, none⟩ u4).setCell ⟨g, 5, none⟩ u5).heap[g]? = some (.cells #[u0, u1, u2, u3, u4, u5] T (0, 0)) :=
  heap_setCell_same _ g 5 _ _ u5 (heap_setCell_same _ g 4 _ _ u4 (heap_setCell_same _ g 3 _ _ u3 (heap_setCell_same _ g 2 _ _ u2 (heap_setCell_same _ g 1 _ _ u1 (heap_setCell_same _ g 0 _ _ u0 h)))))
theorem set6_below {B : Nat} {W w : World} {g : Nat} (h : Below B W w) (hg : B ≤ g) (u0 u1 u2 u3 u4 u5 : Value) :
    Below B W ((((((w.setCell ⟨g, 0, none⟩ u0).setCell ⟨g, 1, none⟩ u1).setCell ⟨g, 2, none⟩ u2).setCell ⟨g, 3, none⟩ u3).setCell ⟨g, 4, none⟩ u4).setCell ⟨g, 5, none⟩ u5) :=
  (((((h.setCell (p := ⟨g, 0, none⟩) hg _).setCell (p := ⟨g, 1, none⟩) hg _).setCell (p := ⟨g, 2, none⟩) hg _).setCell (p := ⟨g, 3, none⟩) hg _).setCell (p := ⟨g, 4, none⟩) hg _).setCell (p := ⟨g, 5, none⟩) hg _
theorem idx3_0 (a b c : Int) (w : World) : (Instr.index 83 (.agg #[.int .i64 a, .int .i64 b, .int .i64 c]) (.int .i64 0)).run Tryz.prog w = .ok (.int .i64 a) w := by kernel_rfl
theorem idx3_1 (a b c : Int) (w : World) : (Instr.index 83 (.agg #[.int .i64 a, .int .i64 b, .int .i64 c]) (.int .i64 1)).run Tryz.prog w = .ok (.int .i64 b) w := by kernel_rfl
theorem idx3_2 (a b c : Int) (w : World) : (Instr.index 83 (.agg #[.int .i64 a, .int .i64 b, .int .i64 c]) (.int .i64 2)).run Tryz.prog w = .ok (.int .i64 c) w := by kernel_rfl

set_option maxRecDepth 100000 in
set_option maxHeartbeats 4000000 in
theorem gcanonical_any {p : List Nat} {b n ca : Nat} {A : Option Addr} {W : World} {x : E.Opn} (hb : b < W.heap.size) (hrow : W.cell? ⟨b, 0, none⟩ = some (.slice A n ca)) (hp : SlAt (IntR .i64) W A n (ini p)) (hd : E.Down p) (hx : E.Ar p.length x) :
    Calls Tryz.prog 99 #[.pointer (some ⟨b, 0, none⟩), opV x] W fun e W' => e = .returned (opV (E.can p x)) ∧ Below W.heap.size W W' := by
  obtain ⟨W2, hW2⟩ : ∃ W2, W2 = (W.alloc (.cells #[.int .i64 x.op, .int .i64 x.w, .int .u32 x.imm, .int .i64 x.a0, .int .i64 x.a1, .int .i64 x.a2] 85)).alloc (.cells #[.int .i64 0, .int .i64 0, .int .u32 0, .int .i64 0, .int .i64 0, .int .i64 0] 85) := ⟨_, rfl⟩
  have hb2 : Below W.heap.size W W2 := by rw [hW2]; exact ((Below.refl _ _).alloc (Nat.le_refl _) _).alloc (by simp) _
  have hr0 : W2.heap[W.heap.size]? = some (.cells (opC (E.canTo p 0 x)) 85 (0, 0)) := by rw [hW2]; exact row_alloc (heap_alloc_new W _) _
  have hr1 : W2.heap[W.heap.size + 1]? = some (.cells #[.int .i64 0, .int .i64 0, .int .u32 0, .int .i64 0, .int .i64 0, .int .i64 0] 85 (0, 0)) := by rw [hW2]; exact new_two W _ _
  have Hcall := Lib.hid (show ∀ X, Below W.heap.size W X → ∀ c, c < p.length → Calls Tryz.prog 100 #[.pointer (some ⟨b, 0, none⟩), .int .i64 (c : Int)] X fun e W' => e = .returned (.int .i64 (E.root p c : Nat)) ∧ W' = X from fun X hX c hc =>
    gfind_any ((hX.cell (p := ⟨b, 0, none⟩) hb).trans hrow) (hp.below (monoInt _) hX) hd c hc)
  have c3 : W2.cell? ⟨W.heap.size, 3, none⟩ = some (.int .i64 x.a0) := by rw [cell_of_row _ _ _ _ _ (0, 0) hr0]; rfl
  have c4 : W2.cell? ⟨W.heap.size, 4, none⟩ = some (.int .i64 x.a1) := by rw [cell_of_row _ _ _ _ _ (0, 0) hr0]; rfl
  have c5 : W2.cell? ⟨W.heap.size, 5, none⟩ = some (.int .i64 x.a2) := by rw [cell_of_row _ _ _ _ _ (0, 0) hr0]; rfl
  have Hr0 := Lib.hid hr0
  have Hr1 := Lib.hid hr1
  have Hb2 := Lib.hid hb2
  have Hx := Lib.hid hx
  clear hb hrow hp hd hb2 hr0 hr1 hx
  unfold opV
  go_enter Tryz.func99, Tryz.ntmps99
  go_wp2_with fail
  rw [← hW2]
  clear hW2
  go_wp2
  clear c3 c4 c5
  go_loopg [9] 3 (fun gg i wr => ∃ (j : Nat), j ≤ 3 ∧ i = .int .i64 (j : Int) ∧ gg + j = 3 ∧ Hid (Below W.heap.size W wr ∧ wr.heap[W.heap.size]? = some (.cells (opC (E.canTo p j x)) 85 (0, 0)) ∧ wr.heap[W.heap.size + 1]? = some (.cells #[.int .i64 0, .int .i64 0, .int .u32 0, .int .i64 0, .int .i64 0, .int .i64 0] 85 (0, 0))))
  case atStart => exact ⟨0, by omega, rfl, rfl, Lib.hid ⟨Hb2.out, Hr0.out, Hr1.out⟩⟩
  case round =>
    obtain ⟨j, hj, rfl, hgk, Hw⟩ := hrel
    have Hgk := Lib.hid hgk; clear hgk Hb2 Hr0 Hr1
    have hsz : W.heap.size + 1 < wr.heap.size := (Array.getElem?_eq_some_iff.1 Hw.out.2.2).1
    have Hsz := Lib.hid hsz
    clear hsz
    rcases (show j = 0 ∨ j = 1 ∨ j = 2 ∨ j = 3 by omega) with rfl | rfl | rfl | rfl
    · rw [show ((0 : Nat) : Int) = 0 from rfl]
      have ix := idx3_0
      by_cases ha : x.a0 = -1
      · go_wp2
        go_roundg (gk - 1)
        case measure => have := Hgk.out; omega
        case rel => exact ⟨1, by omega, rfl, by have := Hgk.out; omega, Lib.hid ⟨Hw.out.1, by rw [Hw.out.2.1]; simp [opC, E.canTo, ha, E.cr_none], Hw.out.2.2⟩⟩
      · obtain ⟨c, hc, hcl, hcr⟩ := E.cr_class Hx.out.1 ha
        have hcc := Hcall.out wr Hw.out.1 c hcl
        rw [← hc] at hcc
        have Hcc := Lib.hid hcc
        have hr := Hw.out.2.1
        have hf : wr.frozen? ⟨W.heap.size, 3, none⟩ = false := frozen_row hr _
        have hcell : wr.cell? ⟨W.heap.size, 3, none⟩ = some (.int .i64 x.a0) := by rw [cell_of_row _ _ _ _ _ (0, 0) hr]; rfl
        have Ha := Lib.hid ha
        have Hcr := Lib.hid hcr
        have Hce := Lib.hid hc
        clear hcl hcr hcc hr hc
        go_wp2_with fail
        (with_reducible refine Hcc.out.mono ?_)
        rintro e w2 ⟨rfl, rfl⟩
        go_wp2
        go_roundg (gk - 1)
        case measure => have := Hgk.out; omega
        case rel =>
          refine ⟨1, by omega, rfl, by have := Hgk.out; omega, Lib.hid ⟨Hw.out.1.setCell (p := ⟨W.heap.size, 3, none⟩) (Nat.le_refl _) _, ?_, ?_⟩⟩
          · rw [heap_setCell_same _ _ 3 _ _ _ Hw.out.2.1]
            simp [opC, E.canTo, Hcr.out]
          · exact (heap_setCell_other _ _ _ _ (by simp)).trans Hw.out.2.2
    · rw [show ((1 : Nat) : Int) = 1 from rfl]
      have ix := idx3_1
      by_cases ha : x.a1 = -1
      · go_wp2
        go_roundg (gk - 1)
        case measure => have := Hgk.out; omega
        case rel => exact ⟨2, by omega, rfl, by have := Hgk.out; omega, Lib.hid ⟨Hw.out.1, by rw [Hw.out.2.1]; simp [opC, E.canTo, ha, E.cr_none], Hw.out.2.2⟩⟩
      · obtain ⟨c, hc, hcl, hcr⟩ := E.cr_class Hx.out.2.1 ha
        have hcc := Hcall.out wr Hw.out.1 c hcl
        rw [← hc] at hcc
        have Hcc := Lib.hid hcc
        have hr := Hw.out.2.1
        have hf : wr.frozen? ⟨W.heap.size, 4, none⟩ = false := frozen_row hr _
        have hcell : wr.cell? ⟨W.heap.size, 4, none⟩ = some (.int .i64 x.a1) := by rw [cell_of_row _ _ _ _ _ (0, 0) hr]; rfl
        have Ha := Lib.hid ha
        have Hcr := Lib.hid hcr
        have Hce := Lib.hid hc
        clear hcl hcr hcc hr hc
        go_wp2_with fail
        (with_reducible refine Hcc.out.mono ?_)
        rintro e w2 ⟨rfl, rfl⟩
        go_wp2
        go_roundg (gk - 1)
        case measure => have := Hgk.out; omega
        case rel =>
          refine ⟨2, by omega, rfl, by have := Hgk.out; omega, Lib.hid ⟨Hw.out.1.setCell (p := ⟨W.heap.size, 4, none⟩) (Nat.le_refl _) _, ?_, ?_⟩⟩
          · rw [heap_setCell_same _ _ 4 _ _ _ Hw.out.2.1]
            simp [opC, E.canTo, Hcr.out]
          · exact (heap_setCell_other _ _ _ _ (by simp)).trans Hw.out.2.2
    · rw [show ((2 : Nat) : Int) = 2 from rfl]
      have ix := idx3_2
      by_cases ha : x.a2 = -1
      · go_wp2
        go_roundg (gk - 1)
        case measure => have := Hgk.out; omega
        case rel => exact ⟨3, by omega, rfl, by have := Hgk.out; omega, Lib.hid ⟨Hw.out.1, by rw [Hw.out.2.1]; simp [opC, E.canTo, ha, E.cr_none], Hw.out.2.2⟩⟩
      · obtain ⟨c, hc, hcl, hcr⟩ := E.cr_class Hx.out.2.2 ha
        have hcc := Hcall.out wr Hw.out.1 c hcl
        rw [← hc] at hcc
        have Hcc := Lib.hid hcc
        have hr := Hw.out.2.1
        have hf : wr.frozen? ⟨W.heap.size, 5, none⟩ = false := frozen_row hr _
        have hcell : wr.cell? ⟨W.heap.size, 5, none⟩ = some (.int .i64 x.a2) := by rw [cell_of_row _ _ _ _ _ (0, 0) hr]; rfl
        have Ha := Lib.hid ha
        have Hcr := Lib.hid hcr
        have Hce := Lib.hid hc
        clear hcl hcr hcc hr hc
        go_wp2_with fail
        (with_reducible refine Hcc.out.mono ?_)
        rintro e w2 ⟨rfl, rfl⟩
        go_wp2
        go_roundg (gk - 1)
        case measure => have := Hgk.out; omega
        case rel =>
          refine ⟨3, by omega, rfl, by have := Hgk.out; omega, Lib.hid ⟨Hw.out.1.setCell (p := ⟨W.heap.size, 5, none⟩) (Nat.le_refl _) _, ?_, ?_⟩⟩
          · rw [heap_setCell_same _ _ 5 _ _ _ Hw.out.2.1]
            simp [opC, E.canTo, Hcr.out]
          · exact (heap_setCell_other _ _ _ _ (by simp)).trans Hw.out.2.2
    · rw [show ((3 : Nat) : Int) = 3 from rfl]
      have hr := Hw.out.2.1
      rw [E.canTo_all] at hr
      unfold opC at hr
      obtain ⟨y0, y1, y2, y3, y4, y5⟩ := op6_cells hr
      have f0 := fun k => frozen_row Hw.out.2.2 k
      have z0 := f0 0
      have z1 := f0 1
      have z2 := f0 2
      have z3 := f0 3
      have z4 := f0 4
      have z5 := f0 5
      obtain ⟨v0, v1, v2, v3, v4, v5⟩ := op6_cells Hw.out.2.2
      clear f0
      generalize hq : E.can p x = q at *
      clear hr
      go_wp2
      refine bodyPost_ret (results_cell_row rfl _ _ (W.heap.size + 1) 85 (opC q) (0, 0) _ rfl (set6_row Hw.out.2.2 _ _ _ _ _ _) Tryz.underlying85 rfl (by kernel_rfl)) rfl ?_
      exact ⟨by subst hq; rfl, set6_below Hw.out.1 (by omega) _ _ _ _ _ _⟩
end Go.Proofs.YtcmlmjbpdaecbaaGreat
end
section
namespace Go.Proofs.YtcmlmjbpdaecbaaGreat
set_option linter.unusedVariables false
set_option linter.unusedSimpArgs false
namespace E

/-- the widths of the variables -/
structure Vr where
  a : Int
  b : Int
  c : Int
  d : Int
deriving DecidableEq
def Vr.get (v : Vr) : Nat → Int
  | 0 => v.a
  | 1 => v.b
  | 2 => v.c
  | _ => v.d
def Vr.set (v : Vr) (i : Nat) (x : Int) : Vr := match i with
  | 0 => { v with a := x }
  | 1 => { v with b := x }
  | 2 => { v with c := x }
  | _ => { v with d := x }
def Vr.zero : Vr := ⟨0, 0, 0, 0⟩

structure Gr where
  p : List Nat
  wd : List Int
  es : List (Opn × Nat)
  nm : List Nat
  vr : Vr
def Gr.new : Gr := ⟨[], [], [], [], Vr.zero⟩

/-- the class of an operation, and whether it is new -/
def Gr.put (s : Gr) (x : Opn) : Gr × Nat × Bool :=
  match AL.get s.es (can s.p x) with
  | some c => (s, root s.p c, false)
  | none => ({ s with p := s.p ++ [s.p.length], wd := s.wd ++ [x.w], es := s.es ++ [(can s.p x, s.p.length)] }, s.p.length, true)

/-- the operation of a node over the classes of those ahead of it -/
def opOf (cl : List Nat) (x : T.Nd) : Opn := ⟨x.op, x.w, x.imm, (x.args.map fun a => ((cl.getD a.toNat 0 : Nat) : Int)).getD 0 (-1), (x.args.map fun a => ((cl.getD a.toNat 0 : Nat) : Int)).getD 1 (-1), (x.args.map fun a => ((cl.getD a.toNat 0 : Nat) : Int)).getD 2 (-1)⟩

/-- a node with its variable; false: it has another width -/
def Gr.vars (s : Gr) (x : T.Nd) : Option Gr :=
  if x.op = 33 then (if s.vr.get x.imm.toNat ≠ 0 ∧ s.vr.get x.imm.toNat ≠ x.w then none else some { s with vr := s.vr.set x.imm.toNat x.w }) else some s
def Gr.adds : Gr → List Nat → List T.Nd → Option (Gr × List Nat)
  | s, cl, [] => some (s, cl)
  | s, cl, x :: l => match s.vars x with
    | none => none
    | some s1 => Gr.adds (s1.put (opOf cl x)).1 (cl ++ [(s1.put (opOf cl x)).2.1]) l

/-- what each part of a graph keeps to -/
structure Ok (p : List Nat) (wd : List Int) (es : List (Opn × Nat)) (nm : List Nat) : Prop where
  down : Down p
  wd : wd.length = p.length
  inn : In p es
  ar : ∀ e ∈ es, Ar p.length e.1
  nm : ∀ c ∈ nm, c < p.length
def Gr.Ok (s : Gr) : Prop := E.Ok s.p s.wd s.es s.nm

theorem getD_app {p : List Nat} {u : Nat} {c : Nat} : (p ++ [u]).getD c c = if c < p.length then p.getD c c else if c = p.length then u else c := by
  simp only [List.getD_eq_getElem?_getD]
  split
  · rename_i h; rw [List.getElem?_append_left h]
  · rename_i h
    rw [List.getElem?_append_right (by omega)]
    split
    · rename_i h2; subst h2; simp
    · rw [List.getElem?_eq_none (by simp; omega)]; rfl
theorem down_app {p : List Nat} (hd : Down p) : Down (p ++ [p.length]) := fun c hc => by
  rw [getD_app]
  split
  · rename_i h; exact hd c h
  · split <;> omega
theorem root_app {p : List Nat} (hd : Down p) (c : Nat) : root (p ++ [p.length]) c = root p c := by
  induction c using Nat.strongRecOn with
  | _ c ih =>
    have e : (p ++ [p.length]).getD c c = p.getD c c := by
      rw [getD_app]
      split
      · rfl
      · rename_i h
        rw [getD_out (by omega)]
        split <;> omega
    rcases Nat.lt_or_ge (p.getD c c) c with h | h
    · conv => lhs; unfold root
      conv => rhs; unfold root
      rw [dif_pos (by rw [e]; exact h), dif_pos h, e]
      exact ih _ h
    · conv => lhs; unfold root
      conv => rhs; unfold root
      rw [dif_neg (by rw [e]; omega), dif_neg (by omega)]
theorem cr_app {p : List Nat} (hd : Down p) (a : Int) : cr (p ++ [p.length]) a = cr p a := by
  unfold cr; rw [root_app hd]
theorem can_app {p : List Nat} (hd : Down p) (x : Opn) : can (p ++ [p.length]) x = can p x := by
  unfold can; rw [cr_app hd, cr_app hd, cr_app hd]

theorem get_in {s : List (Opn × Nat)} {x : Opn} {c : Nat} (h : AL.get s x = some c) : (x, c) ∈ s := AL.get_mem h

theorem Gr.put_ok {s : Gr} (h : s.Ok) {x : Opn} (hx : Ar s.p.length x) : (s.put x).1.Ok ∧ (s.put x).2.1 < (s.put x).1.p.length ∧ s.p.length ≤ (s.put x).1.p.length ∧ (s.put x).1.p.length ≤ s.p.length + 1 ∧ (s.put x).1.nm = s.nm ∧ (s.put x).1.vr = s.vr := by
  unfold Gr.put
  cases hg : AL.get s.es (can s.p x) with
  | some c => exact ⟨h, root_lt (h.inn _ (get_in hg)), Nat.le_refl _, by dsimp only; omega, rfl, rfl⟩
  | none =>
    dsimp only
    refine ⟨⟨down_app h.down, by simp [h.wd], ?_, ?_, ?_⟩, by simp, by simp, by simp, rfl, rfl⟩
    · intro e he
      rw [List.length_append, List.length_singleton]
      rcases List.mem_append.1 he with he | he
      · have := h.inn e he; omega
      · simp at he; subst he; dsimp only; omega
    · intro e he
      rw [List.length_append, List.length_singleton]
      rcases List.mem_append.1 he with he | he
      · exact (h.ar e he).mono (by omega)
      · simp at he; subst he; exact (ar_can hx).mono (by omega)
    · intro c hc
      rw [List.length_append, List.length_singleton]
      have := h.nm c hc
      omega
end E
end Go.Proofs.YtcmlmjbpdaecbaaGreat
end
section
namespace Go.Proofs.YtcmlmjbpdaecbaaGreat
open Go.RowKit Go.MapKept Go.Maps Go.WideMaps
set_option linter.unusedVariables false
set_option linter.unusedSimpArgs false

/-- an entry as seven cells -/
def entC (e : E.Opn × Nat) : List Value := [.int .i64 e.1.op, .int .i64 e.1.w, .int .u32 e.1.imm, .int .i64 e.1.a0, .int .i64 e.1.a1, .int .i64 e.1.a2, .int .i64 (e.2 : Int)]
def entCs (l : List (E.Opn × Nat)) : List Value := l.flatMap entC
theorem entCs_app (l m : List (E.Opn × Nat)) : entCs (l ++ m) = entCs l ++ entCs m := by simp [entCs]
theorem entCs_at : ∀ {l : List (E.Opn × Nat)} {k : Nat} {e : E.Opn × Nat}, l[k]? = some e → ∀ i, i < 7 → (entCs l)[k * 7 + i]? = (entC e)[i]? := by
  intro l
  induction l with
  | nil => intro k e h; simp at h
  | cons x l ih =>
    intro k e h i hi
    show (entC x ++ entCs l)[k * 7 + i]? = _
    have hx : (entC x).length = 7 := rfl
    cases k with
    | zero =>
      simp at h
      subst h
      rw [Nat.zero_mul, Nat.zero_add, List.getElem?_append_left (by omega)]
    | succ k =>
      rw [List.getElem?_append_right (by omega), hx, show (k + 1) * 7 + i - 7 = k * 7 + i by omega]
      exact ih (by simpa using h) i hi

section
variable {w w' : World} {e : TypeId} {s n : Nat} {v : Value} {xs : List Value}
theorem OwnAt.row_ex (h : OwnAt w e s v n xs) {g : Nat} (hg : v.ownBlock = some g) : ∃ cur, w.heap[g]? = some (.cells cur e (0, 0)) := by
  rcases h.2 with ⟨rfl, _⟩ | ⟨g', off, cap, cur, rfl, hgg, _⟩
  · simp [Value.ownBlock] at hg
  · simp [Value.ownBlock] at hg
    subst hg
    exact ⟨cur, hgg⟩
theorem OwnAt.ne_row (h : OwnAt w e s v n xs) {b : Nat} {cs : Array Value} {T : TypeId} {fr : Nat × Nat} (hb : w.heap[b]? = some (.cells cs T fr)) (hT : T ≠ e) : v.ownBlock ≠ some b := fun hg => by
  obtain ⟨cur, hc⟩ := h.row_ex hg
  rw [hb] at hc
  injection hc with hc
  injection hc with _ hc _
  exact hT hc
theorem OwnAt.ne_map (h : OwnAt w e s v n xs) {b : Nat} {es : Array MapEntry} {cl : Nat} (hb : w.heap[b]? = some (.map es cl)) : v.ownBlock ≠ some b := fun hg => by
  obtain ⟨cur, hc⟩ := h.row_ex hg
  rw [hb] at hc
  cases hc
end

/-- the parts of a graph as they lie in memory: parents, widths, entries, what is known, names, the widths of variables -/
structure GrC (w : World) (b : Nat) (p : List Nat) (wd : List Int) (es kn : List (E.Opn × Nat)) (nm : List Nat) (vr : E.Vr) (v1 v2 v3 v4 : Value) (kb : Nat) : Prop where
  row : w.heap[b]? = some (.cells #[v1, v2, v3, .map (some kb), v4, .int .i64 vr.a, .int .i64 vr.b, .int .i64 vr.c, .int .i64 vr.d] 80 (0, 0))
  o1 : OwnAt w 3 1 v1 p.length (ivs p)
  o2 : OwnAt w 3 1 v2 wd.length (wd.map (.int .i64))
  o3 : OwnAt w 87 7 v3 es.length (entCs es)
  km : MapAt Tryz.prog 85 opV NatE w kb kn
  o4 : OwnAt w 3 1 v4 nm.length (ivs nm)
  d12 : ∀ g, v1.ownBlock = some g → v2.ownBlock ≠ some g
  d14 : ∀ g, v1.ownBlock = some g → v4.ownBlock ≠ some g
  d24 : ∀ g, v2.ownBlock = some g → v4.ownBlock ≠ some g

/-- the blocks of a graph -/
def MG (b : Nat) (v1 v2 v3 v4 : Value) (kb i : Nat) : Prop := i = b ∨ i = kb ∨ v1.ownBlock = some i ∨ v2.ownBlock = some i ∨ v3.ownBlock = some i ∨ v4.ownBlock = some i

section
variable {w w' : World} {b : Nat} {p : List Nat} {wd : List Int} {es kn : List (E.Opn × Nat)} {nm : List Nat} {vr : E.Vr} {v1 v2 v3 v4 : Value} {kb : Nat}

theorem GrC.lt (h : GrC w b p wd es kn nm vr v1 v2 v3 v4 kb) : ∀ i, MG b v1 v2 v3 v4 kb i → i < w.heap.size := by
  rintro i (rfl | rfl | h1 | h1 | h1 | h1)
  · exact (Array.getElem?_eq_some_iff.1 h.row).1
  · exact h.km.lt
  · exact h.o1.lt _ h1
  · exact h.o2.lt _ h1
  · exact h.o3.lt _ h1
  · exact h.o4.lt _ h1
theorem GrC.frame (h : GrC w b p wd es kn nm vr v1 v2 v3 v4 kb) (hs : ∀ i, MG b v1 v2 v3 v4 kb i → w'.heap[i]? = w.heap[i]?) : GrC w' b p wd es kn nm vr v1 v2 v3 v4 kb :=
  ⟨(hs b (.inl rfl)).trans h.row, h.o1.same fun g hg => hs g (.inr (.inr (.inl hg))), h.o2.same fun g hg => hs g (.inr (.inr (.inr (.inl hg)))), h.o3.same fun g hg => hs g (.inr (.inr (.inr (.inr (.inl hg))))), h.km.keep (hs kb (.inr (.inl rfl))) (fun _ _ _ h => h), h.o4.same fun g hg => hs g (.inr (.inr (.inr (.inr (.inr hg))))), h.d12, h.d14, h.d24⟩
theorem GrC.below (h : GrC w b p wd es kn nm vr v1 v2 v3 v4 kb) (hb : Below w.heap.size w w') : GrC w' b p wd es kn nm vr v1 v2 v3 v4 kb := h.frame fun i hi => hb.block i (h.lt i hi)
theorem GrC.kne (h : GrC w b p wd es kn nm vr v1 v2 v3 v4 kb) : kb ≠ b := fun e => by
  obtain ⟨es', cl, h1, _⟩ := h.km
  rw [e, h.row] at h1
  cases h1
theorem GrC.ne1 (h : GrC w b p wd es kn nm vr v1 v2 v3 v4 kb) : v1.ownBlock ≠ some b := h.o1.ne_row h.row (by decide)
theorem GrC.ne2 (h : GrC w b p wd es kn nm vr v1 v2 v3 v4 kb) : v2.ownBlock ≠ some b := h.o2.ne_row h.row (by decide)
theorem GrC.ne3 (h : GrC w b p wd es kn nm vr v1 v2 v3 v4 kb) : v3.ownBlock ≠ some b := h.o3.ne_row h.row (by decide)
theorem GrC.ne4 (h : GrC w b p wd es kn nm vr v1 v2 v3 v4 kb) : v4.ownBlock ≠ some b := h.o4.ne_row h.row (by decide)
theorem GrC.nk1 (h : GrC w b p wd es kn nm vr v1 v2 v3 v4 kb) : v1.ownBlock ≠ some kb := let ⟨_, _, h1, _⟩ := h.km; h.o1.ne_map h1
theorem GrC.nk2 (h : GrC w b p wd es kn nm vr v1 v2 v3 v4 kb) : v2.ownBlock ≠ some kb := let ⟨_, _, h1, _⟩ := h.km; h.o2.ne_map h1
theorem GrC.nk3 (h : GrC w b p wd es kn nm vr v1 v2 v3 v4 kb) : v3.ownBlock ≠ some kb := let ⟨_, _, h1, _⟩ := h.km; h.o3.ne_map h1
theorem GrC.nk4 (h : GrC w b p wd es kn nm vr v1 v2 v3 v4 kb) : v4.ownBlock ≠ some kb := let ⟨_, _, h1, _⟩ := h.km; h.o4.ne_map h1
theorem GrC.n13 (h : GrC w b p wd es kn nm vr v1 v2 v3 v4 kb) : ∀ g, v1.ownBlock = some g → v3.ownBlock ≠ some g := fun g hg => let ⟨_, hc⟩ := h.o1.row_ex hg; h.o3.ne_row hc (by decide)
theorem GrC.n23 (h : GrC w b p wd es kn nm vr v1 v2 v3 v4 kb) : ∀ g, v2.ownBlock = some g → v3.ownBlock ≠ some g := fun g hg => let ⟨_, hc⟩ := h.o2.row_ex hg; h.o3.ne_row hc (by decide)
theorem GrC.n43 (h : GrC w b p wd es kn nm vr v1 v2 v3 v4 kb) : ∀ g, v4.ownBlock = some g → v3.ownBlock ≠ some g := fun g hg => let ⟨_, hc⟩ := h.o4.row_ex hg; h.o3.ne_row hc (by decide)

/-- the cells of the head -/
theorem GrC.cells (h : GrC w b p wd es kn nm vr v1 v2 v3 v4 kb) : w.cell? ⟨b, 0, none⟩ = some v1 ∧ w.cell? ⟨b, 1, none⟩ = some v2 ∧ w.cell? ⟨b, 2, none⟩ = some v3 ∧ w.cell? ⟨b, 3, none⟩ = some (.map (some kb)) ∧ w.cell? ⟨b, 4, none⟩ = some v4 := by
  refine ⟨?_, ?_, ?_, ?_, ?_⟩
  all_goals rw [cell_of_row _ _ _ _ _ (0, 0) h.row]; rfl
theorem GrC.slP (h : GrC w b p wd es kn nm vr v1 v2 v3 v4 kb) : ∃ A c, v1 = .slice A p.length c ∧ SlAt (IntR .i64) w A p.length (ini p) := by
  obtain ⟨A, c, rfl⟩ := h.o1.form
  have ho := h.o1
  rw [show ivs p = (ini p).map (Value.int .i64) by simp [ivs, ini]] at ho
  exact ⟨A, c, rfl, ho.slInts⟩
/-- find and canonical of a graph -/
theorem GrC.find (h : GrC w b p wd es kn nm vr v1 v2 v3 v4 kb) (hd : E.Down p) (c : Nat) (hc : c < p.length) : Calls Tryz.prog 100 #[.pointer (some ⟨b, 0, none⟩), .int .i64 (c : Int)] w fun e W' => e = .returned (.int .i64 (E.root p c : Nat)) ∧ W' = w := by
  obtain ⟨A, ca, rfl, hs⟩ := h.slP
  exact gfind_any h.cells.1 hs hd c hc
theorem GrC.canonical (h : GrC w b p wd es kn nm vr v1 v2 v3 v4 kb) (hd : E.Down p) {x : E.Opn} (hx : E.Ar p.length x) : Calls Tryz.prog 99 #[.pointer (some ⟨b, 0, none⟩), opV x] w fun e W' => e = .returned (opV (E.can p x)) ∧ Below w.heap.size w W' := by
  obtain ⟨A, ca, rfl, hs⟩ := h.slP
  exact gcanonical_any (h.lt b (.inl rfl)) h.cells.1 hs hd hx

/-- a new list of parents behind an append -/
theorem GrC.app1 (h : GrC w b p wd es kn nm vr v1 v2 v3 v4 kb) {v1' : Value} {c : Nat} (hown : OwnAt w' 3 1 v1' (p.length + 1) (ivs p ++ [.int .i64 (c : Int)])) (hg : w.grownBy w' v1.ownBlock) (hat : v1'.ownBlock = v1.ownBlock ∨ ∃ k, w.heap.size ≤ k ∧ v1'.ownBlock = some k) :
    GrC (w'.setCell ⟨b, 0, none⟩ v1') b (p ++ [c]) wd es kn nm vr v1' v2 v3 v4 kb := by
  have ho : ∀ i, i < w.heap.size → i ≠ b → v1.ownBlock ≠ some i → (w'.setCell ⟨b, 0, none⟩ v1').heap[i]? = w.heap[i]? := fun i hi hb h1 => by
    rw [Below.heap_setCell _ _ _ i (fun e => hb (by rw [e])), hg.block i hi (fun e => h1 e.symm)]
  have hrw : w'.heap[b]? = _ := (hg.block b (h.lt b (.inl rfl)) (fun e => h.ne1 e.symm)).trans h.row
  have hne : v1'.ownBlock ≠ some b := by
    rcases hat with e | ⟨k, hk, e⟩
    · rw [e]; exact h.ne1
    · rw [e]; intro e'; injection e' with e'; have := h.lt b (.inl rfl); omega
  have hd : ∀ {v : Value}, (∀ g, v1.ownBlock = some g → v.ownBlock ≠ some g) → (∀ g, v.ownBlock = some g → g < w.heap.size) → ∀ g, v1'.ownBlock = some g → v.ownBlock ≠ some g := fun hd hl g hg' => by
    rcases hat with e | ⟨k, hk, e⟩
    · exact hd g (e ▸ hg')
    · rw [e] at hg'; injection hg' with hg'; intro e'; have := hl g e'; omega
  refine ⟨heap_setCell_same _ b 0 _ _ v1' hrw, ?_, h.o2.same fun g hg' => ho g (h.o2.lt g hg') (fun e => h.ne2 (e ▸ hg')) (fun e => h.d12 g e hg'), h.o3.same fun g hg' => ho g (h.o3.lt g hg') (fun e => h.ne3 (e ▸ hg')) (fun e => h.n13 g e hg'), h.km.keep (ho kb h.km.lt h.kne h.nk1) (fun _ _ _ h => h), h.o4.same fun g hg' => ho g (h.o4.lt g hg') (fun e => h.ne4 (e ▸ hg')) (fun e => h.d14 g e hg'), hd h.d12 h.o2.lt, hd h.d14 h.o4.lt, h.d24⟩
  rw [List.length_append, List.length_singleton, show ivs (p ++ [c]) = ivs p ++ [.int .i64 (c : Int)] by simp [ivs]]
  exact hown.setCell hne _
/-- .. of widths -/
theorem GrC.app2 (h : GrC w b p wd es kn nm vr v1 v2 v3 v4 kb) {v2' : Value} {c : Int} (hown : OwnAt w' 3 1 v2' (wd.length + 1) (wd.map (.int .i64) ++ [.int .i64 c])) (hg : w.grownBy w' v2.ownBlock) (hat : v2'.ownBlock = v2.ownBlock ∨ ∃ k, w.heap.size ≤ k ∧ v2'.ownBlock = some k) :
    GrC (w'.setCell ⟨b, 1, none⟩ v2') b p (wd ++ [c]) es kn nm vr v1 v2' v3 v4 kb := by
  have ho : ∀ i, i < w.heap.size → i ≠ b → v2.ownBlock ≠ some i → (w'.setCell ⟨b, 1, none⟩ v2').heap[i]? = w.heap[i]? := fun i hi hb h1 => by
    rw [Below.heap_setCell _ _ _ i (fun e => hb (by rw [e])), hg.block i hi (fun e => h1 e.symm)]
  have hrw : w'.heap[b]? = _ := (hg.block b (h.lt b (.inl rfl)) (fun e => h.ne2 e.symm)).trans h.row
  have hne : v2'.ownBlock ≠ some b := by
    rcases hat with e | ⟨k, hk, e⟩
    · rw [e]; exact h.ne2
    · rw [e]; intro e'; injection e' with e'; have := h.lt b (.inl rfl); omega
  refine ⟨heap_setCell_same _ b 1 _ _ v2' hrw, h.o1.same fun g hg' => ho g (h.o1.lt g hg') (fun e => h.ne1 (e ▸ hg')) (fun e => h.d12 g hg' e), ?_, h.o3.same fun g hg' => ho g (h.o3.lt g hg') (fun e => h.ne3 (e ▸ hg')) (fun e => h.n23 g e hg'), h.km.keep (ho kb h.km.lt h.kne h.nk2) (fun _ _ _ h => h), h.o4.same fun g hg' => ho g (h.o4.lt g hg') (fun e => h.ne4 (e ▸ hg')) (fun e => h.d24 g e hg'), fun g hg' e' => ?_, h.d14, fun g hg' e' => ?_⟩
  · rw [List.length_append, List.length_singleton, List.map_append]
    exact hown.setCell hne _
  · rcases hat with e | ⟨k, hk, e⟩
    · exact h.d12 g hg' (e ▸ e')
    · rw [e] at e'; injection e' with e'; have := h.o1.lt g hg'; omega
  · rcases hat with e | ⟨k, hk, e⟩
    · exact h.d24 g (e ▸ hg') e'
    · rw [e] at hg'; injection hg' with hg'; have := h.o4.lt g e'; omega
/-- .. of entries -/
theorem GrC.app3 (h : GrC w b p wd es kn nm vr v1 v2 v3 v4 kb) {v3' : Value} {c : E.Opn × Nat} (hown : OwnAt w' 87 7 v3' (es.length + 1) (entCs es ++ entC c)) (hg : w.grownBy w' v3.ownBlock) (hat : v3'.ownBlock = v3.ownBlock ∨ ∃ k, w.heap.size ≤ k ∧ v3'.ownBlock = some k) :
    GrC (w'.setCell ⟨b, 2, none⟩ v3') b p wd (es ++ [c]) kn nm vr v1 v2 v3' v4 kb := by
  have ho : ∀ i, i < w.heap.size → i ≠ b → v3.ownBlock ≠ some i → (w'.setCell ⟨b, 2, none⟩ v3').heap[i]? = w.heap[i]? := fun i hi hb h1 => by
    rw [Below.heap_setCell _ _ _ i (fun e => hb (by rw [e])), hg.block i hi (fun e => h1 e.symm)]
  have hrw : w'.heap[b]? = _ := (hg.block b (h.lt b (.inl rfl)) (fun e => h.ne3 e.symm)).trans h.row
  have hne : v3'.ownBlock ≠ some b := by
    rcases hat with e | ⟨k, hk, e⟩
    · rw [e]; exact h.ne3
    · rw [e]; intro e'; injection e' with e'; have := h.lt b (.inl rfl); omega
  refine ⟨heap_setCell_same _ b 2 _ _ v3' hrw, h.o1.same fun g hg' => ho g (h.o1.lt g hg') (fun e => h.ne1 (e ▸ hg')) (fun e => h.n13 g hg' e), h.o2.same fun g hg' => ho g (h.o2.lt g hg') (fun e => h.ne2 (e ▸ hg')) (fun e => h.n23 g hg' e), ?_, h.km.keep (ho kb h.km.lt h.kne h.nk3) (fun _ _ _ h => h), h.o4.same fun g hg' => ho g (h.o4.lt g hg') (fun e => h.ne4 (e ▸ hg')) (fun e => h.n43 g hg' e), h.d12, h.d14, h.d24⟩
  rw [List.length_append, List.length_singleton, entCs_app, show entCs [c] = entC c by simp [entCs]]
  exact hown.setCell hne _
/-- .. of names -/
theorem GrC.app4 (h : GrC w b p wd es kn nm vr v1 v2 v3 v4 kb) {v4' : Value} {c : Nat} (hown : OwnAt w' 3 1 v4' (nm.length + 1) (ivs nm ++ [.int .i64 (c : Int)])) (hg : w.grownBy w' v4.ownBlock) (hat : v4'.ownBlock = v4.ownBlock ∨ ∃ k, w.heap.size ≤ k ∧ v4'.ownBlock = some k) :
    GrC (w'.setCell ⟨b, 4, none⟩ v4') b p wd es kn (nm ++ [c]) vr v1 v2 v3 v4' kb := by
  have ho : ∀ i, i < w.heap.size → i ≠ b → v4.ownBlock ≠ some i → (w'.setCell ⟨b, 4, none⟩ v4').heap[i]? = w.heap[i]? := fun i hi hb h1 => by
    rw [Below.heap_setCell _ _ _ i (fun e => hb (by rw [e])), hg.block i hi (fun e => h1 e.symm)]
  have hrw : w'.heap[b]? = _ := (hg.block b (h.lt b (.inl rfl)) (fun e => h.ne4 e.symm)).trans h.row
  have hne : v4'.ownBlock ≠ some b := by
    rcases hat with e | ⟨k, hk, e⟩
    · rw [e]; exact h.ne4
    · rw [e]; intro e'; injection e' with e'; have := h.lt b (.inl rfl); omega
  refine ⟨heap_setCell_same _ b 4 _ _ v4' hrw, h.o1.same fun g hg' => ho g (h.o1.lt g hg') (fun e => h.ne1 (e ▸ hg')) (fun e => h.d14 g hg' e), h.o2.same fun g hg' => ho g (h.o2.lt g hg') (fun e => h.ne2 (e ▸ hg')) (fun e => h.d24 g hg' e), h.o3.same fun g hg' => ho g (h.o3.lt g hg') (fun e => h.ne3 (e ▸ hg')) (fun e => h.n43 g e hg'), h.km.keep (ho kb h.km.lt h.kne h.nk4) (fun _ _ _ h => h), ?_, h.d12, fun g hg' e' => ?_, fun g hg' e' => ?_⟩
  · rw [List.length_append, List.length_singleton, show ivs (nm ++ [c]) = ivs nm ++ [.int .i64 (c : Int)] by simp [ivs]]
    exact hown.setCell hne _
  · rcases hat with e | ⟨k, hk, e⟩
    · exact h.d14 g hg' (e ▸ e')
    · rw [e] at e'; injection e' with e'; have := h.o1.lt g hg'; omega
  · rcases hat with e | ⟨k, hk, e⟩
    · exact h.d24 g hg' (e ▸ e')
    · rw [e] at e'; injection e' with e'; have := h.o2.lt g hg'; omega
/-- what is known turns -/
theorem GrC.know (h : GrC w b p wd es kn nm vr v1 v2 v3 v4 kb) {kn' : List (E.Opn × Nat)} (hg : w.grownBy w' (some kb)) (hm : MapAt Tryz.prog 85 opV NatE w' kb kn') : GrC w' b p wd es kn' nm vr v1 v2 v3 v4 kb := by
  have ho : ∀ i, i < w.heap.size → i ≠ kb → w'.heap[i]? = w.heap[i]? := fun i hi hb => hg.block i hi (fun e => hb (by injection e))
  exact ⟨(ho b (h.lt b (.inl rfl)) (fun e => h.kne e.symm)).trans h.row, h.o1.same fun g hg' => ho g (h.o1.lt g hg') (fun e => h.nk1 (e ▸ hg')), h.o2.same fun g hg' => ho g (h.o2.lt g hg') (fun e => h.nk2 (e ▸ hg')), h.o3.same fun g hg' => ho g (h.o3.lt g hg') (fun e => h.nk3 (e ▸ hg')), hm, h.o4.same fun g hg' => ho g (h.o4.lt g hg') (fun e => h.nk4 (e ▸ hg')), h.d12, h.d14, h.d24⟩
end
end Go.Proofs.YtcmlmjbpdaecbaaGreat
end
