/- Merged: G3, PlainEA. -/
import Derived.Test.YtcmlmjbpdaecbaaH24
import Derived.Test.YtcmlmjbpdaecbaaH09
import Derived.Test.YtcmlmjbpdaecbaaH01
set_option linter.unusedVariables false
set_option linter.unusedSimpArgs false
section
namespace Go.Proofs.Ytcmlmjbpdaecbaa
open Go.RowKit Go.MapKept Go.Maps Go.WideMaps
set_option linter.unusedVariables false
set_option linter.unusedSimpArgs false

/-- an operation as six cells -/
def opC (x : E.Opn) : Array Value := #[.int .i64 x.op, .int .i64 x.w, .int .u32 x.imm, .int .i64 x.a0, .int .i64 x.a1, .int .i64 x.a2]
namespace E
/-- the first operands are turned already -/
def canTo (p : List Nat) (j : Nat) (x : Opn) : Opn := ⟨x.op, x.w, x.imm, if 0 < j then cr p x.a0 else x.a0, if 1 < j then cr p x.a1 else x.a1, if 2 < j then cr p x.a2 else x.a2⟩
def argAt (x : Opn) : Nat → Int
  | 0 => x.a0
  | 1 => x.a1
  | _ => x.a2
theorem canTo_all (p : List Nat) (x : Opn) : canTo p 3 x = can p x := rfl
theorem canTo_none (p : List Nat) (x : Opn) : canTo p 0 x = x := rfl
theorem cr_class {p : List Nat} {a : Int} (h : ArOk p.length a) (h1 : a ≠ -1) : ∃ c : Nat, a = (c : Int) ∧ c < p.length ∧ cr p a = (root p c : Nat) := by
  rcases h with h | ⟨h2, h3⟩
  · exact absurd h h1
  · refine ⟨a.toNat, by omega, by omega, ?_⟩
    unfold cr
    rw [if_neg (by omega)]
theorem cr_none {p : List Nat} : cr p (-1) = -1 := by unfold cr; rw [if_pos (by omega)]
end E

theorem op6_cells {w : World} {g : Nat} {T : TypeId} {a0 a1 a2 a3 a4 a5 : Value} (h : w.heap[g]? = some (.cells #[a0, a1, a2, a3, a4, a5] T (0, 0))) :
    w.cell? ⟨g, 0, none⟩ = some a0 ∧ w.cell? ⟨g, 1, none⟩ = some a1 ∧ w.cell? ⟨g, 2, none⟩ = some a2 ∧ w.cell? ⟨g, 3, none⟩ = some a3 ∧ w.cell? ⟨g, 4, none⟩ = some a4 ∧ w.cell? ⟨g, 5, none⟩ = some a5 := by
  refine ⟨?_, ?_, ?_, ?_, ?_, ?_⟩
  all_goals rw [cell_of_row _ _ _ _ _ (0, 0) h]; rfl

theorem set6_row {w : World} {g : Nat} {T : TypeId} {a0 a1 a2 a3 a4 a5 : Value} (h : w.heap[g]? = some (.cells #[a0, a1, a2, a3, a4, a5] T (0, 0))) (u0 u1 u2 u3 u4 u5 : Value) :
    ((((((w.setCell ⟨g, 0, none⟩ u0).setCell ⟨g, 1, none⟩ u1).setCell ⟨g, 2, none⟩ u2).setCell ⟨g, 3, none⟩ u3).setCell ⟨g, 4, none⟩ u4).setCell ⟨g, 5, none⟩ u5).heap[g]? = some (.cells #[u0, u1, u2, u3, u4, u5] T (0, 0)) :=
  heap_setCell_same _ g 5 _ _ u5 (heap_setCell_same _ g 4 _ _ u4 (heap_setCell_same _ g 3 _ _ u3 (heap_setCell_same _ g 2 _ _ u2 (heap_setCell_same _ g 1 _ _ u1 (heap_setCell_same _ g 0 _ _ u0 h)))))
theorem set6_below {B : Nat} {W w : World} {g : Nat} (h : Below B W w) (hg : B ≤ g) (u0 u1 u2 u3 u4 u5 : Value) :
    Below B W ((((((w.setCell ⟨g, 0, none⟩ u0).setCell ⟨g, 1, none⟩ u1).setCell ⟨g, 2, none⟩ u2).setCell ⟨g, 3, none⟩ u3).setCell ⟨g, 4, none⟩ u4).setCell ⟨g, 5, none⟩ u5) :=
  (((((h.setCell (p := ⟨g, 0, none⟩) hg _).setCell (p := ⟨g, 1, none⟩) hg _).setCell (p := ⟨g, 2, none⟩) hg _).setCell (p := ⟨g, 3, none⟩) hg _).setCell (p := ⟨g, 4, none⟩) hg _).setCell (p := ⟨g, 5, none⟩) hg _
theorem idx3_0 (a b c : Int) (w : World) : (Instr.index 57 (.agg #[.int .i64 a, .int .i64 b, .int .i64 c]) (.int .i64 0)).run Try.prog w = .ok (.int .i64 a) w := by kernel_rfl
theorem idx3_1 (a b c : Int) (w : World) : (Instr.index 57 (.agg #[.int .i64 a, .int .i64 b, .int .i64 c]) (.int .i64 1)).run Try.prog w = .ok (.int .i64 b) w := by kernel_rfl
theorem idx3_2 (a b c : Int) (w : World) : (Instr.index 57 (.agg #[.int .i64 a, .int .i64 b, .int .i64 c]) (.int .i64 2)).run Try.prog w = .ok (.int .i64 c) w := by kernel_rfl

set_option maxRecDepth 100000 in
set_option maxHeartbeats 4000000 in
theorem gcanonical_any {p : List Nat} {b n ca : Nat} {A : Option Addr} {W : World} {x : E.Opn} (hb : b < W.heap.size) (hrow : W.cell? ⟨b, 0, none⟩ = some (.slice A n ca)) (hp : SlAt (IntR .i64) W A n (ini p)) (hd : E.Down p) (hx : E.Ar p.length x) :
    Calls Try.prog 32 #[.pointer (some ⟨b, 0, none⟩), opV x] W fun e W' => e = .returned (opV (E.can p x)) ∧ Below W.heap.size W W' := by
  obtain ⟨W2, hW2⟩ : ∃ W2, W2 = (W.alloc (.cells #[.int .i64 x.op, .int .i64 x.w, .int .u32 x.imm, .int .i64 x.a0, .int .i64 x.a1, .int .i64 x.a2] 59)).alloc (.cells #[.int .i64 0, .int .i64 0, .int .u32 0, .int .i64 0, .int .i64 0, .int .i64 0] 59) := ⟨_, rfl⟩
  have hb2 : Below W.heap.size W W2 := by rw [hW2]; exact ((Below.refl _ _).alloc (Nat.le_refl _) _).alloc (by simp) _
  have hr0 : W2.heap[W.heap.size]? = some (.cells (opC (E.canTo p 0 x)) 59 (0, 0)) := by rw [hW2]; exact row_alloc (heap_alloc_new W _) _
  have hr1 : W2.heap[W.heap.size + 1]? = some (.cells #[.int .i64 0, .int .i64 0, .int .u32 0, .int .i64 0, .int .i64 0, .int .i64 0] 59 (0, 0)) := by rw [hW2]; exact new_two W _ _
  have Hcall := Lib.hid (show ∀ X, Below W.heap.size W X → ∀ c, c < p.length → Calls Try.prog 33 #[.pointer (some ⟨b, 0, none⟩), .int .i64 (c : Int)] X fun e W' => e = .returned (.int .i64 (E.root p c : Nat)) ∧ W' = X from fun X hX c hc =>
    gfind_any ((hX.cell (p := ⟨b, 0, none⟩) hb).trans hrow) (hp.below (monoInt _) hX) hd c hc)
  have c3 : W2.cell? ⟨W.heap.size, 3, none⟩ = some (.int .i64 x.a0) := by rw [cell_of_row _ _ _ _ _ (0, 0) hr0]; rfl
  have c4 : W2.cell? ⟨W.heap.size, 4, none⟩ = some (.int .i64 x.a1) := by rw [cell_of_row _ _ _ _ _ (0, 0) hr0]; rfl
  have c5 : W2.cell? ⟨W.heap.size, 5, none⟩ = some (.int .i64 x.a2) := by rw [cell_of_row _ _ _ _ _ (0, 0) hr0]; rfl
  have Hr0 := Lib.hid hr0
  have Hr1 := Lib.hid hr1
  have Hb2 := Lib.hid hb2
  have Hx := Lib.hid hx
  clear hb hrow hp hd hb2 hr0 hr1 hx
  unfold opV
  go_enter Try.func32, Try.ntmps32
  go_wp2_with fail
  rw [← hW2]
  clear hW2
  go_wp2
  clear c3 c4 c5
  go_loopg [9] 3 (fun gg i wr => ∃ (j : Nat), j ≤ 3 ∧ i = .int .i64 (j : Int) ∧ gg + j = 3 ∧ Hid (Below W.heap.size W wr ∧ wr.heap[W.heap.size]? = some (.cells (opC (E.canTo p j x)) 59 (0, 0)) ∧ wr.heap[W.heap.size + 1]? = some (.cells #[.int .i64 0, .int .i64 0, .int .u32 0, .int .i64 0, .int .i64 0, .int .i64 0] 59 (0, 0))))
  case atStart => exact ⟨0, by omega, rfl, rfl, Lib.hid ⟨Hb2.out, Hr0.out, Hr1.out⟩⟩
  case round =>
    obtain ⟨j, hj, rfl, hgk, Hw⟩ := hrel
    have Hgk := Lib.hid hgk; clear hgk Hb2 Hr0 Hr1
    have hsz : W.heap.size + 1 < wr.heap.size := (Array.getElem?_eq_some_iff.1 Hw.out.2.2).1
    have Hsz := Lib.hid hsz
    clear hsz
    rcases (show j = 0 ∨ j = 1 ∨ j = 2 ∨ j = 3 by omega) with rfl | rfl | rfl | rfl
    · rw [show ((0 : Nat) : Int) = 0 from rfl]
      have ix := idx3_0
      by_cases ha : x.a0 = -1
      · go_wp2
        go_roundg (gk - 1)
        case measure => have := Hgk.out; omega
        case rel => exact ⟨1, by omega, rfl, by have := Hgk.out; omega, Lib.hid ⟨Hw.out.1, by rw [Hw.out.2.1]; simp [opC, E.canTo, ha, E.cr_none], Hw.out.2.2⟩⟩
      · obtain ⟨c, hc, hcl, hcr⟩ := E.cr_class Hx.out.1 ha
        have hcc := Hcall.out wr Hw.out.1 c hcl
        rw [← hc] at hcc
        have Hcc := Lib.hid hcc
        have hr := Hw.out.2.1
        have hf : wr.frozen? ⟨W.heap.size, 3, none⟩ = false := frozen_row hr _
        have hcell : wr.cell? ⟨W.heap.size, 3, none⟩ = some (.int .i64 x.a0) := by rw [cell_of_row _ _ _ _ _ (0, 0) hr]; rfl
        have Ha := Lib.hid ha
        have Hcr := Lib.hid hcr
        have Hce := Lib.hid hc
        clear hcl hcr hcc hr hc
        go_wp2_with fail
        (with_reducible refine Hcc.out.mono ?_)
        rintro e w2 ⟨rfl, rfl⟩
        go_wp2
        go_roundg (gk - 1)
        case measure => have := Hgk.out; omega
        case rel =>
          refine ⟨1, by omega, rfl, by have := Hgk.out; omega, Lib.hid ⟨Hw.out.1.setCell (p := ⟨W.heap.size, 3, none⟩) (Nat.le_refl _) _, ?_, ?_⟩⟩
          · rw [heap_setCell_same _ _ 3 _ _ _ Hw.out.2.1]
            simp [opC, E.canTo, Hcr.out]
          · exact (heap_setCell_other _ _ _ _ (by simp)).trans Hw.out.2.2
    · rw [show ((1 : Nat) : Int) = 1 from rfl]
      have ix := idx3_1
      by_cases ha : x.a1 = -1
      · go_wp2
        go_roundg (gk - 1)
        case measure => have := Hgk.out; omega
        case rel => exact ⟨2, by omega, rfl, by have := Hgk.out; omega, Lib.hid ⟨Hw.out.1, by rw [Hw.out.2.1]; simp [opC, E.canTo, ha, E.cr_none], Hw.out.2.2⟩⟩
      · obtain ⟨c, hc, hcl, hcr⟩ := E.cr_class Hx.out.2.1 ha
        have hcc := Hcall.out wr Hw.out.1 c hcl
        rw [← hc] at hcc
        have Hcc := Lib.hid hcc
        have hr := Hw.out.2.1
        have hf : wr.frozen? ⟨W.heap.size, 4, none⟩ = false := frozen_row hr _
        have hcell : wr.cell? ⟨W.heap.size, 4, none⟩ = some (.int .i64 x.a1) := by rw [cell_of_row _ _ _ _ _ (0, 0) hr]; rfl
        have Ha := Lib.hid ha
        have Hcr := Lib.hid hcr
        have Hce := Lib.hid hc
        clear hcl hcr hcc hr hc
        go_wp2_with fail
        (with_reducible refine Hcc.out.mono ?_)
        rintro e w2 ⟨rfl, rfl⟩
        go_wp2
        go_roundg (gk - 1)
        case measure => have := Hgk.out; omega
        case rel =>
          refine ⟨2, by omega, rfl, by have := Hgk.out; omega, Lib.hid ⟨Hw.out.1.setCell (p := ⟨W.heap.size, 4, none⟩) (Nat.le_refl _) _, ?_, ?_⟩⟩
          · rw [heap_setCell_same _ _ 4 _ _ _ Hw.out.2.1]
            simp [opC, E.canTo, Hcr.out]
          · exact (heap_setCell_other _ _ _ _ (by simp)).trans Hw.out.2.2
    · rw [show ((2 : Nat) : Int) = 2 from rfl]
      have ix := idx3_2
      by_cases ha : x.a2 = -1
      · go_wp2
        go_roundg (gk - 1)
        case measure => have := Hgk.out; omega
        case rel => exact ⟨3, by omega, rfl, by have := Hgk.out; omega, Lib.hid ⟨Hw.out.1, by rw [Hw.out.2.1]; simp [opC, E.canTo, ha, E.cr_none], Hw.out.2.2⟩⟩
      · obtain ⟨c, hc, hcl, hcr⟩ := E.cr_class Hx.out.2.2 ha
        have hcc := Hcall.out wr Hw.out.1 c hcl
        rw [← hc] at hcc
        have Hcc := Lib.hid hcc
        have hr := Hw.out.2.1
        have hf : wr.frozen? ⟨W.heap.size, 5, none⟩ = false := frozen_row hr _
        have hcell : wr.cell? ⟨W.heap.size, 5, none⟩ = some (.int .i64 x.a2) := by rw [cell_of_row _ _ _ _ _ (0, 0) hr]; rfl
        have Ha := Lib.hid ha
        have Hcr := Lib.hid hcr
        have Hce := Lib.hid hc
        clear hcl hcr hcc hr hc
        go_wp2_with fail
        (with_reducible refine Hcc.out.mono ?_)
        rintro e w2 ⟨rfl, rfl⟩
        go_wp2
        go_roundg (gk - 1)
        case measure => have := Hgk.out; omega
        case rel =>
          refine ⟨3, by omega, rfl, by have := Hgk.out; omega, Lib.hid ⟨Hw.out.1.setCell (p := ⟨W.heap.size, 5, none⟩) (Nat.le_refl _) _, ?_, ?_⟩⟩
          · rw [heap_setCell_same _ _ 5 _ _ _ Hw.out.2.1]
            simp [opC, E.canTo, Hcr.out]
          · exact (heap_setCell_other _ _ _ _ (by simp)).trans Hw.out.2.2
    · rw [show ((3 : Nat) : Int) = 3 from rfl]
      have hr := Hw.out.2.1
      rw [E.canTo_all] at hr
      unfold opC at hr
      obtain ⟨y0, y1, y2, y3, y4, y5⟩ := op6_cells hr
      have f0 := fun k => frozen_row Hw.out.2.2 k
      have z0 := f0 0
      have z1 := f0 1
      have z2 := f0 2
      have z3 := f0 3
      have z4 := f0 4
      have z5 := f0 5
      obtain ⟨v0, v1, v2, v3, v4, v5⟩ := op6_cells Hw.out.2.2
      clear f0
      generalize hq : E.can p x = q at *
      clear hr
      go_wp2
      refine bodyPost_ret (results_cell_row rfl _ _ (W.heap.size + 1) 59 (opC q) (0, 0) _ rfl (set6_row Hw.out.2.2 _ _ _ _ _ _) Try.underlying59 rfl (by kernel_rfl)) rfl ?_
      exact ⟨by subst hq; rfl, set6_below Hw.out.1 (by omega) _ _ _ _ _ _⟩
end Go.Proofs.Ytcmlmjbpdaecbaa
end
section
namespace Go.Proofs.Ytcmlmjbpdaecbaa
set_option linter.unusedVariables false
set_option linter.unusedSimpArgs false
namespace E

/-- the widths of the variables -/
structure Vr where
  a : Int
  b : Int
  c : Int
  d : Int
deriving DecidableEq
def Vr.get (v : Vr) : Nat → Int
  | 0 => v.a
  | 1 => v.b
  | 2 => v.c
  | _ => v.d
def Vr.set (v : Vr) (i : Nat) (x : Int) : Vr := match i with
  | 0 => { v with a := x }
  | 1 => { v with b := x }
  | 2 => { v with c := x }
  | _ => { v with d := x }
def Vr.zero : Vr := ⟨0, 0, 0, 0⟩

structure Gr where
  p : List Nat
  wd : List Int
  es : List (Opn × Nat)
  nm : List Nat
  vr : Vr
def Gr.new : Gr := ⟨[], [], [], [], Vr.zero⟩

/-- the class of an operation, and whether it is new -/
def Gr.put (s : Gr) (x : Opn) : Gr × Nat × Bool :=
  match AL.get s.es (can s.p x) with
  | some c => (s, root s.p c, false)
  | none => ({ s with p := s.p ++ [s.p.length], wd := s.wd ++ [x.w], es := s.es ++ [(can s.p x, s.p.length)] }, s.p.length, true)

/-- the operation of a node over the classes of those ahead of it -/
def opOf (cl : List Nat) (x : T.Nd) : Opn := ⟨x.op, x.w, x.imm, (x.args.map fun a => ((cl.getD a.toNat 0 : Nat) : Int)).getD 0 (-1), (x.args.map fun a => ((cl.getD a.toNat 0 : Nat) : Int)).getD 1 (-1), (x.args.map fun a => ((cl.getD a.toNat 0 : Nat) : Int)).getD 2 (-1)⟩

/-- a node with its variable; false: it has another width -/
def Gr.vars (s : Gr) (x : T.Nd) : Option Gr :=
  if x.op = 33 then (if s.vr.get x.imm.toNat ≠ 0 ∧ s.vr.get x.imm.toNat ≠ x.w then none else some { s with vr := s.vr.set x.imm.toNat x.w }) else some s
def Gr.adds : Gr → List Nat → List T.Nd → Option (Gr × List Nat)
  | s, cl, [] => some (s, cl)
  | s, cl, x :: l => match s.vars x with
    | none => none
    | some s1 => Gr.adds (s1.put (opOf cl x)).1 (cl ++ [(s1.put (opOf cl x)).2.1]) l

/-- what each part of a graph keeps to -/
structure Ok (p : List Nat) (wd : List Int) (es : List (Opn × Nat)) (nm : List Nat) : Prop where
  down : Down p
  wd : wd.length = p.length
  inn : In p es
  ar : ∀ e ∈ es, Ar p.length e.1
  nm : ∀ c ∈ nm, c < p.length
def Gr.Ok (s : Gr) : Prop := E.Ok s.p s.wd s.es s.nm

theorem getD_app {p : List Nat} {u : Nat} {c : Nat} : (p ++ [u]).getD c c = if c < p.length then p.getD c c else if c = p.length then u else c := by
  simp only [List.getD_eq_getElem?_getD]
  split
  · rename_i h; rw [List.getElem?_append_left h]
  · rename_i h
    rw [List.getElem?_append_right (by omega)]
    split
    · rename_i h2; subst h2; simp
    · rw [List.getElem?_eq_none (by simp; omega)]; rfl
theorem down_app {p : List Nat} (hd : Down p) : Down (p ++ [p.length]) := fun c hc => by
  rw [getD_app]
  split
  · rename_i h; exact hd c h
  · split <;> omega
theorem root_app {p : List Nat} (hd : Down p) (c : Nat) : root (p ++ [p.length]) c = root p c := by
  induction c using Nat.strongRecOn with
  | _ c ih =>
    have e : (p ++ [p.length]).getD c c = p.getD c c := by
      rw [getD_app]
      split
      · rfl
      · rename_i h
        rw [getD_out (by omega)]
        split <;> omega
    rcases Nat.lt_or_ge (p.getD c c) c with h | h
    · conv => lhs; unfold root
      conv => rhs; unfold root
      rw [dif_pos (by rw [e]; exact h), dif_pos h, e]
      exact ih _ h
    · conv => lhs; unfold root
      conv => rhs; unfold root
      rw [dif_neg (by rw [e]; omega), dif_neg (by omega)]
theorem cr_app {p : List Nat} (hd : Down p) (a : Int) : cr (p ++ [p.length]) a = cr p a := by
  unfold cr; rw [root_app hd]
theorem can_app {p : List Nat} (hd : Down p) (x : Opn) : can (p ++ [p.length]) x = can p x := by
  unfold can; rw [cr_app hd, cr_app hd, cr_app hd]

theorem get_in {s : List (Opn × Nat)} {x : Opn} {c : Nat} (h : AL.get s x = some c) : (x, c) ∈ s := AL.get_mem h

theorem Gr.put_ok {s : Gr} (h : s.Ok) {x : Opn} (hx : Ar s.p.length x) : (s.put x).1.Ok ∧ (s.put x).2.1 < (s.put x).1.p.length ∧ s.p.length ≤ (s.put x).1.p.length ∧ (s.put x).1.p.length ≤ s.p.length + 1 ∧ (s.put x).1.nm = s.nm ∧ (s.put x).1.vr = s.vr := by
  unfold Gr.put
  cases hg : AL.get s.es (can s.p x) with
  | some c => exact ⟨h, root_lt (h.inn _ (get_in hg)), Nat.le_refl _, by dsimp only; omega, rfl, rfl⟩
  | none =>
    dsimp only
    refine ⟨⟨down_app h.down, by simp [h.wd], ?_, ?_, ?_⟩, by simp, by simp, by simp, rfl, rfl⟩
    · intro e he
      rw [List.length_append, List.length_singleton]
      rcases List.mem_append.1 he with he | he
      · have := h.inn e he; omega
      · simp at he; subst he; dsimp only; omega
    · intro e he
      rw [List.length_append, List.length_singleton]
      rcases List.mem_append.1 he with he | he
      · exact (h.ar e he).mono (by omega)
      · simp at he; subst he; exact (ar_can hx).mono (by omega)
    · intro c hc
      rw [List.length_append, List.length_singleton]
      have := h.nm c hc
      omega
end E
end Go.Proofs.Ytcmlmjbpdaecbaa
end
