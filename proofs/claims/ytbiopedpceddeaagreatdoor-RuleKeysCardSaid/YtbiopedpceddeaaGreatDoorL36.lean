/- Merged: RY1, RY2, RY3, ROpenD. -/
import Derived.Test.YtbiopedpceddeaaGreatDoorL35
import Derived.Test.YtbiopedpceddeaaGreatDoorL04
import Derived.Test.YtbiopedpceddeaaGreatDoorRows
import Derived.Lib.LaidTab
import Derived.FnData
set_option linter.unusedVariables false
set_option linter.unusedSimpArgs false
section
namespace Go.Proofs.YtbiopedpceddeaaGreatDoor
open Go.RowKit
set_option linter.unusedVariables false
set_option linter.unusedSimpArgs false

namespace R
def shiftR : Rl := ⟨[⟨33, 0, 0, [], 0⟩, ⟨34, 0, 0, [], 0⟩, ⟨3, 0, 0, [0, 1], 0⟩], [⟨33, 0, 0, [], 0⟩, ⟨34, 0, 0, [], 0⟩, ⟨35, 0, 0, [1], 0⟩, ⟨11, 0, 0, [0, 2], 0⟩], [⟨1, 0, 0⟩]⟩
def shiftT : List T.Nd := [⟨33, 8, 0, [], 1⟩, ⟨0, 8, 0, [], 8⟩, ⟨3, 8, 0, [0, 1], 0⟩]
def shiftW : List T.Nd := [⟨33, 8, 0, [], 1⟩, ⟨0, 8, 0, [], 3⟩, ⟨11, 8, 0, [0, 1], 0⟩]
set_option maxRecDepth 100000 in
theorem rew_shift : rew shiftR shiftT = (shiftW, true, 0) := by decide +kernel
end R
end Go.Proofs.YtbiopedpceddeaaGreatDoor
end
section
namespace Go.Proofs.YtbiopedpceddeaaGreatDoor
open Go.RowKit
set_option linter.unusedVariables false
set_option linter.unusedSimpArgs false

theorem st_row {w : World} {g n : Nat} {ty : TypeId} {cells : Array Value} {xs : List T.Nd} (hr : w.heap[g]? = some (.cells cells ty (0, 0))) (hl : xs.length = n) (hn : n ≤ 100)
    (h : ∀ k x, xs[k]? = some x → ∃ A c, (∀ j u, (ndC x A c)[j]? = some u → cells[k * 5 + j]? = some u) ∧ SlAt (IntR .i64) w A x.args.length x.args ∧ 0 ≤ x.imm ∧ x.imm < 4294967296) : StAt 5 NdR w (some ⟨g, 0, none⟩) n xs := by
  refine ⟨hl, by omega, fun k x hx => ?_⟩
  obtain ⟨A, c, h1, h2, h3⟩ := h k x hx
  refine ⟨g, 0, ndC x A c, rfl, (Array.getElem?_eq_some_iff.1 hr).1, rfl, fun j u hu => ?_, A, c, rfl, h2, h3⟩
  rw [cell_of_row _ _ _ _ _ (0, 0) hr, show 0 + k * 5 + j = k * 5 + j by omega]
  exact h1 j u hu
theorem sl_row {w : World} {g : Nat} {ty : TypeId} {xs : List Int} (hr : w.heap[g]? = some (.cells (xs.map (Value.int .i64)).toArray ty (0, 0))) (hn : xs.length ≤ 100) : SlAt (IntR .i64) w (some ⟨g, 0, none⟩) xs.length xs := by
  refine ⟨rfl, by omega, fun k x hx => ⟨g, 0, .int .i64 x, rfl, (Array.getElem?_eq_some_iff.1 hr).1, ?_, rfl⟩⟩
  rw [cell_of_row _ _ _ _ _ (0, 0) hr, show 0 + k = k by omega]
  simp [hx]

theorem alloc_row {W w : World} {o : Obj} (h : W.alloc o = w) : w.heap[W.heap.size]? = some o ∧ w.heap.size = W.heap.size + 1 := by
  rw [← h]
  exact ⟨heap_alloc_new W o, by simp⟩
theorem row_step' {W w : World} {o o' : Obj} {g : Nat} (h : W.alloc o = w) (hr : W.heap[g]? = some o') : w.heap[g]? = some o' := by
  rw [← h]
  exact row_alloc hr _

def ShiftPost (W : World) (e : Ending) (W' : World) : Prop :=
  ∃ A1 A2 A3, e = .returned (.agg #[.slice A1 3 3, .slice A2 4 4, .slice A3 1 1]) ∧ RlAt W' R.shiftR 3 4 1 A1 A2 A3 ∧ Below W.heap.size W W'

set_option maxRecDepth 100000 in
set_option maxHeartbeats 1000000 in
theorem shift_any (W : World) : Calls Tryz.prog 42 #[] W (ShiftPost W) := by
  go_enter Tryz.func42, Tryz.ntmps42
  go_wp2
  generalize hw1 : W.alloc _ = w1
  generalize hw2 : w1.alloc _ = w2
  generalize hw3 : w2.alloc _ = w3
  generalize hw4 : w3.alloc _ = w4
  generalize hw5 : w4.alloc _ = w5
  generalize hw6 : w5.alloc _ = w6
  generalize hw7 : w6.alloc _ = w7
  obtain ⟨r1, s1⟩ := alloc_row hw1
  obtain ⟨r2, s2⟩ := alloc_row hw2
  obtain ⟨r3, s3⟩ := alloc_row hw3
  obtain ⟨r4, s4⟩ := alloc_row hw4
  obtain ⟨r5, s5⟩ := alloc_row hw5
  obtain ⟨r6, s6⟩ := alloc_row hw6
  obtain ⟨r7, s7⟩ := alloc_row hw7
  rw [s1] at r2 s2
  rw [s2] at r3 s3
  rw [s3] at r4 s4
  rw [s4] at r5 s5
  rw [s5] at r6 s6
  rw [s6] at r7 s7
  have r1 := row_step' hw7 (row_step' hw6 (row_step' hw5 (row_step' hw4 (row_step' hw3 (row_step' hw2 r1)))))
  have r2 := row_step' hw7 (row_step' hw6 (row_step' hw5 (row_step' hw4 (row_step' hw3 r2))))
  have r3 := row_step' hw7 (row_step' hw6 (row_step' hw5 (row_step' hw4 r3)))
  have r4 := row_step' hw7 (row_step' hw6 (row_step' hw5 r4))
  have r5 := row_step' hw7 (row_step' hw6 r5)
  have r6 := row_step' hw7 r6
  have hb : Below W.heap.size W w7 := by
    have b1 : Below W.heap.size W w1 := by rw [← hw1]; exact (Below.refl _ _).alloc (Nat.le_refl _) _
    have b2 : Below W.heap.size W w2 := by rw [← hw2]; exact b1.alloc (by omega) _
    have b3 : Below W.heap.size W w3 := by rw [← hw3]; exact b2.alloc (by omega) _
    have b4 : Below W.heap.size W w4 := by rw [← hw4]; exact b3.alloc (by omega) _
    have b5 : Below W.heap.size W w5 := by rw [← hw5]; exact b4.alloc (by omega) _
    have b6 : Below W.heap.size W w6 := by rw [← hw6]; exact b5.alloc (by omega) _
    rw [← hw7]; exact b6.alloc (by omega) _
  clear hw1 hw2 hw3 hw4 hw5 hw6 hw7
  refine bodyPost_ret (results_cell_row rfl _ _ W.heap.size _ _ (0, 0) _ rfl r1 Tryz.underlying33 rfl (by kernel_rfl)) rfl ?_
  refine ⟨_, _, _, rfl, ⟨?_, ?_, ?_, ?_, ?_⟩, hb⟩
  · refine st_row r3 rfl (by omega) fun k x hx => ?_
    rcases k with _ | _ | _ | k <;> simp [R.shiftR] at hx <;> subst hx
    · exact ⟨none, 0, fun j u hu => by rcases j with _ | _ | _ | _ | _ | j <;> simp [ndC] at hu ⊢ <;> exact hu, SlAt.nil_ _, by decide, by decide⟩
    · exact ⟨none, 0, fun j u hu => by rcases j with _ | _ | _ | _ | _ | j <;> simp [ndC] at hu ⊢ <;> exact hu, SlAt.nil_ _, by decide, by decide⟩
    · exact ⟨_, 2, fun j u hu => by rcases j with _ | _ | _ | _ | _ | j <;> simp [ndC] at hu ⊢ <;> exact hu, sl_row (xs := [0, 1]) r2 (by decide), by decide, by decide⟩
  · refine st_row r6 rfl (by omega) fun k x hx => ?_
    rcases k with _ | _ | _ | _ | k <;> simp [R.shiftR] at hx <;> subst hx
    · exact ⟨none, 0, fun j u hu => by rcases j with _ | _ | _ | _ | _ | j <;> simp [ndC] at hu ⊢ <;> exact hu, SlAt.nil_ _, by decide, by decide⟩
    · exact ⟨none, 0, fun j u hu => by rcases j with _ | _ | _ | _ | _ | j <;> simp [ndC] at hu ⊢ <;> exact hu, SlAt.nil_ _, by decide, by decide⟩
    · exact ⟨_, 1, fun j u hu => by rcases j with _ | _ | _ | _ | _ | j <;> simp [ndC] at hu ⊢ <;> exact hu, sl_row (xs := [1]) r4 (by decide), by decide, by decide⟩
    · exact ⟨_, 2, fun j u hu => by rcases j with _ | _ | _ | _ | _ | j <;> simp [ndC] at hu ⊢ <;> exact hu, sl_row (xs := [0, 2]) r5 (by decide), by decide, by decide⟩
  · refine ⟨rfl, by omega, fun k x hx => ?_⟩
    rcases k with _ | k <;> simp [R.shiftR] at hx
    subst hx
    refine ⟨_, 0, cdC ⟨1, 0, 0⟩, rfl, (Array.getElem?_eq_some_iff.1 r7).1, rfl, fun j u hu => ?_, rfl, by decide, by decide⟩
    rw [cell_of_row _ _ _ _ _ (0, 0) r7]
    rcases j with _ | _ | _ | j <;> simp [cdC] at hu ⊢ <;> exact hu
  · intro y hy
    simp [R.shiftR] at hy
    rcases hy with rfl | rfl | rfl <;> decide
  · intro y hy
    simp [R.shiftR] at hy
    rcases hy with rfl | rfl | rfl | rfl <;> decide
end Go.Proofs.YtbiopedpceddeaaGreatDoor
end
section
namespace Go.Proofs.YtbiopedpceddeaaGreatDoor
open Go.RowKit
set_option linter.unusedVariables false
set_option linter.unusedSimpArgs false

theorem st_nodes3 {w : World} {g g2 : Nat} {ty ty2 : TypeId} {o1 o2 o3 w1 w2 w3 i1 i2 i3 : Int} (hr : w.heap[g]? = some (.cells #[.int .i64 o1, .int .i64 w1, .int .i64 0, .slice none 0 0, .int .u32 i1, .int .i64 o2, .int .i64 w2, .int .i64 0, .slice none 0 0, .int .u32 i2, .int .i64 o3, .int .i64 w3, .int .i64 0, .slice (some ⟨g2, 0, none⟩) 2 2, .int .u32 i3] ty (0, 0)))
    (hr2 : w.heap[g2]? = some (.cells #[.int .i64 0, .int .i64 1] ty2 (0, 0))) (h1 : 0 ≤ i1 ∧ i1 < 4294967296) (h2 : 0 ≤ i2 ∧ i2 < 4294967296) (h3 : 0 ≤ i3 ∧ i3 < 4294967296) :
    StAt 5 NdR w (some ⟨g, 0, none⟩) 3 [⟨o1, w1, 0, [], i1⟩, ⟨o2, w2, 0, [], i2⟩, ⟨o3, w3, 0, [0, 1], i3⟩] := by
  refine st_row hr rfl (by omega) fun k x hx => ?_
  rcases k with _ | _ | _ | k <;> simp at hx <;> subst hx
  · exact ⟨none, 0, fun j u hu => by rcases j with _ | _ | _ | _ | _ | j <;> simp [ndC] at hu ⊢ <;> exact hu, SlAt.nil_ _, h1⟩
  · exact ⟨none, 0, fun j u hu => by rcases j with _ | _ | _ | _ | _ | j <;> simp [ndC] at hu ⊢ <;> exact hu, SlAt.nil_ _, h2⟩
  · exact ⟨_, 2, fun j u hu => by rcases j with _ | _ | _ | _ | _ | j <;> simp [ndC] at hu ⊢ <;> exact hu, sl_row (xs := [0, 1]) hr2 (by decide), h3⟩

set_option maxRecDepth 100000 in
set_option maxHeartbeats 1000000 in
theorem known_any (W : World) (hT : TabAt W) : Calls Tryz.prog 14 #[] W fun e W' => e = .returned (.bool true) ∧ Below W.heap.size W W' := by
  have HT := Lib.hid hT
  clear hT
  go_enter Tryz.func14, Tryz.ntmps14
  go_wp2_with fail
  generalize hw1 : W.alloc _ = w1
  generalize hw2 : w1.alloc _ = w2
  obtain ⟨r1, s1⟩ := alloc_row hw1
  obtain ⟨r2, s2⟩ := alloc_row hw2
  rw [s1] at r2 s2
  have r1 := row_step' hw2 r1
  have hst := st_nodes3 r2 r1 (by decide) (by decide) (by decide)
  have Hst := Lib.hid hst
  have hb2 : Below W.heap.size W w2 := by
    have b1 : Below W.heap.size W w1 := by rw [← hw1]; exact (Below.refl _ _).alloc (Nat.le_refl _) _
    rw [← hw2]; exact b1.alloc (by omega) _
  have Hb2 := Lib.hid hb2
  clear hw1 hw2 r1 r2 s1 s2 hst hb2
  (with_reducible refine (shift_any w2).mono ?_)
  rintro e w3 ⟨A1, A2, A3, rfl, hR, hb3⟩
  have HR := Lib.hid hR
  have Hb3 := Lib.hid hb3
  clear hR hb3
  have Hrw := Lib.hid (gRewrite_any (t := R.shiftT) (cl := 3) (cr := 4) (cp := 1) (ct := 3) HR.out (Hst.out.below monoNd Hb3.out) (by intro y hy; simp [R.shiftT] at hy; rcases hy with rfl | rfl | rfl <;> decide) ((HT.out.below Hb2.out).below Hb3.out))
  go_wp2_with fail
  (with_reducible refine Hrw.out.mono ?_)
  rintro e w4 ⟨v, rfl, hown, hb4⟩
  rw [R.rew_shift] at hown ⊢
  obtain ⟨A4, c4, rfl⟩ := hown.form
  have hs4 : StAt 5 NdR w4 A4 3 R.shiftW := hown.stAt (ndF_rel _) rfl
  have Hs4 := Lib.hid hs4
  have Hb4 := Lib.hid (Hb2.out.trans ((Hb3.out.trans (hb4.mono Hb3.out.size)).mono Hb2.out.size))
  clear hown hb4 hs4
  dsimp only [R.shiftW, List.length_cons, List.length_nil, Nat.zero_add, Nat.reduceAdd]
  go_wp2_with fail
  generalize hw5 : w4.alloc _ = w5
  generalize hw6 : w5.alloc _ = w6
  obtain ⟨r1, s1⟩ := alloc_row hw5
  obtain ⟨r2, s2⟩ := alloc_row hw6
  rw [s1] at r2 s2
  have r1 := row_step' hw6 r1
  have hst := st_nodes3 r2 r1 (by decide) (by decide) (by decide)
  have hb6 : Below w4.heap.size w4 w6 := by
    have b1 : Below w4.heap.size w4 w5 := by rw [← hw5]; exact (Below.refl _ _).alloc (Nat.le_refl _) _
    rw [← hw6]; exact b1.alloc (by omega) _
  have Hb6 := Lib.hid hb6
  have Hsm := Lib.hid (SameNodes_any (c := c4) (c' := 3) (Hs4.out.below monoNd Hb6.out) hst)
  clear hw5 hw6 r1 r2 s1 s2 hst hb6
  (with_reducible refine Hsm.out.mono ?_)
  rintro e w7 ⟨rfl, hb7⟩
  have Hb7 := Lib.hid (Hb4.out.trans ((Hb6.out.trans (hb7.mono Hb6.out.size)).mono Hb4.out.size))
  clear hb7
  go_wp2
  go_ret
  exact ⟨rfl, Hb7.out⟩
end Go.Proofs.YtbiopedpceddeaaGreatDoor
end
section
namespace Go.Proofs.YtbiopedpceddeaaGreatDoor
open Go.ChangeShapes Go.WideShapes Go.ChangeAt Go.RowKit Go.Deep
set_option linter.unusedVariables false
set_option linter.unusedSimpArgs false

theorem cellsRule : Tryz.prog.cellsOf 33 = 3 := by kernel_rfl
theorem cellsNodes : Tryz.prog.cellsOf 22 = 1 := by kernel_rfl
theorem cellsConds : Tryz.prog.cellsOf 31 = 1 := by kernel_rfl
theorem cellsCond : Tryz.prog.cellsOf 88 = 3 := by kernel_rfl
/-- a node, and its flags' range -/
def NdRf (W : World) (us : List Value) (x : T.Nd) : Prop := NdR W us x ∧ -9223372036854775808 ≤ x.fl ∧ x.fl ≤ 9223372036854775807

theorem readsNodeF {H : Type} {enc : TypeId × Value → H} {W : World} {fs : Array Field} (hfs : fs.size = 5) (hty : ∀ (j : Nat) (f : Field), fs[j]? = some f → f.type = (#[3, 3, 3, 60, 26]).getD j 0) : ReadsSt enc Tryz.prog W fs NdRf := by
  intro n us hl hu
  have get : ∀ j, j < 5 → ∃ u y, us[j]? = some u ∧ DataW.trod enc Tryz.prog W 0 (fun _ => true) true n ((#[3, 3, 3, 60, 26]).getD j 0) [u] = some y := fun j hj => by
    have hj' : j < fs.size := by omega
    obtain ⟨u, y, h1, h2⟩ := hu j fs[j] (Array.getElem?_eq_getElem hj')
    rw [hty j _ (Array.getElem?_eq_getElem hj')] at h2
    exact ⟨u, y, h1, h2⟩
  obtain ⟨u0, y0, g0, h0⟩ := get 0 (by omega)
  obtain ⟨u1, y1, g1, h1⟩ := get 1 (by omega)
  obtain ⟨u2, y2, g2, h2⟩ := get 2 (by omega)
  obtain ⟨u3, y3, g3, h3⟩ := get 3 (by omega)
  obtain ⟨u4, y4, g4, h4⟩ := get 4 (by omega)
  obtain ⟨a, e0, _, _⟩ := DataW.trod_int Tryz.underlying3 h0
  obtain ⟨b, e1, _, _⟩ := DataW.trod_int Tryz.underlying3 h1
  obtain ⟨c, e2, _, hc⟩ := DataW.trod_int Tryz.underlying3 h2
  obtain ⟨l, A, cp, e3, s3⟩ := readsSl (enc := enc) (W := W) Tryz.underlying60 cellsIntN (readsInt Tryz.underlying3) n u3 y3 h3
  obtain ⟨d, e4, d0, d1⟩ := readsWord (enc := enc) (W := W) Tryz.underlying26 n u4 y4 h4
  have e0' := (List.cons.inj e0).1
  have e1' := (List.cons.inj e1).1
  have e2' := (List.cons.inj e2).1
  simp [Lit.wf, IntKind.min, IntKind.max, IntKind.signed, IntKind.bits] at hc
  rw [hfs] at hl
  refine ⟨⟨a, b, c, l, d⟩, ⟨A, cp, ?_, s3, d0, d1⟩, by show _ ≤ c; omega, by show c ≤ _; omega⟩
  match us, hl, g0, g1, g2, g3, g4 with
  | [v0, v1, v2, v3, v4], _, g0, g1, g2, g3, g4 =>
    simp at g0 g1 g2 g3 g4
    subst g0 g1 g2 g3 g4
    rw [e0', e1', e2', e3, e4]
    rfl

theorem stf {W : World} {A : Option Addr} {n : Nat} {xs : List T.Nd} (h : StAt 5 NdRf W A n xs) : StAt 5 NdR W A n xs ∧ R.flr xs := by
  refine ⟨⟨h.1, h.2.1, fun k x hx => ?_⟩, fun y hy => ?_⟩
  · obtain ⟨b, off, us, e1, e2, e3, e4, e5⟩ := h.2.2 k x hx
    exact ⟨b, off, us, e1, e2, e3, e4, e5.1⟩
  · obtain ⟨j, hj⟩ := List.mem_iff_getElem?.1 hy
    obtain ⟨b, off, us, e1, e2, e3, e4, e5⟩ := h.2.2 j y hj
    exact e5.2

theorem readsCond {H : Type} {enc : TypeId × Value → H} {W : World} {fs : Array Field} (hfs : fs.size = 3) (hty : ∀ (j : Nat) (f : Field), fs[j]? = some f → f.type = (#[3, 3, 26]).getD j 0) : ReadsSt enc Tryz.prog W fs CdR := by
  intro n us hl hu
  have get : ∀ j, j < 3 → ∃ u y, us[j]? = some u ∧ DataW.trod enc Tryz.prog W 0 (fun _ => true) true n ((#[3, 3, 26]).getD j 0) [u] = some y := fun j hj => by
    have hj' : j < fs.size := by omega
    obtain ⟨u, y, h1, h2⟩ := hu j fs[j] (Array.getElem?_eq_getElem hj')
    rw [hty j _ (Array.getElem?_eq_getElem hj')] at h2
    exact ⟨u, y, h1, h2⟩
  obtain ⟨u0, y0, g0, h0⟩ := get 0 (by omega)
  obtain ⟨u1, y1, g1, h1⟩ := get 1 (by omega)
  obtain ⟨u4, y4, g4, h4⟩ := get 2 (by omega)
  obtain ⟨a, e0, _, _⟩ := DataW.trod_int Tryz.underlying3 h0
  obtain ⟨b, e1, _, _⟩ := DataW.trod_int Tryz.underlying3 h1
  obtain ⟨d, e4, d0, d1⟩ := readsWord (enc := enc) (W := W) Tryz.underlying26 n u4 y4 h4
  have e0' := (List.cons.inj e0).1
  have e1' := (List.cons.inj e1).1
  rw [hfs] at hl
  refine ⟨⟨a, b, d⟩, ?_, d0, d1⟩
  match us, hl, g0, g1, g4 with
  | [v0, v1, v4], _, g0, g1, g4 =>
    simp at g0 g1 g4
    subst g0 g1 g4
    rw [e0', e1', e4]
    rfl

set_option maxRecDepth 100000 in
/-- nodes that came in, with their flags' range -/
theorem cells_nodes {H : Type} {enc : TypeId × Value → H} {W : World} {n : Nat} {u : Value} {x : DataW H × List MemPlace} (h : DataW.trod enc Tryz.prog W 0 (fun _ => true) true n 22 [u] = some x) :
    ∃ A m c xs, u = .slice A m c ∧ StAt 5 NdR W A m xs ∧ R.flr xs := by
  obtain ⟨A, m, c, xs, e, hs⟩ := stAt_of_cells (R := NdRf) Tryz.underlying22 Tryz.underlying62 (by kernel_rfl) cellsNode (by decide) (readsNodeF rfl (fun j f h => by rcases j with _ | _ | _ | _ | _ | j <;> simp at h <;> (subst h; rfl))) h
  exact ⟨A, m, c, xs, e, stf hs⟩

set_option maxRecDepth 100000 in
/-- a rule that came in -/
theorem open_rule {H : Type} {enc : TypeId × Value → H} {W : World} {r : Reach} {b0 : Nat} {v : Value} {d : DataW H} {ps : List MemPlace} (hval : Value.okWide Tryz.prog W r b0 33 v) (h : DataW.Trod enc Tryz.prog W 0 (fun _ => true) true 33 v d ps) :
    ∃ rl nl cl nr cr np cp AL AR AP, v = .agg #[.slice AL nl cl, .slice AR nr cr, .slice AP np cp] ∧ RlAt W rl nl nr np AL AR AP := by
  obtain ⟨u0, u1, u2, n, x0, x1, x2, rfl, g0, g1, g2⟩ := open_agg3 Tryz.underlying33 cellsRule rfl rfl rfl cellsNodes cellsNodes cellsConds hval h
  obtain ⟨AL, nl, cl, xl, rfl, sl, fl⟩ := cells_nodes g0
  obtain ⟨AR, nr, cr, xr, rfl, sr, fr⟩ := cells_nodes g1
  obtain ⟨AP, np, cp, xp, rfl, sp⟩ := stAt_of_cells (R := CdR) Tryz.underlying31 Tryz.underlying88 (by kernel_rfl) cellsCond (by decide) (readsCond rfl (fun j f h => by rcases j with _ | _ | _ | j <;> simp at h <;> (subst h; rfl))) g2
  exact ⟨⟨xl, xr, xp⟩, nl, cl, nr, cr, np, cp, AL, AR, AP, rfl, sl, sr, sp, fl, fr⟩

theorem gTab : Tryz.prog.globalNamed "math/bits.deBruijn32tab" = some 0 := by kernel_rfl
theorem gTabType : (Tryz.prog.globals[0]?).map (·.type) = some 264 := by kernel_rfl
theorem cellsTab : Tryz.prog.cellsOf 264 = 32 := by kernel_rfl
theorem cellsU8 : Tryz.prog.cellsOf 5 = 1 := by kernel_rfl
theorem undTab : Tryz.prog.underlying 264 = some (.array 32 5) := by kernel_rfl
theorem undU8 : Tryz.prog.underlying 5 = some (.int .u8) := by kernel_rfl

end Go.Proofs.YtbiopedpceddeaaGreatDoor
end
