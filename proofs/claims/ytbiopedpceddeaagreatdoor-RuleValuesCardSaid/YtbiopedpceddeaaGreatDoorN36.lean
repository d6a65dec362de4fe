/- Merged: QY1, QY2, QY3, QOpenD, QPlainBW. -/
import Derived.Test.YtbiopedpceddeaaGreatDoorN35
import Derived.Test.YtbiopedpceddeaaGreatDoorN04
import Derived.Test.YtbiopedpceddeaaGreatDoorRows
import Derived.Lib.LaidTab
import Derived.FnData
import Derived.Test.YtbiopedpceddeaaGreatDoorN01
set_option linter.unusedVariables false
set_option linter.unusedSimpArgs false
section
namespace Go.Proofs.YtbiopedpceddeaaGreatDoor
open Go.RowKit
set_option linter.unusedVariables false
set_option linter.unusedSimpArgs false

namespace R
def shiftR : Rl := ⟨[⟨33, 0, 0, [], 0⟩, ⟨34, 0, 0, [], 0⟩, ⟨3, 0, 0, [0, 1], 0⟩], [⟨33, 0, 0, [], 0⟩, ⟨34, 0, 0, [], 0⟩, ⟨35, 0, 0, [1], 0⟩, ⟨11, 0, 0, [0, 2], 0⟩], [⟨1, 0, 0⟩]⟩
def shiftT : List T.Nd := [⟨33, 8, 0, [], 1⟩, ⟨0, 8, 0, [], 8⟩, ⟨3, 8, 0, [0, 1], 0⟩]
def shiftW : List T.Nd := [⟨33, 8, 0, [], 1⟩, ⟨0, 8, 0, [], 3⟩, ⟨11, 8, 0, [0, 1], 0⟩]
set_option maxRecDepth 100000 in
theorem rew_shift : rew shiftR shiftT = (shiftW, true, 0) := by decide +kernel
end R
end Go.Proofs.YtbiopedpceddeaaGreatDoor
end
section
namespace Go.Proofs.YtbiopedpceddeaaGreatDoor
open Go.RowKit
set_option linter.unusedVariables false
set_option linter.unusedSimpArgs false

theorem st_row {w : World} {g n : Nat} {ty : TypeId} {cells : Array Value} {xs : List T.Nd} (hr : w.heap[g]? = some (.cells cells ty (0, 0))) (hl : xs.length = n) (hn : n ≤ 100)
    (h : ∀ k x, xs[k]? = some x → ∃ A c, (∀ j u, (ndC x A c)[j]? = some u → cells[k * 5 + j]? = some u) ∧ SlAt (IntR .i64) w A x.args.length x.args ∧ 0 ≤ x.imm ∧ x.imm < 4294967296) : StAt 5 NdR w (some ⟨g, 0, none⟩) n xs := by
  refine ⟨hl, by omega, fun k x hx => ?_⟩
  obtain ⟨A, c, h1, h2, h3⟩ := h k x hx
  refine ⟨g, 0, ndC x A c, rfl, (Array.getElem?_eq_some_iff.1 hr).1, rfl, fun j u hu => ?_, A, c, rfl, h2, h3⟩
  rw [cell_of_row _ _ _ _ _ (0, 0) hr, show 0 + k * 5 + j = k * 5 + j by omega]
  exact h1 j u hu
theorem sl_row {w : World} {g : Nat} {ty : TypeId} {xs : List Int} (hr : w.heap[g]? = some (.cells (xs.map (Value.int .i64)).toArray ty (0, 0))) (hn : xs.length ≤ 100) : SlAt (IntR .i64) w (some ⟨g, 0, none⟩) xs.length xs := by
  refine ⟨rfl, by omega, fun k x hx => ⟨g, 0, .int .i64 x, rfl, (Array.getElem?_eq_some_iff.1 hr).1, ?_, rfl⟩⟩
  rw [cell_of_row _ _ _ _ _ (0, 0) hr, show 0 + k = k by omega]
  simp [hx]

theorem alloc_row {W w : World} {o : Obj} (h : W.alloc o = w) : w.heap[W.heap.size]? = some o ∧ w.heap.size = W.heap.size + 1 := by
  rw [← h]
  exact ⟨heap_alloc_new W o, by simp⟩
theorem row_step' {W w : World} {o o' : Obj} {g : Nat} (h : W.alloc o = w) (hr : W.heap[g]? = some o') : w.heap[g]? = some o' := by
  rw [← h]
  exact row_alloc hr _

def ShiftPost (W : World) (e : Ending) (W' : World) : Prop :=
  ∃ A1 A2 A3, e = .returned (.agg #[.slice A1 3 3, .slice A2 4 4, .slice A3 1 1]) ∧ RlAt W' R.shiftR 3 4 1 A1 A2 A3 ∧ Below W.heap.size W W'

set_option maxRecDepth 100000 in
set_option maxHeartbeats 1000000 in
theorem shift_any (W : World) : Calls Tryz.prog 42 #[] W (ShiftPost W) := by
  go_enter Tryz.func42, Tryz.ntmps42
  go_wp2
  generalize hw1 : W.alloc _ = w1
  generalize hw2 : w1.alloc _ = w2
  generalize hw3 : w2.alloc _ = w3
  generalize hw4 : w3.alloc _ = w4
  generalize hw5 : w4.alloc _ = w5
  generalize hw6 : w5.alloc _ = w6
  generalize hw7 : w6.alloc _ = w7
  obtain ⟨r1, s1⟩ := alloc_row hw1
  obtain ⟨r2, s2⟩ := alloc_row hw2
  obtain ⟨r3, s3⟩ := alloc_row hw3
  obtain ⟨r4, s4⟩ := alloc_row hw4
  obtain ⟨r5, s5⟩ := alloc_row hw5
  obtain ⟨r6, s6⟩ := alloc_row hw6
  obtain ⟨r7, s7⟩ := alloc_row hw7
  rw [s1] at r2 s2
  rw [s2] at r3 s3
  rw [s3] at r4 s4
  rw [s4] at r5 s5
  rw [s5] at r6 s6
  rw [s6] at r7 s7
  have r1 := row_step' hw7 (row_step' hw6 (row_step' hw5 (row_step' hw4 (row_step' hw3 (row_step' hw2 r1)))))
  have r2 := row_step' hw7 (row_step' hw6 (row_step' hw5 (row_step' hw4 (row_step' hw3 r2))))
  have r3 := row_step' hw7 (row_step' hw6 (row_step' hw5 (row_step' hw4 r3)))
  have r4 := row_step' hw7 (row_step' hw6 (row_step' hw5 r4))
  have r5 := row_step' hw7 (row_step' hw6 r5)
  have r6 := row_step' hw7 r6
  have hb : Below W.heap.size W w7 := by
    have b1 : Below W.heap.size W w1 := by rw [← hw1]; exact (Below.refl _ _).alloc (Nat.le_refl _) _
    have b2 : Below W.heap.size W w2 := by rw [← hw2]; exact b1.alloc (by omega) _
    have b3 : Below W.heap.size W w3 := by rw [← hw3]; exact b2.alloc (by omega) _
    have b4 : Below W.heap.size W w4 := by rw [← hw4]; exact b3.alloc (by omega) _
    have b5 : Below W.heap.size W w5 := by rw [← hw5]; exact b4.alloc (by omega) _
    have b6 : Below W.heap.size W w6 := by rw [← hw6]; exact b5.alloc (by omega) _
    rw [← hw7]; exact b6.alloc (by omega) _
  clear hw1 hw2 hw3 hw4 hw5 hw6 hw7
  refine bodyPost_ret (results_cell_row rfl _ _ W.heap.size _ _ (0, 0) _ rfl r1 Tryz.underlying33 rfl (by kernel_rfl)) rfl ?_
  refine ⟨_, _, _, rfl, ⟨?_, ?_, ?_, ?_, ?_⟩, hb⟩
  · refine st_row r3 rfl (by omega) fun k x hx => ?_
    rcases k with _ | _ | _ | k <;> simp [R.shiftR] at hx <;> subst hx
    · exact ⟨none, 0, fun j u hu => by rcases j with _ | _ | _ | _ | _ | j <;> simp [ndC] at hu ⊢ <;> exact hu, SlAt.nil_ _, by decide, by decide⟩
    · exact ⟨none, 0, fun j u hu => by rcases j with _ | _ | _ | _ | _ | j <;> simp [ndC] at hu ⊢ <;> exact hu, SlAt.nil_ _, by decide, by decide⟩
    · exact ⟨_, 2, fun j u hu => by rcases j with _ | _ | _ | _ | _ | j <;> simp [ndC] at hu ⊢ <;> exact hu, sl_row (xs := [0, 1]) r2 (by decide), by decide, by decide⟩
  · refine st_row r6 rfl (by omega) fun k x hx => ?_
    rcases k with _ | _ | _ | _ | k <;> simp [R.shiftR] at hx <;> subst hx
    · exact ⟨none, 0, fun j u hu => by rcases j with _ | _ | _ | _ | _ | j <;> simp [ndC] at hu ⊢ <;> exact hu, SlAt.nil_ _, by decide, by decide⟩
    · exact ⟨none, 0, fun j u hu => by rcases j with _ | _ | _ | _ | _ | j <;> simp [ndC] at hu ⊢ <;> exact hu, SlAt.nil_ _, by decide, by decide⟩
    · exact ⟨_, 1, fun j u hu => by rcases j with _ | _ | _ | _ | _ | j <;> simp [ndC] at hu ⊢ <;> exact hu, sl_row (xs := [1]) r4 (by decide), by decide, by decide⟩
    · exact ⟨_, 2, fun j u hu => by rcases j with _ | _ | _ | _ | _ | j <;> simp [ndC] at hu ⊢ <;> exact hu, sl_row (xs := [0, 2]) r5 (by decide), by decide, by decide⟩
  · refine ⟨rfl, by omega, fun k x hx => ?_⟩
    rcases k with _ | k <;> simp [R.shiftR] at hx
    subst hx
    refine ⟨_, 0, cdC ⟨1, 0, 0⟩, rfl, (Array.getElem?_eq_some_iff.1 r7).1, rfl, fun j u hu => ?_, rfl, by decide, by decide⟩
    rw [cell_of_row _ _ _ _ _ (0, 0) r7]
    rcases j with _ | _ | _ | j <;> simp [cdC] at hu ⊢ <;> exact hu
  · intro y hy
    simp [R.shiftR] at hy
    rcases hy with rfl | rfl | rfl <;> decide
  · intro y hy
    simp [R.shiftR] at hy
    rcases hy with rfl | rfl | rfl | rfl <;> decide
end Go.Proofs.YtbiopedpceddeaaGreatDoor
end
section
namespace Go.Proofs.YtbiopedpceddeaaGreatDoor
open Go.RowKit
set_option linter.unusedVariables false
set_option linter.unusedSimpArgs false

theorem st_nodes3 {w : World} {g g2 : Nat} {ty ty2 : TypeId} {o1 o2 o3 w1 w2 w3 i1 i2 i3 : Int} (hr : w.heap[g]? = some (.cells #[.int .i64 o1, .int .i64 w1, .int .i64 0, .slice none 0 0, .int .u32 i1, .int .i64 o2, .int .i64 w2, .int .i64 0, .slice none 0 0, .int .u32 i2, .int .i64 o3, .int .i64 w3, .int .i64 0, .slice (some ⟨g2, 0, none⟩) 2 2, .int .u32 i3] ty (0, 0)))
    (hr2 : w.heap[g2]? = some (.cells #[.int .i64 0, .int .i64 1] ty2 (0, 0))) (h1 : 0 ≤ i1 ∧ i1 < 4294967296) (h2 : 0 ≤ i2 ∧ i2 < 4294967296) (h3 : 0 ≤ i3 ∧ i3 < 4294967296) :
    StAt 5 NdR w (some ⟨g, 0, none⟩) 3 [⟨o1, w1, 0, [], i1⟩, ⟨o2, w2, 0, [], i2⟩, ⟨o3, w3, 0, [0, 1], i3⟩] := by
  refine st_row hr rfl (by omega) fun k x hx => ?_
  rcases k with _ | _ | _ | k <;> simp at hx <;> subst hx
  · exact ⟨none, 0, fun j u hu => by rcases j with _ | _ | _ | _ | _ | j <;> simp [ndC] at hu ⊢ <;> exact hu, SlAt.nil_ _, h1⟩
  · exact ⟨none, 0, fun j u hu => by rcases j with _ | _ | _ | _ | _ | j <;> simp [ndC] at hu ⊢ <;> exact hu, SlAt.nil_ _, h2⟩
  · exact ⟨_, 2, fun j u hu => by rcases j with _ | _ | _ | _ | _ | j <;> simp [ndC] at hu ⊢ <;> exact hu, sl_row (xs := [0, 1]) hr2 (by decide), h3⟩

set_option maxRecDepth 100000 in
set_option maxHeartbeats 1000000 in
theorem known_any (W : World) (hT : TabAt W) : Calls Tryz.prog 14 #[] W fun e W' => e = .returned (.bool true) ∧ Below W.heap.size W W' := by
  have HT := Lib.hid hT
  clear hT
  go_enter Tryz.func14, Tryz.ntmps14
  go_wp2_with fail
  generalize hw1 : W.alloc _ = w1
  generalize hw2 : w1.alloc _ = w2
  obtain ⟨r1, s1⟩ := alloc_row hw1
  obtain ⟨r2, s2⟩ := alloc_row hw2
  rw [s1] at r2 s2
  have r1 := row_step' hw2 r1
  have hst := st_nodes3 r2 r1 (by decide) (by decide) (by decide)
  have Hst := Lib.hid hst
  have hb2 : Below W.heap.size W w2 := by
    have b1 : Below W.heap.size W w1 := by rw [← hw1]; exact (Below.refl _ _).alloc (Nat.le_refl _) _
    rw [← hw2]; exact b1.alloc (by omega) _
  have Hb2 := Lib.hid hb2
  clear hw1 hw2 r1 r2 s1 s2 hst hb2
  (with_reducible refine (shift_any w2).mono ?_)
  rintro e w3 ⟨A1, A2, A3, rfl, hR, hb3⟩
  have HR := Lib.hid hR
  have Hb3 := Lib.hid hb3
  clear hR hb3
  have Hrw := Lib.hid (gRewrite_any (t := R.shiftT) (cl := 3) (cr := 4) (cp := 1) (ct := 3) HR.out (Hst.out.below monoNd Hb3.out) (by intro y hy; simp [R.shiftT] at hy; rcases hy with rfl | rfl | rfl <;> decide) ((HT.out.below Hb2.out).below Hb3.out))
  go_wp2_with fail
  (with_reducible refine Hrw.out.mono ?_)
  rintro e w4 ⟨v, rfl, hown, hb4⟩
  rw [R.rew_shift] at hown ⊢
  obtain ⟨A4, c4, rfl⟩ := hown.form
  have hs4 : StAt 5 NdR w4 A4 3 R.shiftW := hown.stAt (ndF_rel _) rfl
  have Hs4 := Lib.hid hs4
  have Hb4 := Lib.hid (Hb2.out.trans ((Hb3.out.trans (hb4.mono Hb3.out.size)).mono Hb2.out.size))
  clear hown hb4 hs4
  dsimp only [R.shiftW, List.length_cons, List.length_nil, Nat.zero_add, Nat.reduceAdd]
  go_wp2_with fail
  generalize hw5 : w4.alloc _ = w5
  generalize hw6 : w5.alloc _ = w6
  obtain ⟨r1, s1⟩ := alloc_row hw5
  obtain ⟨r2, s2⟩ := alloc_row hw6
  rw [s1] at r2 s2
  have r1 := row_step' hw6 r1
  have hst := st_nodes3 r2 r1 (by decide) (by decide) (by decide)
  have hb6 : Below w4.heap.size w4 w6 := by
    have b1 : Below w4.heap.size w4 w5 := by rw [← hw5]; exact (Below.refl _ _).alloc (Nat.le_refl _) _
    rw [← hw6]; exact b1.alloc (by omega) _
  have Hb6 := Lib.hid hb6
  have Hsm := Lib.hid (SameNodes_any (c := c4) (c' := 3) (Hs4.out.below monoNd Hb6.out) hst)
  clear hw5 hw6 r1 r2 s1 s2 hst hb6
  (with_reducible refine Hsm.out.mono ?_)
  rintro e w7 ⟨rfl, hb7⟩
  have Hb7 := Lib.hid (Hb4.out.trans ((Hb6.out.trans (hb7.mono Hb6.out.size)).mono Hb4.out.size))
  clear hb7
  go_wp2
  go_ret
  exact ⟨rfl, Hb7.out⟩
end Go.Proofs.YtbiopedpceddeaaGreatDoor
end
section
namespace Go.Proofs.YtbiopedpceddeaaGreatDoor
open Go.ChangeShapes Go.WideShapes Go.ChangeAt Go.RowKit Go.Deep
set_option linter.unusedVariables false
set_option linter.unusedSimpArgs false

theorem cellsU32 : Tryz.prog.cellsOf 26 = 1 := by kernel_rfl

/-- a node, and its flags' range -/
def NdRf (W : World) (us : List Value) (x : T.Nd) : Prop := NdR W us x ∧ -9223372036854775808 ≤ x.fl ∧ x.fl ≤ 9223372036854775807

theorem readsNodeF {H : Type} {enc : TypeId × Value → H} {W : World} {fs : Array Field} (hfs : fs.size = 5) (hty : ∀ (j : Nat) (f : Field), fs[j]? = some f → f.type = (#[3, 3, 3, 60, 26]).getD j 0) : ReadsSt enc Tryz.prog W fs NdRf := by
  intro n us hl hu
  have get : ∀ j, j < 5 → ∃ u y, us[j]? = some u ∧ DataW.trod enc Tryz.prog W 0 (fun _ => true) true n ((#[3, 3, 3, 60, 26]).getD j 0) [u] = some y := fun j hj => by
    have hj' : j < fs.size := by omega
    obtain ⟨u, y, h1, h2⟩ := hu j fs[j] (Array.getElem?_eq_getElem hj')
    rw [hty j _ (Array.getElem?_eq_getElem hj')] at h2
    exact ⟨u, y, h1, h2⟩
  obtain ⟨u0, y0, g0, h0⟩ := get 0 (by omega)
  obtain ⟨u1, y1, g1, h1⟩ := get 1 (by omega)
  obtain ⟨u2, y2, g2, h2⟩ := get 2 (by omega)
  obtain ⟨u3, y3, g3, h3⟩ := get 3 (by omega)
  obtain ⟨u4, y4, g4, h4⟩ := get 4 (by omega)
  obtain ⟨a, e0, _, _⟩ := DataW.trod_int Tryz.underlying3 h0
  obtain ⟨b, e1, _, _⟩ := DataW.trod_int Tryz.underlying3 h1
  obtain ⟨c, e2, _, hc⟩ := DataW.trod_int Tryz.underlying3 h2
  obtain ⟨l, A, cp, e3, s3⟩ := readsSl (enc := enc) (W := W) Tryz.underlying60 cellsIntN (readsInt Tryz.underlying3) n u3 y3 h3
  obtain ⟨d, e4, d0, d1⟩ := readsWord (enc := enc) (W := W) Tryz.underlying26 n u4 y4 h4
  have e0' := (List.cons.inj e0).1
  have e1' := (List.cons.inj e1).1
  have e2' := (List.cons.inj e2).1
  simp [Lit.wf, IntKind.min, IntKind.max, IntKind.signed, IntKind.bits] at hc
  rw [hfs] at hl
  refine ⟨⟨a, b, c, l, d⟩, ⟨A, cp, ?_, s3, d0, d1⟩, by show _ ≤ c; omega, by show c ≤ _; omega⟩
  match us, hl, g0, g1, g2, g3, g4 with
  | [v0, v1, v2, v3, v4], _, g0, g1, g2, g3, g4 =>
    simp at g0 g1 g2 g3 g4
    subst g0 g1 g2 g3 g4
    rw [e0', e1', e2', e3, e4]
    rfl

theorem stf {W : World} {A : Option Addr} {n : Nat} {xs : List T.Nd} (h : StAt 5 NdRf W A n xs) : StAt 5 NdR W A n xs ∧ R.flr xs := by
  refine ⟨⟨h.1, h.2.1, fun k x hx => ?_⟩, fun y hy => ?_⟩
  · obtain ⟨b, off, us, e1, e2, e3, e4, e5⟩ := h.2.2 k x hx
    exact ⟨b, off, us, e1, e2, e3, e4, e5.1⟩
  · obtain ⟨j, hj⟩ := List.mem_iff_getElem?.1 hy
    obtain ⟨b, off, us, e1, e2, e3, e4, e5⟩ := h.2.2 j y hj
    exact e5.2

set_option maxRecDepth 100000 in
theorem open_nodesF {H : Type} {enc : TypeId × Value → H} {W : World} {r : Reach} {b0 : Nat} {v : Value} {d : DataW H} {ps : List MemPlace} (hval : Value.okWide Tryz.prog W r b0 22 v) (h : DataW.Trod enc Tryz.prog W 0 (fun _ => true) true 22 v d ps) :
    ∃ A m c xs, v = .slice A m c ∧ StAt 5 NdR W A m xs ∧ R.flr xs := by
  obtain ⟨A, m, c, xs, e, hs⟩ := open_st (R := NdRf) Tryz.underlying22 Tryz.underlying62 (by kernel_rfl) cellsNode (by decide) (readsNodeF rfl (fun j f h => by rcases j with _ | _ | _ | _ | _ | j <;> simp at h <;> (subst h; rfl))) hval h
  exact ⟨A, m, c, xs, e, stf hs⟩

theorem gTab : Tryz.prog.globalNamed "math/bits.deBruijn32tab" = some 0 := by kernel_rfl
theorem gTabType : (Tryz.prog.globals[0]?).map (·.type) = some 264 := by kernel_rfl
theorem cellsTab : Tryz.prog.cellsOf 264 = 32 := by kernel_rfl
theorem cellsU8 : Tryz.prog.cellsOf 5 = 1 := by kernel_rfl
theorem undTab : Tryz.prog.underlying 264 = some (.array 32 5) := by kernel_rfl
theorem undU8 : Tryz.prog.underlying 5 = some (.int .u8) := by kernel_rfl

set_option maxRecDepth 100000 in
/-- the listed table, as the walks want it -/
theorem tab_of_laid {W : World} (h : laidMetH Tryz.prog [("math/bits.deBruijn32tab", Rows.laid_math_bits_deBruijn32tab)] W) : TabAt W := by
  have h' : laidMet Tryz.prog [("math/bits.deBruijn32tab", Lib.tabData .u8 (Lib.deBruijn32tab.map Int.ofNat))] W := h
  have ht := Lib.tabIs_of_head gTab gTabType undTab undU8 cellsU8 cellsTab h'
  intro j hj
  rw [World.var?_cell gTab ht j]
  rw [List.getElem?_toArray, List.getElem?_map, List.getElem?_map, List.getElem?_eq_getElem hj, List.getD_eq_getElem?_getD, List.getElem?_eq_getElem hj]
  rfl

/-- a world that meets the condition -/
noncomputable def laidWorld (os : Os) : World :=
  { World.holding Tryz.prog os ⟨#[], #[], []⟩ with heap := (World.holding Tryz.prog os ⟨#[], #[], []⟩).heap.modify 0 fun
      | .cells _ t frozen => .cells ((Lib.deBruijn32tab.map Int.ofNat).map fun z => Value.int .u8 z).toArray t frozen
      | o => o }
theorem laid_met (os : Os) (args : Array Value) : laidMetH Tryz.prog [("math/bits.deBruijn32tab", Rows.laid_math_bits_deBruijn32tab)] ((laidWorld os).forCall (fun _ _ => 0) ⟨#[], args, []⟩).memory :=
  laidMet_of_run' 8 (by kernel_rfl) (by kernel_rfl)
end Go.Proofs.YtbiopedpceddeaaGreatDoor
end
section
namespace Go.Proofs.YtbiopedpceddeaaGreatDoor
namespace B
set_option linter.unusedVariables false
set_option linter.unusedSimpArgs false
/-- has an operation a result without a limit? -/
def isWh (op : Int) : Bool := decide (op = 1) || decide (op = 2) || decide (op = 3) || decide (op = 11)
/-- may an operation leave something? -/
def isLf (op : Int) : Bool := decide (op = 4) || decide (op = 6) || decide (op = 12) || decide (op = 13)
/-- the result without a limit -/
def wh (op a b : Int) : Int := if op = 1 then a + b else if op = 2 then a - b else if op = 3 then a * b else a * pw b
/-- the same, as the program tells it -/
def whP (op a b : Int) : Int := if op = 3 then (if 4611686018427387904 ≤ ((a * b).natAbs : Int) then 4611686018427387904 else a * b) else wh op a b
/-- is something left? -/
def lf (op n a b : Int) : Bool := if op = 4 then decide (a % b ≠ 0) else if op = 6 then decide ((sg n a).tmod (sg n b) ≠ 0) else decide (a % pw b ≠ 0)
def out (lo hi x : Int) : Bool := decide (x < lo) || decide (hi < x)
/-- are flags broken? -/
def brk (op fl n a b : Int) : Bool :=
  (do_ op n a b).isSome &&
    ((decide (fl / 4 % 2 = 1) && (isLf op && lf op n a b)) ||
      (isWh op && ((decide (fl % 2 = 1) && out 0 (pw n - 1) (wh op a b)) || (decide (fl / 2 % 2 = 1) && out (-pw (n - 1)) (pw (n - 1) - 1) (wh op (sg n a) (if op = 11 then b else sg n b))))))
/-- how a node of arithmetic is: 0 a value, 1 poison, 2 undefined -/
def worse (op fl n a b : Int) : Int := if (do_ op n a b).isSome = false ∧ 4 ≤ op ∧ op ≤ 7 then 2 else if (do_ op n a b).isSome = false ∨ brk op fl n a b = true then 1 else 0

/-- what the program tells in place of a great product is out, too -/
theorem out_whP {op lo hi a b : Int} (h1 : -4611686018427387904 < lo) (h2 : hi < 4611686018427387904) : out lo hi (whP op a b) = out lo hi (wh op a b) := by
  unfold whP
  split
  · rename_i h
    subst h
    have e : wh 3 a b = a * b := rfl
    rw [e]
    generalize a * b = p
    split
    · rename_i h
      unfold out
      rw [Bool.eq_iff_iff]
      simp only [Bool.or_eq_true, decide_eq_true_eq]
      omega
    · rfl
  · rfl
theorem pw_hi {n : Int} (h : n ≤ 32) : pw n - 1 < 4611686018427387904 := by have := pw_le h; omega
theorem pw_lo {n : Int} (h : n ≤ 33) : -4611686018427387904 < -pw (n - 1) := by have := pw_le (n := n - 1) (by omega); omega
theorem wh_bound {op a b : Int} (h : op = 1 ∨ op = 2 ∨ op = 11) (ha : -4294967296 ≤ a ∧ a ≤ 4294967295) (hb : -4294967296 ≤ b ∧ b ≤ 4294967295) (hs : op = 11 → 0 ≤ b ∧ b ≤ 31) : -9223372036854775808 ≤ wh op a b ∧ wh op a b ≤ 9223372036854775807 := by
  rcases h with rfl | rfl | rfl
  · show _ ≤ a + b ∧ a + b ≤ _; omega
  · show _ ≤ a - b ∧ a - b ≤ _; omega
  · show _ ≤ a * pw b ∧ a * pw b ≤ _
    have h1 := pw_le31 (hs rfl).2
    have h2 := pw_pos b
    have h3 : a * pw b ≤ 4294967295 * pw b := Int.mul_le_mul_of_nonneg_right ha.2 (by omega)
    have h4 : (-4294967296) * pw b ≤ a * pw b := Int.mul_le_mul_of_nonneg_right ha.1 (by omega)
    omega
end B
end Go.Proofs.YtbiopedpceddeaaGreatDoor
end
