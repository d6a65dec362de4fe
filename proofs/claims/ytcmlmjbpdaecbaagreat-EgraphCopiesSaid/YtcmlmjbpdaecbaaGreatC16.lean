/- Merged: G1, G2, G3, PlainEA. -/
import Derived.Test.YtcmlmjbpdaecbaaGreatC05
import Derived.Test.YtcmlmjbpdaecbaaGreatC06
import Derived.Test.YtcmlmjbpdaecbaaGreatC12
import Derived.Test.YtcmlmjbpdaecbaaGreatC13
import Derived.Test.YtcmlmjbpdaecbaaGreatC15
import Derived.DeepKeys4
import Derived.Deep.DeepCutAuto
import Derived.Test.YtcmlmjbpdaecbaaGreatC01
set_option linter.unusedVariables false
set_option linter.unusedSimpArgs false
section
namespace Go.Proofs.YtcmlmjbpdaecbaaGreat
open Go.RowKit Go.MapKept Go.Maps Go.WideMaps
set_option linter.unusedVariables false
set_option linter.unusedSimpArgs false

/-- what lies outside M stays -/
structure Kpm (M : Nat → Prop) (w w' : World) : Prop where
  os : w'.os = w.os
  tape : w'.tape = w.tape
  output : w'.output = w.output
  size : w.heap.size ≤ w'.heap.size
  block : ∀ k, k < w.heap.size → ¬ M k → w'.heap[k]? = w.heap[k]?

section
variable {M N : Nat → Prop} {a b c w w' : World} {B : Nat}

theorem Kpm.refl (M : Nat → Prop) (w : World) : Kpm M w w := ⟨rfl, rfl, rfl, Nat.le_refl _, fun _ _ _ => rfl⟩
theorem Kpm.trans (h : Kpm M a b) (k : Kpm N b c) (hN : ∀ i, i < a.heap.size → N i → M i) : Kpm M a c :=
  ⟨k.os.trans h.os, k.tape.trans h.tape, k.output.trans h.output, Nat.le_trans h.size k.size, fun i hi hm => (k.block i (Nat.lt_of_lt_of_le hi h.size) (fun hn => hm (hN i hi hn))).trans (h.block i hi hm)⟩
theorem Kpm.weak (h : Kpm M a b) (hi : ∀ i, i < a.heap.size → M i → N i) : Kpm N a b :=
  ⟨h.os, h.tape, h.output, h.size, fun i hl hn => h.block i hl fun hm => hn (hi i hl hm)⟩
theorem Kpm.below (h : Kpm M a b) (hB : B ≤ a.heap.size) (hM : ∀ i, M i → B ≤ i) : Below B a b :=
  ⟨h.os, h.tape, h.output, h.size, fun i hi => h.block i (by omega) fun hm => by have := hM i hm; omega⟩
theorem Kpm.of_below (h : Below a.heap.size a b) (M : Nat → Prop) : Kpm M a b :=
  ⟨h.os, h.tape, h.output, h.size, fun i hi _ => h.block i hi⟩
theorem Kpm.grown {row : Option Nat} (h : a.grownBy b row) (hr : ∀ g, row = some g → M g) : Kpm M a b :=
  ⟨h.os, h.tape, h.output, h.size, fun i hi hm => h.block i hi fun e => hm (hr i e.symm)⟩
theorem Kpm.drew (h : Kpm M a b) : Kpm M a b.drew := ⟨h.os, h.tape, h.output, h.size, h.block⟩
theorem Kpm.alloc (h : Kpm M a b) (o : Obj) : Kpm M a (b.alloc o) :=
  h.trans (Kpm.of_below ((Below.refl _ _).alloc (Nat.le_refl _) o) (fun _ => False)) (fun _ _ h => h.elim)
theorem Kpm.setCell (h : Kpm M a b) {p : Addr} (hp : p.block < a.heap.size → M p.block) (u : Value) : Kpm M a (b.setCell p u) :=
  ⟨h.os, h.tape, h.output, by simpa using h.size, fun i hi hm => (Below.heap_setCell b p u i (fun e => hm (by rw [e]; exact hp (by rw [← e]; exact hi)))).trans (h.block i hi hm)⟩
end

theorem frozen_row {W : World} {g : Nat} {cs : Array Value} {T : TypeId} (h : W.heap[g]? = some (.cells cs T (0, 0))) (k : Nat) : W.frozen? ⟨g, k, none⟩ = false := by simp [World.frozen?, h]

def I64 (n : Int) : Prop := -9223372036854775808 ≤ n ∧ n ≤ 9223372036854775807
theorem lit_i64 {n : Int} (h : I64 n) : (Lit.int .i64 n).wf = true := by
  have e1 : IntKind.i64.min = -9223372036854775808 := by decide
  have e2 : IntKind.i64.max = 9223372036854775807 := by decide
  unfold Lit.wf
  rw [Bool.and_eq_true, decide_eq_true_eq, decide_eq_true_eq, e1, e2]
  exact h
theorem lit_u32 {n : Int} (h : 0 ≤ n ∧ n < 4294967296) : (Lit.int .u32 n).wf = true := by
  have e1 : IntKind.u32.min = 0 := by decide
  have e2 : IntKind.u32.max = 4294967295 := by decide
  unfold Lit.wf
  rw [Bool.and_eq_true, decide_eq_true_eq, decide_eq_true_eq, e1, e2]
  omega

/-- an operation as a key: of the builder of terms, of the graph, of the reference -/
def opV (k : E.Opn) : Value := .agg #[.int .i64 k.op, .int .i64 k.w, .int .u32 k.imm, .int .i64 k.a0, .int .i64 k.a1, .int .i64 k.a2]
theorem opV_inj : ∀ a b, opV a = opV b → a = b := by
  rintro ⟨⟩ ⟨⟩ h
  simp [opV] at h
  simpa using h
structure OWf (k : E.Opn) : Prop where
  op : I64 k.op
  w : I64 k.w
  imm : 0 ≤ k.imm ∧ k.imm < 4294967296
  a0 : I64 k.a0
  a1 : I64 k.a1
  a2 : I64 k.a2

theorem intKeyed : Keyed Tryz.prog 3 := int_keyed Tryz.underlying3
theorem bkKeyed : Keyed Tryz.prog 230 := Keyed.of_law (deep_law_laid (by kernel_rfl) (m := 3) (by omega) (of_decide_eq_true (by kernel_rfl)) (by kernel_rfl) (by kernel_rfl))
theorem opKeyed : Keyed Tryz.prog 85 := Keyed.of_law (deep_law_laid (by kernel_rfl) (m := 3) (by omega) (of_decide_eq_true (by kernel_rfl)) (by kernel_rfl) (by kernel_rfl))

theorem keyLits_int {P : Program} {t : TypeId} {q : IntKind} (h : P.underlying t = some (.int q)) (d : Nat) {n : Int} (hn : (Lit.int q n).wf = true) : P.keyLits (d + 1) t [.int q n] = some [.int q n] := by
  simp [Program.keyLits, h, hn]
theorem keyLits_three {P : Program} {t e : TypeId} {q : IntKind} (h : P.underlying t = some (.array 3 e)) (he : P.underlying e = some (.int q)) (hc : P.cellsOf t = 3) (hce : P.cellsOf e = 1) (d : Nat) {a b c : Int} (ha : (Lit.int q a).wf = true) (hb : (Lit.int q b).wf = true) (hcw : (Lit.int q c).wf = true) :
    P.keyLits (d + 2) t [.int q a, .int q b, .int q c] = some [.int q a, .int q b, .int q c] := by
  unfold Program.keyLits
  simp only [h, hc, hce]
  refine (if_pos rfl).trans ?_
  simp only [List.range, List.range.loop, List.mapM_cons, List.mapM_nil, Nat.zero_mul, Nat.one_mul, Nat.reduceMul, List.drop_zero, List.drop_succ_cons, List.take_succ_cons, List.take_zero, keyLits_int he _ ha, keyLits_int he _ hb, keyLits_int he _ hcw]
  rfl

theorem keyOf_bk {k : E.Opn} (h : OWf k) : ∃ l, keyOf Tryz.prog 230 (opV k) = some l := by
  obtain ⟨h1, h2, h4, h5, h6, h7⟩ := h
  have f1 : Tryz.prog.keyType 230 = true := by kernel_rfl
  have f2 : Tryz.prog.cellsOf 230 = 6 := by kernel_rfl
  have f3 : Tryz.prog.cellsOf 83 = 3 := by kernel_rfl
  have f4 : Tryz.prog.cellsOf 3 = 1 := by kernel_rfl
  have f5 : Tryz.prog.cellsOf 61 = 1 := by kernel_rfl
  obtain ⟨d, hd⟩ : ∃ d, Tryz.prog.types.size + 1 = d + 4 := ⟨Tryz.prog.types.size - 3, by have : 3 ≤ Tryz.prog.types.size := of_decide_eq_true (by kernel_rfl); omega⟩
  have hL : Tryz.prog.keyLits (Tryz.prog.types.size + 1) 230 (opV k).cells.toList = some [.int .i64 k.op, .int .i64 k.w, .int .u32 k.imm, .int .i64 k.a0, .int .i64 k.a1, .int .i64 k.a2] := by
    rw [hd]
    unfold Program.keyLits
    simp only [Tryz.underlying230, f2]
    simp only [opV, Value.cells]
    refine (if_pos ⟨rfl, by kernel_rfl⟩).trans ?_
    simp only [List.mapM_cons, List.mapM_nil, f3, f4, f5, List.drop_zero, List.drop_succ_cons, List.take_succ_cons, List.take_zero]
    rw [keyLits_int Tryz.underlying3 (d + 2) (lit_i64 h1), keyLits_int Tryz.underlying3 (d + 2) (lit_i64 h2), keyLits_int Tryz.underlying61 (d + 2) (lit_u32 h4), keyLits_three Tryz.underlying83 Tryz.underlying3 f3 f4 (d + 1) (lit_i64 h5) (lit_i64 h6) (lit_i64 h7)]
    rfl
  have hf : (opV k).formed Tryz.prog 230 = true := by simp [Value.formed, Tryz.underlying230, f2, opV]
  unfold keyOf
  simp only [Tryz.underlying230, f1, hf, hL, Bool.and_self, if_true, Option.map_some]
  exact ⟨_, rfl⟩
theorem keyOf_op {k : E.Opn} (h : OWf k) : ∃ l, keyOf Tryz.prog 85 (opV k) = some l := by
  obtain ⟨h1, h2, h4, h5, h6, h7⟩ := h
  have f1 : Tryz.prog.keyType 85 = true := by kernel_rfl
  have f2 : Tryz.prog.cellsOf 85 = 6 := by kernel_rfl
  have f3 : Tryz.prog.cellsOf 83 = 3 := by kernel_rfl
  have f4 : Tryz.prog.cellsOf 3 = 1 := by kernel_rfl
  have f5 : Tryz.prog.cellsOf 61 = 1 := by kernel_rfl
  obtain ⟨d, hd⟩ : ∃ d, Tryz.prog.types.size + 1 = d + 4 := ⟨Tryz.prog.types.size - 3, by have : 3 ≤ Tryz.prog.types.size := of_decide_eq_true (by kernel_rfl); omega⟩
  have hL : Tryz.prog.keyLits (Tryz.prog.types.size + 1) 85 (opV k).cells.toList = some [.int .i64 k.op, .int .i64 k.w, .int .u32 k.imm, .int .i64 k.a0, .int .i64 k.a1, .int .i64 k.a2] := by
    rw [hd]
    unfold Program.keyLits
    simp only [Tryz.underlying85, f2]
    simp only [opV, Value.cells]
    refine (if_pos ⟨rfl, by kernel_rfl⟩).trans ?_
    simp only [List.mapM_cons, List.mapM_nil, f3, f4, f5, List.drop_zero, List.drop_succ_cons, List.take_succ_cons, List.take_zero]
    rw [keyLits_int Tryz.underlying3 (d + 2) (lit_i64 h1), keyLits_int Tryz.underlying3 (d + 2) (lit_i64 h2), keyLits_int Tryz.underlying61 (d + 2) (lit_u32 h4), keyLits_three Tryz.underlying83 Tryz.underlying3 f3 f4 (d + 1) (lit_i64 h5) (lit_i64 h6) (lit_i64 h7)]
    rfl
  have hf : (opV k).formed Tryz.prog 85 = true := by simp [Value.formed, Tryz.underlying85, f2, opV]
  unfold keyOf
  simp only [Tryz.underlying85, f1, hf, hL, Bool.and_self, if_true, Option.map_some]
  exact ⟨_, rfl⟩

def ekI (n : Int) : Value := .int .i64 n
theorem ekI_inj : ∀ a b, ekI a = ekI b → a = b := by intro a b h; simp [ekI] at h; exact h
/-- elements that are numbers of classes -/
def NatE {κ : Type} (_ : World) (_ : κ) (u : Value) (n : Nat) : Prop := u = .int .i64 (n : Int)
/-- classes as they lie in memory -/
def ivs (l : List Nat) : List Value := l.map fun (c : Nat) => Value.int .i64 (c : Int)
def ini (l : List Nat) : List Int := l.map fun (c : Nat) => (c : Int)
end Go.Proofs.YtcmlmjbpdaecbaaGreat
end
section
namespace Go.Proofs.YtcmlmjbpdaecbaaGreat
open Go.RowKit Go.MapKept Go.Maps Go.WideMaps
set_option linter.unusedVariables false
set_option linter.unusedSimpArgs false

theorem ini_at {l : List Nat} {k c : Nat} (h : (ini l)[k]? = some (c : Int)) : l[k]? = some c := by
  unfold ini at h
  rw [List.getElem?_map] at h
  cases e : l[k]? with
  | none => rw [e] at h; cases h
  | some d => rw [e] at h; simp at h; have : d = c := by omega
              rw [this]
theorem ini_some {l : List Nat} {k : Nat} {a : Int} (h : (ini l)[k]? = some a) : ∃ c : Nat, a = (c : Int) ∧ l[k]? = some c := by
  unfold ini at h
  rw [List.getElem?_map] at h
  cases e : l[k]? with
  | none => rw [e] at h; cases h
  | some d => rw [e] at h; simp at h; exact ⟨d, h.symm, rfl⟩
theorem ini_len (l : List Nat) : (ini l).length = l.length := by simp [ini]

namespace E
theorem root_next {p : List Nat} (hd : Down p) {c d : Nat} (h : p[c]? = some d) : d ≤ c ∧ (d = c → root p c = c) ∧ root p d = root p c := by
  have hl := (List.getElem?_eq_some_iff.1 h).1
  have e : p.getD c c = d := by rw [List.getD_eq_getElem?_getD, h]; rfl
  have h1 := hd c hl
  rw [e] at h1
  refine ⟨h1, fun k => root_of_fix (by rw [e, k]), ?_⟩
  have := root_step (p := p) (c := c) (by rw [e]; exact h1)
  rw [e] at this
  exact this
end E

set_option maxRecDepth 100000 in
set_option maxHeartbeats 1000000 in
theorem gfind_any {p : List Nat} {b n ca : Nat} {A : Option Addr} {W : World} (hrow : W.cell? ⟨b, 0, none⟩ = some (.slice A n ca)) (hp : SlAt (IntR .i64) W A n (ini p)) (hd : E.Down p) (c : Nat) (hc : c < p.length) :
    Calls Tryz.prog 100 #[.pointer (some ⟨b, 0, none⟩), .int .i64 (c : Int)] W fun e W' => e = .returned (.int .i64 (E.root p c : Nat)) ∧ W' = W := by
  have hn : p.length = n := by have := hp.len; rw [ini_len] at this; exact this
  have hle := hp.le
  have Hp := Lib.hid hp
  have Hd := Lib.hid hd
  have Hn := Lib.hid hn
  have Hc := Lib.hid hc
  clear hp hd hn hc
  go_enter Tryz.func100, Tryz.ntmps100
  go_wp2
  go_loopg [1] c (fun gg i wr => ∃ (j : Nat), i = .int .i64 (j : Int) ∧ gg = j ∧ Hid (j ≤ c ∧ E.root p j = E.root p c) ∧ wr = W)
  case atStart => exact ⟨c, rfl, rfl, Lib.hid ⟨Nat.le_refl _, rfl⟩, rfl⟩
  case round =>
    obtain ⟨j, rfl, hgk, Hj, rfl⟩ := hrel
    have Hgk := Lib.hid hgk; clear hgk
    have hjn : j < n := by have := Hj.out.1; have := Hc.out; have := Hn.out; omega
    obtain ⟨x, ba, off, u, hx, rfl, hba, hcell, rfl⟩ := Hp.out.at_ hjn
    obtain ⟨d, rfl, hd'⟩ := ini_some hx
    obtain ⟨d1, d2, d3⟩ := E.root_next Hd.out hd'
    have D2 := Lib.hid d2
    have D3 := Lib.hid d3
    clear hx hd' d2 d3 hba
    by_cases hdj : d = j
    · subst hdj
      have hres := D2.out rfl
      have Hres := Lib.hid hres
      clear hres
      go_wp2
      go_ret
      exact ⟨congrArg (fun n : Nat => Ending.returned (Value.int .i64 (n : Int))) (show d = E.root p c from Hres.out.symm.trans Hj.out.2), rfl⟩
    · have hne : (d : Int) ≠ (j : Int) := by omega
      have D1 := Lib.hid d1
      have Hdj := Lib.hid hdj
      clear d1 hdj
      go_wp2
      go_roundg d
      case measure => have := Hgk.out; have := D1.out; have := Hdj.out; omega
      case rel =>
        have := D1.out
        exact ⟨d, rfl, rfl, Lib.hid ⟨by have := Hj.out.1; omega, D3.out.trans Hj.out.2⟩, rfl⟩
end Go.Proofs.YtcmlmjbpdaecbaaGreat
end
section
namespace Go.Proofs.YtcmlmjbpdaecbaaGreat
open Go.RowKit Go.MapKept Go.Maps Go.WideMaps
set_option linter.unusedVariables false
set_option linter.unusedSimpArgs false

/-- an operation as six cells -/
def opC (x : E.Opn) : Array Value := #[.int .i64 x.op, .int .i64 x.w, .int .u32 x.imm, .int .i64 x.a0, .int .i64 x.a1, .int .i64 x.a2]
namespace E
/-- the first operands are turned already -/
def canTo (p : List Nat) (j : Nat) (x : Opn) : Opn := ⟨x.op, x.w, x.imm, if 0 < j then cr p x.a0 else x.a0, if 1 < j then cr p x.a1 else x.a1, if 2 < j then cr p x.a2 else x.a2⟩
def argAt (x : Opn) : Nat → Int
  | 0 => x.a0
  | 1 => x.a1
  | _ => x.a2
theorem canTo_all (p : List Nat) (x : Opn) : canTo p 3 x = can p x := rfl
theorem canTo_none (p : List Nat) (x : Opn) : canTo p 0 x = x := rfl
theorem cr_class {p : List Nat} {a : Int} (h : ArOk p.length a) (h1 : a ≠ -1) : ∃ c : Nat, a = (c : Int) ∧ c < p.length ∧ cr p a = (root p c : Nat) := by
  rcases h with h | ⟨h2, h3⟩
  · exact absurd h h1
  · refine ⟨a.toNat, by omega, by omega, ?_⟩
    unfold cr
    rw [if_neg (by omega)]
theorem cr_none {p : List Nat} : cr p (-1) = -1 := by unfold cr; rw [if_pos (by omega)]
end E

theorem op6_cells {w : World} {g : Nat} {T : TypeId} {a0 a1 a2 a3 a4 a5 : Value} (h : w.heap[g]? = some (.cells #[a0, a1, a2, a3, a4, a5] T (0, 0))) :
    w.cell? ⟨g, 0, none⟩ = some a0 ∧ w.cell? ⟨g, 1, none⟩ = some a1 ∧ w.cell? ⟨g, 2, none⟩ = some a2 ∧ w.cell? ⟨g, 3, none⟩ = some a3 ∧ w.cell? ⟨g, 4, none⟩ = some a4 ∧ w.cell? ⟨g, 5, none⟩ = some a5 := by
  refine ⟨?_, ?_, ?_, ?_, ?_, ?_⟩
  all_goals rw [cell_of_row _ _ _ _ _ (0, 0) h]; rfl

theorem set6_row {w : World} {g : Nat} {T : TypeId} {a0 a1 a2 a3 a4 a5 : Value} (h : w.heap[g]? = some (.cells #[a0, a1, a2, a3, a4, a5] T (0, 0))) (u0 u1 u2 u3 u4 u5 : Value) :
    ((((((w.setCell ⟨g, 0, none⟩ u0).setCell ⟨g, 1, none⟩ u1).setCell ⟨g, 2, none⟩ u2).setCell ⟨g, 3, none⟩ u3).setCell ⟨g, 4, none⟩ u4).setCell ⟨g, 5, none⟩ u5).heap[g]? = some (.cells #[u0, u1, u2, u3, u4, u5] T (0, 0)) :=
  heap_setCell_same _ g 5 _ _ u5 (heap_setCell_same _ g 4 _ _ u4 (heap_setCell_same _ g 3 _ _ u3 (heap_setCell_same _ g 2 _ _ u2 (heap_setCell_same _ g 1 _ _ u1 (heap_setCell_same _ g 0 _ _ u0 h)))))
theorem set6_below {B : Nat} {W w : World} {g : Nat} (h : Below B W w) (hg : B ≤ g) (u0 u1 u2 u3 u4 u5 : Value) :
    Below B W ((((((w.setCell ⟨g, 0, none⟩ u0).setCell ⟨g, 1, none⟩ u1).setCell ⟨g, 2, none⟩ u2).setCell ⟨g, 3, none⟩ u3).setCell ⟨g, 4, none⟩ u4).setCell ⟨g, 5, none⟩ u5) :=
  (((((h.setCell (p := ⟨g, 0, none⟩) hg _).setCell (p := ⟨g, 1, none⟩) hg _).setCell (p := ⟨g, 2, none⟩) hg _).setCell (p := ⟨g, 3, none⟩) hg _).setCell (p := ⟨g, 4, none⟩) hg _).setCell (p := ⟨g, 5, none⟩) hg _
theorem idx3_0 (a b c : Int) (w : World) : (Instr.index 83 (.agg #[.int .i64 a, .int .i64 b, .int .i64 c]) (.int .i64 0)).run Tryz.prog w = .ok (.int .i64 a) w := by kernel_rfl
theorem idx3_1 (a b c : Int) (w : World) : (Instr.index 83 (.agg #[.int .i64 a, .int .i64 b, .int .i64 c]) (.int .i64 1)).run Tryz.prog w = .ok (.int .i64 b) w := by kernel_rfl
theorem idx3_2 (a b c : Int) (w : World) : (Instr.index 83 (.agg #[.int .i64 a, .int .i64 b, .int .i64 c]) (.int .i64 2)).run Tryz.prog w = .ok (.int .i64 c) w := by kernel_rfl

set_option maxRecDepth 100000 in
set_option maxHeartbeats 4000000 in
theorem gcanonical_any {p : List Nat} {b n ca : Nat} {A : Option Addr} {W : World} {x : E.Opn} (hb : b < W.heap.size) (hrow : W.cell? ⟨b, 0, none⟩ = some (.slice A n ca)) (hp : SlAt (IntR .i64) W A n (ini p)) (hd : E.Down p) (hx : E.Ar p.length x) :
    Calls Tryz.prog 99 #[.pointer (some ⟨b, 0, none⟩), opV x] W fun e W' => e = .returned (opV (E.can p x)) ∧ Below W.heap.size W W' := by
  obtain ⟨W2, hW2⟩ : ∃ W2, W2 = (W.alloc (.cells #[.int .i64 x.op, .int .i64 x.w, .int .u32 x.imm, .int .i64 x.a0, .int .i64 x.a1, .int .i64 x.a2] 85)).alloc (.cells #[.int .i64 0, .int .i64 0, .int .u32 0, .int .i64 0, .int .i64 0, .int .i64 0] 85) := ⟨_, rfl⟩
  have hb2 : Below W.heap.size W W2 := by rw [hW2]; exact ((Below.refl _ _).alloc (Nat.le_refl _) _).alloc (by simp) _
  have hr0 : W2.heap[W.heap.size]? = some (.cells (opC (E.canTo p 0 x)) 85 (0, 0)) := by rw [hW2]; exact row_alloc (heap_alloc_new W _) _
  have hr1 : W2.heap[W.heap.size + 1]? = some (.cells #[.int .i64 0, .int .i64 0, .int .u32 0, .int .i64 0, .int .i64 0, .int .i64 0] 85 (0, 0)) := by rw [hW2]; exact new_two W _ _
  have Hcall := Lib.hid (show ∀ X, Below W.heap.size W X → ∀ c, c < p.length → Calls Tryz.prog 100 #[.pointer (some ⟨b, 0, none⟩), .int .i64 (c : Int)] X fun e W' => e = .returned (.int .i64 (E.root p c : Nat)) ∧ W' = X from fun X hX c hc =>
    gfind_any ((hX.cell (p := ⟨b, 0, none⟩) hb).trans hrow) (hp.below (monoInt _) hX) hd c hc)
  have c3 : W2.cell? ⟨W.heap.size, 3, none⟩ = some (.int .i64 x.a0) := by rw [cell_of_row _ _ _ _ _ (0, 0) hr0]; rfl
  have c4 : W2.cell? ⟨W.heap.size, 4, none⟩ = some (.int .i64 x.a1) := by rw [cell_of_row _ _ _ _ _ (0, 0) hr0]; rfl
  have c5 : W2.cell? ⟨W.heap.size, 5, none⟩ = some (.int .i64 x.a2) := by rw [cell_of_row _ _ _ _ _ (0, 0) hr0]; rfl
  have Hr0 := Lib.hid hr0
  have Hr1 := Lib.hid hr1
  have Hb2 := Lib.hid hb2
  have Hx := Lib.hid hx
  clear hb hrow hp hd hb2 hr0 hr1 hx
  unfold opV
  go_enter Tryz.func99, Tryz.ntmps99
  go_wp2_with fail
  rw [← hW2]
  clear hW2
  go_wp2
  clear c3 c4 c5
  go_loopg [9] 3 (fun gg i wr => ∃ (j : Nat), j ≤ 3 ∧ i = .int .i64 (j : Int) ∧ gg + j = 3 ∧ Hid (Below W.heap.size W wr ∧ wr.heap[W.heap.size]? = some (.cells (opC (E.canTo p j x)) 85 (0, 0)) ∧ wr.heap[W.heap.size + 1]? = some (.cells #[.int .i64 0, .int .i64 0, .int .u32 0, .int .i64 0, .int .i64 0, .int .i64 0] 85 (0, 0))))
  case atStart => exact ⟨0, by omega, rfl, rfl, Lib.hid ⟨Hb2.out, Hr0.out, Hr1.out⟩⟩
  case round =>
    obtain ⟨j, hj, rfl, hgk, Hw⟩ := hrel
    have Hgk := Lib.hid hgk; clear hgk Hb2 Hr0 Hr1
    have hsz : W.heap.size + 1 < wr.heap.size := (Array.getElem?_eq_some_iff.1 Hw.out.2.2).1
    have Hsz := Lib.hid hsz
    clear hsz
    rcases (show j = 0 ∨ j = 1 ∨ j = 2 ∨ j = 3 by omega) with rfl | rfl | rfl | rfl
    · rw [show ((0 : Nat) : Int) = 0 from rfl]
      have ix := idx3_0
      by_cases ha : x.a0 = -1
      · go_wp2
        go_roundg (gk - 1)
        case measure => have := Hgk.out; omega
        case rel => exact ⟨1, by omega, rfl, by have := Hgk.out; omega, Lib.hid ⟨Hw.out.1, by rw [Hw.out.2.1]; simp [opC, E.canTo, ha, E.cr_none], Hw.out.2.2⟩⟩
      · obtain ⟨c, hc, hcl, hcr⟩ := E.cr_class Hx.out.1 ha
        have hcc := Hcall.out wr Hw.out.1 c hcl
        rw [← hc] at hcc
        have Hcc := Lib.hid hcc
        have hr := Hw.out.2.1
        have hf : wr.frozen? ⟨W.heap.size, 3, none⟩ = false := frozen_row hr _
        have hcell : wr.cell? ⟨W.heap.size, 3, none⟩ = some (.int .i64 x.a0) := by rw [cell_of_row _ _ _ _ _ (0, 0) hr]; rfl
        have Ha := Lib.hid ha
        have Hcr := Lib.hid hcr
        have Hce := Lib.hid hc
        clear hcl hcr hcc hr hc
        go_wp2_with fail
        (with_reducible refine Hcc.out.mono ?_)
        rintro e w2 ⟨rfl, rfl⟩
        go_wp2
        go_roundg (gk - 1)
        case measure => have := Hgk.out; omega
        case rel =>
          refine ⟨1, by omega, rfl, by have := Hgk.out; omega, Lib.hid ⟨Hw.out.1.setCell (p := ⟨W.heap.size, 3, none⟩) (Nat.le_refl _) _, ?_, ?_⟩⟩
          · rw [heap_setCell_same _ _ 3 _ _ _ Hw.out.2.1]
            simp [opC, E.canTo, Hcr.out]
          · exact (heap_setCell_other _ _ _ _ (by simp)).trans Hw.out.2.2
    · rw [show ((1 : Nat) : Int) = 1 from rfl]
      have ix := idx3_1
      by_cases ha : x.a1 = -1
      · go_wp2
        go_roundg (gk - 1)
        case measure => have := Hgk.out; omega
        case rel => exact ⟨2, by omega, rfl, by have := Hgk.out; omega, Lib.hid ⟨Hw.out.1, by rw [Hw.out.2.1]; simp [opC, E.canTo, ha, E.cr_none], Hw.out.2.2⟩⟩
      · obtain ⟨c, hc, hcl, hcr⟩ := E.cr_class Hx.out.2.1 ha
        have hcc := Hcall.out wr Hw.out.1 c hcl
        rw [← hc] at hcc
        have Hcc := Lib.hid hcc
        have hr := Hw.out.2.1
        have hf : wr.frozen? ⟨W.heap.size, 4, none⟩ = false := frozen_row hr _
        have hcell : wr.cell? ⟨W.heap.size, 4, none⟩ = some (.int .i64 x.a1) := by rw [cell_of_row _ _ _ _ _ (0, 0) hr]; rfl
        have Ha := Lib.hid ha
        have Hcr := Lib.hid hcr
        have Hce := Lib.hid hc
        clear hcl hcr hcc hr hc
        go_wp2_with fail
        (with_reducible refine Hcc.out.mono ?_)
        rintro e w2 ⟨rfl, rfl⟩
        go_wp2
        go_roundg (gk - 1)
        case measure => have := Hgk.out; omega
        case rel =>
          refine ⟨2, by omega, rfl, by have := Hgk.out; omega, Lib.hid ⟨Hw.out.1.setCell (p := ⟨W.heap.size, 4, none⟩) (Nat.le_refl _) _, ?_, ?_⟩⟩
          · rw [heap_setCell_same _ _ 4 _ _ _ Hw.out.2.1]
            simp [opC, E.canTo, Hcr.out]
          · exact (heap_setCell_other _ _ _ _ (by simp)).trans Hw.out.2.2
    · rw [show ((2 : Nat) : Int) = 2 from rfl]
      have ix := idx3_2
      by_cases ha : x.a2 = -1
      · go_wp2
        go_roundg (gk - 1)
        case measure => have := Hgk.out; omega
        case rel => exact ⟨3, by omega, rfl, by have := Hgk.out; omega, Lib.hid ⟨Hw.out.1, by rw [Hw.out.2.1]; simp [opC, E.canTo, ha, E.cr_none], Hw.out.2.2⟩⟩
      · obtain ⟨c, hc, hcl, hcr⟩ := E.cr_class Hx.out.2.2 ha
        have hcc := Hcall.out wr Hw.out.1 c hcl
        rw [← hc] at hcc
        have Hcc := Lib.hid hcc
        have hr := Hw.out.2.1
        have hf : wr.frozen? ⟨W.heap.size, 5, none⟩ = false := frozen_row hr _
        have hcell : wr.cell? ⟨W.heap.size, 5, none⟩ = some (.int .i64 x.a2) := by rw [cell_of_row _ _ _ _ _ (0, 0) hr]; rfl
        have Ha := Lib.hid ha
        have Hcr := Lib.hid hcr
        have Hce := Lib.hid hc
        clear hcl hcr hcc hr hc
        go_wp2_with fail
        (with_reducible refine Hcc.out.mono ?_)
        rintro e w2 ⟨rfl, rfl⟩
        go_wp2
        go_roundg (gk - 1)
        case measure => have := Hgk.out; omega
        case rel =>
          refine ⟨3, by omega, rfl, by have := Hgk.out; omega, Lib.hid ⟨Hw.out.1.setCell (p := ⟨W.heap.size, 5, none⟩) (Nat.le_refl _) _, ?_, ?_⟩⟩
          · rw [heap_setCell_same _ _ 5 _ _ _ Hw.out.2.1]
            simp [opC, E.canTo, Hcr.out]
          · exact (heap_setCell_other _ _ _ _ (by simp)).trans Hw.out.2.2
    · rw [show ((3 : Nat) : Int) = 3 from rfl]
      have hr := Hw.out.2.1
      rw [E.canTo_all] at hr
      unfold opC at hr
      obtain ⟨y0, y1, y2, y3, y4, y5⟩ := op6_cells hr
      have f0 := fun k => frozen_row Hw.out.2.2 k
      have z0 := f0 0
      have z1 := f0 1
      have z2 := f0 2
      have z3 := f0 3
      have z4 := f0 4
      have z5 := f0 5
      obtain ⟨v0, v1, v2, v3, v4, v5⟩ := op6_cells Hw.out.2.2
      clear f0
      generalize hq : E.can p x = q at *
      clear hr
      go_wp2
      refine bodyPost_ret (results_cell_row rfl _ _ (W.heap.size + 1) 85 (opC q) (0, 0) _ rfl (set6_row Hw.out.2.2 _ _ _ _ _ _) Tryz.underlying85 rfl (by kernel_rfl)) rfl ?_
      exact ⟨by subst hq; rfl, set6_below Hw.out.1 (by omega) _ _ _ _ _ _⟩
end Go.Proofs.YtcmlmjbpdaecbaaGreat
end
section
namespace Go.Proofs.YtcmlmjbpdaecbaaGreat
set_option linter.unusedVariables false
set_option linter.unusedSimpArgs false
namespace E

/-- the widths of the variables -/
structure Vr where
  a : Int
  b : Int
  c : Int
  d : Int
deriving DecidableEq
def Vr.get (v : Vr) : Nat → Int
  | 0 => v.a
  | 1 => v.b
  | 2 => v.c
  | _ => v.d
def Vr.set (v : Vr) (i : Nat) (x : Int) : Vr := match i with
  | 0 => { v with a := x }
  | 1 => { v with b := x }
  | 2 => { v with c := x }
  | _ => { v with d := x }
def Vr.zero : Vr := ⟨0, 0, 0, 0⟩

structure Gr where
  p : List Nat
  wd : List Int
  es : List (Opn × Nat)
  nm : List Nat
  vr : Vr
def Gr.new : Gr := ⟨[], [], [], [], Vr.zero⟩

/-- the class of an operation, and whether it is new -/
def Gr.put (s : Gr) (x : Opn) : Gr × Nat × Bool :=
  match AL.get s.es (can s.p x) with
  | some c => (s, root s.p c, false)
  | none => ({ s with p := s.p ++ [s.p.length], wd := s.wd ++ [x.w], es := s.es ++ [(can s.p x, s.p.length)] }, s.p.length, true)

/-- the operation of a node over the classes of those ahead of it -/
def opOf (cl : List Nat) (x : T.Nd) : Opn := ⟨x.op, x.w, x.imm, (x.args.map fun a => ((cl.getD a.toNat 0 : Nat) : Int)).getD 0 (-1), (x.args.map fun a => ((cl.getD a.toNat 0 : Nat) : Int)).getD 1 (-1), (x.args.map fun a => ((cl.getD a.toNat 0 : Nat) : Int)).getD 2 (-1)⟩

/-- a node with its variable; false: it has another width -/
def Gr.vars (s : Gr) (x : T.Nd) : Option Gr :=
  if x.op = 33 then (if s.vr.get x.imm.toNat ≠ 0 ∧ s.vr.get x.imm.toNat ≠ x.w then none else some { s with vr := s.vr.set x.imm.toNat x.w }) else some s
def Gr.adds : Gr → List Nat → List T.Nd → Option (Gr × List Nat)
  | s, cl, [] => some (s, cl)
  | s, cl, x :: l => match s.vars x with
    | none => none
    | some s1 => Gr.adds (s1.put (opOf cl x)).1 (cl ++ [(s1.put (opOf cl x)).2.1]) l

/-- what each part of a graph keeps to -/
structure Ok (p : List Nat) (wd : List Int) (es : List (Opn × Nat)) (nm : List Nat) : Prop where
  down : Down p
  wd : wd.length = p.length
  inn : In p es
  ar : ∀ e ∈ es, Ar p.length e.1
  nm : ∀ c ∈ nm, c < p.length
def Gr.Ok (s : Gr) : Prop := E.Ok s.p s.wd s.es s.nm

theorem getD_app {p : List Nat} {u : Nat} {c : Nat} : (p ++ [u]).getD c c = if c < p.length then p.getD c c else if c = p.length then u else c := by
  simp only [List.getD_eq_getElem?_getD]
  split
  · rename_i h; rw [List.getElem?_append_left h]
  · rename_i h
    rw [List.getElem?_append_right (by omega)]
    split
    · rename_i h2; subst h2; simp
    · rw [List.getElem?_eq_none (by simp; omega)]; rfl
theorem down_app {p : List Nat} (hd : Down p) : Down (p ++ [p.length]) := fun c hc => by
  rw [getD_app]
  split
  · rename_i h; exact hd c h
  · split <;> omega
theorem root_app {p : List Nat} (hd : Down p) (c : Nat) : root (p ++ [p.length]) c = root p c := by
  induction c using Nat.strongRecOn with
  | _ c ih =>
    have e : (p ++ [p.length]).getD c c = p.getD c c := by
      rw [getD_app]
      split
      · rfl
      · rename_i h
        rw [getD_out (by omega)]
        split <;> omega
    rcases Nat.lt_or_ge (p.getD c c) c with h | h
    · conv => lhs; unfold root
      conv => rhs; unfold root
      rw [dif_pos (by rw [e]; exact h), dif_pos h, e]
      exact ih _ h
    · conv => lhs; unfold root
      conv => rhs; unfold root
      rw [dif_neg (by rw [e]; omega), dif_neg (by omega)]
theorem cr_app {p : List Nat} (hd : Down p) (a : Int) : cr (p ++ [p.length]) a = cr p a := by
  unfold cr; rw [root_app hd]
theorem can_app {p : List Nat} (hd : Down p) (x : Opn) : can (p ++ [p.length]) x = can p x := by
  unfold can; rw [cr_app hd, cr_app hd, cr_app hd]

theorem get_in {s : List (Opn × Nat)} {x : Opn} {c : Nat} (h : AL.get s x = some c) : (x, c) ∈ s := AL.get_mem h

theorem Gr.put_ok {s : Gr} (h : s.Ok) {x : Opn} (hx : Ar s.p.length x) : (s.put x).1.Ok ∧ (s.put x).2.1 < (s.put x).1.p.length ∧ s.p.length ≤ (s.put x).1.p.length ∧ (s.put x).1.p.length ≤ s.p.length + 1 ∧ (s.put x).1.nm = s.nm ∧ (s.put x).1.vr = s.vr := by
  unfold Gr.put
  cases hg : AL.get s.es (can s.p x) with
  | some c => exact ⟨h, root_lt (h.inn _ (get_in hg)), Nat.le_refl _, by dsimp only; omega, rfl, rfl⟩
  | none =>
    dsimp only
    refine ⟨⟨down_app h.down, by simp [h.wd], ?_, ?_, ?_⟩, by simp, by simp, by simp, rfl, rfl⟩
    · intro e he
      rw [List.length_append, List.length_singleton]
      rcases List.mem_append.1 he with he | he
      · have := h.inn e he; omega
      · simp at he; subst he; dsimp only; omega
    · intro e he
      rw [List.length_append, List.length_singleton]
      rcases List.mem_append.1 he with he | he
      · exact (h.ar e he).mono (by omega)
      · simp at he; subst he; exact (ar_can hx).mono (by omega)
    · intro c hc
      rw [List.length_append, List.length_singleton]
      have := h.nm c hc
      omega
end E
end Go.Proofs.YtcmlmjbpdaecbaaGreat
end
