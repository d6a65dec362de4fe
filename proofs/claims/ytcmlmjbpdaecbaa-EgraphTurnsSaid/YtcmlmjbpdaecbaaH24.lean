/- Merged: G1, G2. -/
import Derived.Test.YtcmlmjbpdaecbaaH09
import Derived.Test.YtcmlmjbpdaecbaaH10
import Derived.Test.YtcmlmjbpdaecbaaH17
import Derived.Test.YtcmlmjbpdaecbaaH19
import Derived.Test.YtcmlmjbpdaecbaaH23
import Derived.DeepKeys4
import Derived.Deep.DeepCutAuto
set_option linter.unusedVariables false
set_option linter.unusedSimpArgs false
section
namespace Go.Proofs.Ytcmlmjbpdaecbaa
open Go.RowKit Go.MapKept Go.Maps Go.WideMaps
set_option linter.unusedVariables false
set_option linter.unusedSimpArgs false

/-- what lies outside M stays -/
structure Kpm (M : Nat → Prop) (w w' : World) : Prop where
  os : w'.os = w.os
  tape : w'.tape = w.tape
  output : w'.output = w.output
  size : w.heap.size ≤ w'.heap.size
  block : ∀ k, k < w.heap.size → ¬ M k → w'.heap[k]? = w.heap[k]?

section
variable {M N : Nat → Prop} {a b c w w' : World} {B : Nat}

theorem Kpm.refl (M : Nat → Prop) (w : World) : Kpm M w w := ⟨rfl, rfl, rfl, Nat.le_refl _, fun _ _ _ => rfl⟩
theorem Kpm.trans (h : Kpm M a b) (k : Kpm N b c) (hN : ∀ i, i < a.heap.size → N i → M i) : Kpm M a c :=
  ⟨k.os.trans h.os, k.tape.trans h.tape, k.output.trans h.output, Nat.le_trans h.size k.size, fun i hi hm => (k.block i (Nat.lt_of_lt_of_le hi h.size) (fun hn => hm (hN i hi hn))).trans (h.block i hi hm)⟩
theorem Kpm.weak (h : Kpm M a b) (hi : ∀ i, i < a.heap.size → M i → N i) : Kpm N a b :=
  ⟨h.os, h.tape, h.output, h.size, fun i hl hn => h.block i hl fun hm => hn (hi i hl hm)⟩
theorem Kpm.below (h : Kpm M a b) (hB : B ≤ a.heap.size) (hM : ∀ i, M i → B ≤ i) : Below B a b :=
  ⟨h.os, h.tape, h.output, h.size, fun i hi => h.block i (by omega) fun hm => by have := hM i hm; omega⟩
theorem Kpm.of_below (h : Below a.heap.size a b) (M : Nat → Prop) : Kpm M a b :=
  ⟨h.os, h.tape, h.output, h.size, fun i hi _ => h.block i hi⟩
theorem Kpm.grown {row : Option Nat} (h : a.grownBy b row) (hr : ∀ g, row = some g → M g) : Kpm M a b :=
  ⟨h.os, h.tape, h.output, h.size, fun i hi hm => h.block i hi fun e => hm (hr i e.symm)⟩
theorem Kpm.drew (h : Kpm M a b) : Kpm M a b.drew := ⟨h.os, h.tape, h.output, h.size, h.block⟩
theorem Kpm.alloc (h : Kpm M a b) (o : Obj) : Kpm M a (b.alloc o) :=
  h.trans (Kpm.of_below ((Below.refl _ _).alloc (Nat.le_refl _) o) (fun _ => False)) (fun _ _ h => h.elim)
theorem Kpm.setCell (h : Kpm M a b) {p : Addr} (hp : p.block < a.heap.size → M p.block) (u : Value) : Kpm M a (b.setCell p u) :=
  ⟨h.os, h.tape, h.output, by simpa using h.size, fun i hi hm => (Below.heap_setCell b p u i (fun e => hm (by rw [e]; exact hp (by rw [← e]; exact hi)))).trans (h.block i hi hm)⟩
end

theorem frozen_row {W : World} {g : Nat} {cs : Array Value} {T : TypeId} (h : W.heap[g]? = some (.cells cs T (0, 0))) (k : Nat) : W.frozen? ⟨g, k, none⟩ = false := by simp [World.frozen?, h]

def I64 (n : Int) : Prop := -9223372036854775808 ≤ n ∧ n ≤ 9223372036854775807
theorem lit_i64 {n : Int} (h : I64 n) : (Lit.int .i64 n).wf = true := by
  have e1 : IntKind.i64.min = -9223372036854775808 := by decide
  have e2 : IntKind.i64.max = 9223372036854775807 := by decide
  unfold Lit.wf
  rw [Bool.and_eq_true, decide_eq_true_eq, decide_eq_true_eq, e1, e2]
  exact h
theorem lit_u32 {n : Int} (h : 0 ≤ n ∧ n < 4294967296) : (Lit.int .u32 n).wf = true := by
  have e1 : IntKind.u32.min = 0 := by decide
  have e2 : IntKind.u32.max = 4294967295 := by decide
  unfold Lit.wf
  rw [Bool.and_eq_true, decide_eq_true_eq, decide_eq_true_eq, e1, e2]
  omega

/-- an operation as a key: of the builder of terms, of the graph, of the reference -/
def opV (k : E.Opn) : Value := .agg #[.int .i64 k.op, .int .i64 k.w, .int .u32 k.imm, .int .i64 k.a0, .int .i64 k.a1, .int .i64 k.a2]
theorem opV_inj : ∀ a b, opV a = opV b → a = b := by
  rintro ⟨⟩ ⟨⟩ h
  simp [opV] at h
  simpa using h
structure OWf (k : E.Opn) : Prop where
  op : I64 k.op
  w : I64 k.w
  imm : 0 ≤ k.imm ∧ k.imm < 4294967296
  a0 : I64 k.a0
  a1 : I64 k.a1
  a2 : I64 k.a2

theorem intKeyed : Keyed Try.prog 3 := int_keyed Try.underlying3
theorem bkKeyed : Keyed Try.prog 114 := Keyed.of_law (deep_law_laid (by kernel_rfl) (m := 3) (by omega) (of_decide_eq_true (by kernel_rfl)) (by kernel_rfl) (by kernel_rfl))
theorem opKeyed : Keyed Try.prog 59 := Keyed.of_law (deep_law_laid (by kernel_rfl) (m := 3) (by omega) (of_decide_eq_true (by kernel_rfl)) (by kernel_rfl) (by kernel_rfl))

theorem keyLits_int {P : Program} {t : TypeId} {q : IntKind} (h : P.underlying t = some (.int q)) (d : Nat) {n : Int} (hn : (Lit.int q n).wf = true) : P.keyLits (d + 1) t [.int q n] = some [.int q n] := by
  simp [Program.keyLits, h, hn]
theorem keyLits_three {P : Program} {t e : TypeId} {q : IntKind} (h : P.underlying t = some (.array 3 e)) (he : P.underlying e = some (.int q)) (hc : P.cellsOf t = 3) (hce : P.cellsOf e = 1) (d : Nat) {a b c : Int} (ha : (Lit.int q a).wf = true) (hb : (Lit.int q b).wf = true) (hcw : (Lit.int q c).wf = true) :
    P.keyLits (d + 2) t [.int q a, .int q b, .int q c] = some [.int q a, .int q b, .int q c] := by
  unfold Program.keyLits
  simp only [h, hc, hce]
  refine (if_pos rfl).trans ?_
  simp only [List.range, List.range.loop, List.mapM_cons, List.mapM_nil, Nat.zero_mul, Nat.one_mul, Nat.reduceMul, List.drop_zero, List.drop_succ_cons, List.take_succ_cons, List.take_zero, keyLits_int he _ ha, keyLits_int he _ hb, keyLits_int he _ hcw]
  rfl

theorem keyOf_bk {k : E.Opn} (h : OWf k) : ∃ l, keyOf Try.prog 114 (opV k) = some l := by
  obtain ⟨h1, h2, h4, h5, h6, h7⟩ := h
  have f1 : Try.prog.keyType 114 = true := by kernel_rfl
  have f2 : Try.prog.cellsOf 114 = 6 := by kernel_rfl
  have f3 : Try.prog.cellsOf 57 = 3 := by kernel_rfl
  have f4 : Try.prog.cellsOf 3 = 1 := by kernel_rfl
  have f5 : Try.prog.cellsOf 44 = 1 := by kernel_rfl
  obtain ⟨d, hd⟩ : ∃ d, Try.prog.types.size + 1 = d + 4 := ⟨Try.prog.types.size - 3, by have : 3 ≤ Try.prog.types.size := of_decide_eq_true (by kernel_rfl); omega⟩
  have hL : Try.prog.keyLits (Try.prog.types.size + 1) 114 (opV k).cells.toList = some [.int .i64 k.op, .int .i64 k.w, .int .u32 k.imm, .int .i64 k.a0, .int .i64 k.a1, .int .i64 k.a2] := by
    rw [hd]
    unfold Program.keyLits
    simp only [Try.underlying114, f2]
    simp only [opV, Value.cells]
    refine (if_pos ⟨rfl, by kernel_rfl⟩).trans ?_
    simp only [List.mapM_cons, List.mapM_nil, f3, f4, f5, List.drop_zero, List.drop_succ_cons, List.take_succ_cons, List.take_zero]
    rw [keyLits_int Try.underlying3 (d + 2) (lit_i64 h1), keyLits_int Try.underlying3 (d + 2) (lit_i64 h2), keyLits_int Try.underlying44 (d + 2) (lit_u32 h4), keyLits_three Try.underlying57 Try.underlying3 f3 f4 (d + 1) (lit_i64 h5) (lit_i64 h6) (lit_i64 h7)]
    rfl
  have hf : (opV k).formed Try.prog 114 = true := by simp [Value.formed, Try.underlying114, f2, opV]
  unfold keyOf
  simp only [Try.underlying114, f1, hf, hL, Bool.and_self, if_true, Option.map_some]
  exact ⟨_, rfl⟩
theorem keyOf_op {k : E.Opn} (h : OWf k) : ∃ l, keyOf Try.prog 59 (opV k) = some l := by
  obtain ⟨h1, h2, h4, h5, h6, h7⟩ := h
  have f1 : Try.prog.keyType 59 = true := by kernel_rfl
  have f2 : Try.prog.cellsOf 59 = 6 := by kernel_rfl
  have f3 : Try.prog.cellsOf 57 = 3 := by kernel_rfl
  have f4 : Try.prog.cellsOf 3 = 1 := by kernel_rfl
  have f5 : Try.prog.cellsOf 44 = 1 := by kernel_rfl
  obtain ⟨d, hd⟩ : ∃ d, Try.prog.types.size + 1 = d + 4 := ⟨Try.prog.types.size - 3, by have : 3 ≤ Try.prog.types.size := of_decide_eq_true (by kernel_rfl); omega⟩
  have hL : Try.prog.keyLits (Try.prog.types.size + 1) 59 (opV k).cells.toList = some [.int .i64 k.op, .int .i64 k.w, .int .u32 k.imm, .int .i64 k.a0, .int .i64 k.a1, .int .i64 k.a2] := by
    rw [hd]
    unfold Program.keyLits
    simp only [Try.underlying59, f2]
    simp only [opV, Value.cells]
    refine (if_pos ⟨rfl, by kernel_rfl⟩).trans ?_
    simp only [List.mapM_cons, List.mapM_nil, f3, f4, f5, List.drop_zero, List.drop_succ_cons, List.take_succ_cons, List.take_zero]
    rw [keyLits_int Try.underlying3 (d + 2) (lit_i64 h1), keyLits_int Try.underlying3 (d + 2) (lit_i64 h2), keyLits_int Try.underlying44 (d + 2) (lit_u32 h4), keyLits_three Try.underlying57 Try.underlying3 f3 f4 (d + 1) (lit_i64 h5) (lit_i64 h6) (lit_i64 h7)]
    rfl
  have hf : (opV k).formed Try.prog 59 = true := by simp [Value.formed, Try.underlying59, f2, opV]
  unfold keyOf
  simp only [Try.underlying59, f1, hf, hL, Bool.and_self, if_true, Option.map_some]
  exact ⟨_, rfl⟩

def ekI (n : Int) : Value := .int .i64 n
theorem ekI_inj : ∀ a b, ekI a = ekI b → a = b := by intro a b h; simp [ekI] at h; exact h
/-- elements that are numbers of classes -/
def NatE {κ : Type} (_ : World) (_ : κ) (u : Value) (n : Nat) : Prop := u = .int .i64 (n : Int)
/-- classes as they lie in memory -/
def ivs (l : List Nat) : List Value := l.map fun (c : Nat) => Value.int .i64 (c : Int)
def ini (l : List Nat) : List Int := l.map fun (c : Nat) => (c : Int)
end Go.Proofs.Ytcmlmjbpdaecbaa
end
section
namespace Go.Proofs.Ytcmlmjbpdaecbaa
open Go.RowKit Go.MapKept Go.Maps Go.WideMaps
set_option linter.unusedVariables false
set_option linter.unusedSimpArgs false

theorem ini_at {l : List Nat} {k c : Nat} (h : (ini l)[k]? = some (c : Int)) : l[k]? = some c := by
  unfold ini at h
  rw [List.getElem?_map] at h
  cases e : l[k]? with
  | none => rw [e] at h; cases h
  | some d => rw [e] at h; simp at h; have : d = c := by omega
              rw [this]
theorem ini_some {l : List Nat} {k : Nat} {a : Int} (h : (ini l)[k]? = some a) : ∃ c : Nat, a = (c : Int) ∧ l[k]? = some c := by
  unfold ini at h
  rw [List.getElem?_map] at h
  cases e : l[k]? with
  | none => rw [e] at h; cases h
  | some d => rw [e] at h; simp at h; exact ⟨d, h.symm, rfl⟩
theorem ini_len (l : List Nat) : (ini l).length = l.length := by simp [ini]

namespace E
theorem root_next {p : List Nat} (hd : Down p) {c d : Nat} (h : p[c]? = some d) : d ≤ c ∧ (d = c → root p c = c) ∧ root p d = root p c := by
  have hl := (List.getElem?_eq_some_iff.1 h).1
  have e : p.getD c c = d := by rw [List.getD_eq_getElem?_getD, h]; rfl
  have h1 := hd c hl
  rw [e] at h1
  refine ⟨h1, fun k => root_of_fix (by rw [e, k]), ?_⟩
  have := root_step (p := p) (c := c) (by rw [e]; exact h1)
  rw [e] at this
  exact this
end E

set_option maxRecDepth 100000 in
set_option maxHeartbeats 1000000 in
theorem gfind_any {p : List Nat} {b n ca : Nat} {A : Option Addr} {W : World} (hrow : W.cell? ⟨b, 0, none⟩ = some (.slice A n ca)) (hp : SlAt (IntR .i64) W A n (ini p)) (hd : E.Down p) (c : Nat) (hc : c < p.length) :
    Calls Try.prog 33 #[.pointer (some ⟨b, 0, none⟩), .int .i64 (c : Int)] W fun e W' => e = .returned (.int .i64 (E.root p c : Nat)) ∧ W' = W := by
  have hn : p.length = n := by have := hp.len; rw [ini_len] at this; exact this
  have hle := hp.le
  have Hp := Lib.hid hp
  have Hd := Lib.hid hd
  have Hn := Lib.hid hn
  have Hc := Lib.hid hc
  clear hp hd hn hc
  go_enter Try.func33, Try.ntmps33
  go_wp2
  go_loopg [1] c (fun gg i wr => ∃ (j : Nat), i = .int .i64 (j : Int) ∧ gg = j ∧ Hid (j ≤ c ∧ E.root p j = E.root p c) ∧ wr = W)
  case atStart => exact ⟨c, rfl, rfl, Lib.hid ⟨Nat.le_refl _, rfl⟩, rfl⟩
  case round =>
    obtain ⟨j, rfl, hgk, Hj, rfl⟩ := hrel
    have Hgk := Lib.hid hgk; clear hgk
    have hjn : j < n := by have := Hj.out.1; have := Hc.out; have := Hn.out; omega
    obtain ⟨x, ba, off, u, hx, rfl, hba, hcell, rfl⟩ := Hp.out.at_ hjn
    obtain ⟨d, rfl, hd'⟩ := ini_some hx
    obtain ⟨d1, d2, d3⟩ := E.root_next Hd.out hd'
    have D2 := Lib.hid d2
    have D3 := Lib.hid d3
    clear hx hd' d2 d3 hba
    by_cases hdj : d = j
    · subst hdj
      have hres := D2.out rfl
      have Hres := Lib.hid hres
      clear hres
      go_wp2
      go_ret
      exact ⟨congrArg (fun n : Nat => Ending.returned (Value.int .i64 (n : Int))) (show d = E.root p c from Hres.out.symm.trans Hj.out.2), rfl⟩
    · have hne : (d : Int) ≠ (j : Int) := by omega
      have D1 := Lib.hid d1
      have Hdj := Lib.hid hdj
      clear d1 hdj
      go_wp2
      go_roundg d
      case measure => have := Hgk.out; have := D1.out; have := Hdj.out; omega
      case rel =>
        have := D1.out
        exact ⟨d, rfl, rfl, Lib.hid ⟨by have := Hj.out.1; omega, D3.out.trans Hj.out.2⟩, rfl⟩
end Go.Proofs.Ytcmlmjbpdaecbaa
end
