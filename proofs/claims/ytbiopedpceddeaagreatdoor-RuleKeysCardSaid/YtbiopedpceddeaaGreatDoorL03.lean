/- Merged: ROpen2, ROpenW, RPlainT, RM4, RM5. -/
import Derived.Test.YtbiopedpceddeaaGreatDoorL02
import Derived.ChangeSame
import Derived.Deep.Strs
import Derived.Test.YtbiopedpceddeaaGreatDoorL01
import Derived.Test.YtbiopedpceddeaaGreatDoorL00
import Derived.Laws.CopyOwn
import Derived.Deep.RegionLaw
import Derived.StillTailTactics
import Derived.Deep.RegionHeld3
import Derived.RangeFuncIn
import Derived.RangeFuncRecord
import Derived.RangeFuncSeq
import Derived.RangeFuncLeaves
import Derived.StillTail
import Derived.OneCell
set_option linter.unusedVariables false
set_option linter.unusedSimpArgs false
section
namespace Go.Proofs.YtbiopedpceddeaaGreatDoor
open Go.ChangeShapes Go.WideShapes Go.ChangeAt Go.RowKit Go.Deep
section
variable {H : Type} {enc : TypeId × Value → H} {P : Program} {W : World}

theorem open_agg3 {r : Reach} {b0 : Nat} {t : TypeId} {f0 f1 f2 : Field} {v : Value} {d : DataW H} {ps : List MemPlace} (ht : P.underlying t = some (.struct #[f0, f1, f2])) (hc : P.cellsOf t = 3) (o0 : f0.offset = 0) (o1 : f1.offset = 1) (o2 : f2.offset = 2) (c0 : P.cellsOf f0.type = 1) (c1 : P.cellsOf f1.type = 1) (c2 : P.cellsOf f2.type = 1)
    (hval : Value.okWide P W r b0 t v) (h : DataW.Trod enc P W 0 (fun _ => true) true t v d ps) :
    ∃ u0 u1 u2 n x0 x1 x2, v = .agg #[u0, u1, u2] ∧ DataW.trod enc P W 0 (fun _ => true) true n f0.type [u0] = some x0 ∧ DataW.trod enc P W 0 (fun _ => true) true n f1.type [u1] = some x1 ∧ DataW.trod enc P W 0 (fun _ => true) true n f2.type [u2] = some x2 := by
  obtain ⟨cs, rfl, hs⟩ := okWide_struct ht hval
  obtain ⟨n, hn⟩ := h
  obtain ⟨y0, y1, y2, m, _, hl, h0, h1, h2⟩ := trod_struct3 ht hn
  rw [hc] at hs
  obtain ⟨l⟩ := cs
  match l, hs with
  | [u0, u1, u2], _ =>
    rw [o0, c0] at h0
    rw [o1, c1] at h1
    rw [o2, c2] at h2
    exact ⟨u0, u1, u2, m, y0, y1, y2, rfl, by simpa [Value.cells] using h0, by simpa [Value.cells] using h1, by simpa [Value.cells] using h2⟩
end
end Go.Proofs.YtbiopedpceddeaaGreatDoor
end
section
namespace Go.Proofs.YtbiopedpceddeaaGreatDoor
open Go.ChangeShapes Go.WideShapes Go.ChangeAt Go.RowKit Go.Deep
set_option linter.unusedVariables false

/-- a word, and that it is one -/
def WordR (_ : World) (u : Value) (x : Int) : Prop := u = .int .u32 x ∧ 0 ≤ x ∧ x < 4294967296
theorem readsWord {H : Type} {enc : TypeId × Value → H} {P : Program} {W : World} {t : TypeId} (ht : P.underlying t = some (.int .u32)) : ReadsAs enc P W t WordR := by
  intro n u x h
  obtain ⟨m, e, _, hw⟩ := DataW.trod_int ht h
  refine ⟨m, (List.cons.inj e).1, ?_⟩
  simp [Lit.wf, IntKind.min, IntKind.max, IntKind.signed, IntKind.bits] at hw
  omega
end Go.Proofs.YtbiopedpceddeaaGreatDoor
end
section
namespace Go.Proofs.YtbiopedpceddeaaGreatDoor.T
set_option linter.unusedVariables false
set_option linter.unusedSimpArgs false

/-- a node -/
structure Nd where
  op : Int
  w : Int
  fl : Int
  args : List Int
  imm : Int
deriving DecidableEq, Inhabited

/-- how many operands an operation has; -1: it is none of terms -/
def ar (op : Int) : Int := if op = 0 ∨ op = 33 then 0 else if 1 ≤ op ∧ op ≤ 14 then 2 else if op = 15 then 3 else if 16 ≤ op ∧ op ≤ 18 then 1 else -1
def immOk (x : Nd) : Bool := if x.op = 0 then B.isW x.w x.imm else if x.op = 33 then decide (x.imm < 4) else if x.op = 14 then decide (x.imm ≤ 9) else decide (x.imm = 0)
def argsOk (k : Nat) (l : List Int) : Bool := l.all fun a => decide (0 ≤ a) && decide (a < k)
/-- the node number k is as it must be, but for the widths of its operands; z: its flags must be 0 -/
def shaped (z : Bool) (k : Nat) (x : Nd) : Bool :=
  decide (0 ≤ ar x.op) && decide (1 ≤ x.w) && decide (x.w ≤ 32) && (!z || decide (x.fl = 0)) && decide ((x.args.length : Int) = ar x.op) && immOk x && (!decide (x.op = 14) || decide (x.w = 1)) && argsOk k x.args
/-- the width of operand number i -/
def wd (t : List Nd) (x : Nd) (i : Nat) : Int := (t.getD (x.args.getD i 0).toNat default).w
def typed (t : List Nd) (x : Nd) : Bool :=
  if 1 ≤ x.op ∧ x.op ≤ 13 then decide (wd t x 0 = x.w) && decide (wd t x 1 = x.w)
  else if x.op = 14 then decide (wd t x 0 = wd t x 1)
  else if x.op = 15 then decide (wd t x 0 = 1) && decide (wd t x 1 = x.w) && decide (wd t x 2 = x.w)
  else if x.op = 16 ∨ x.op = 17 then decide (wd t x 0 < x.w)
  else if x.op = 18 then decide (x.w < wd t x 0)
  else true
/-- two nodes are one variable at two widths -/
def clash (x y : Nd) : Bool := decide (x.op = 33) && decide (y.op = 33) && decide (x.imm = y.imm) && !decide (x.w = y.w)
def clashes : List Nd → Bool
  | [] => false
  | x :: t => t.any (clash x) || clashes t
/-- the first error of a term; z: flags must be 0 -/
def valid (z : Bool) (t : List Nd) : Int :=
  if t.length < 1 ∨ 300 < t.length then 3
  else if (t.zipIdx.all fun p => shaped z p.2 p.1) = false then 1
  else if (t.all (typed t)) = false then 6
  else if clashes t = true then 7 else 0
/-- the widths of the variables -/
def widths (t : List Nd) : List Int := t.foldl (fun l x => if x.op = 33 then l.set x.imm.toNat x.w else l) [0, 0, 0, 0]

theorem shaped_all {z : Bool} {t : List Nd} : (t.zipIdx.all fun p => shaped z p.2 p.1) = true ↔ ∀ i x, t[i]? = some x → shaped z i x = true := by
  rw [List.all_eq_true]
  constructor
  · intro h i x hx
    exact h (x, i) (List.mem_zipIdx_iff_getElem?.2 hx)
  · rintro h ⟨x, i⟩ hp
    exact h i x (List.mem_zipIdx_iff_getElem?.1 hp)
/-- what a right node has -/
theorem shaped_args {z : Bool} {k : Nat} {x : Nd} (h : shaped z k x = true) : (x.args.length : Int) = ar x.op ∧ 0 ≤ ar x.op ∧ 1 ≤ x.w ∧ x.w ≤ 32 ∧ immOk x = true ∧ ∀ a ∈ x.args, 0 ≤ a ∧ a < k := by
  unfold shaped at h
  simp only [Bool.and_eq_true, decide_eq_true_eq] at h
  obtain ⟨⟨⟨⟨⟨⟨⟨h1, h2⟩, h3⟩, _⟩, h5⟩, h6⟩, _⟩, h8⟩ := h
  refine ⟨h5, h1, h2, h3, h6, fun a ha => ?_⟩
  have := List.all_eq_true.1 h8 a ha
  simpa using this
/-- no two of the nodes clash -/
theorem clashes_iff {t : List Nd} : clashes t = false ↔ ∀ (i j : Nat) (x y : Nd), i < j → t[i]? = some x → t[j]? = some y → clash x y = false := by
  induction t with
  | nil => simp [clashes]
  | cons a t ih =>
    rw [clashes, Bool.or_eq_false_iff, ih]
    constructor
    · rintro ⟨h1, h2⟩ i j x y hij hx hy
      cases j with
      | zero => omega
      | succ j =>
        simp at hy
        cases i with
        | zero =>
          simp at hx; subst hx
          cases e : clash a y
          · rfl
          · exact absurd (List.any_eq_true.2 ⟨y, List.mem_of_getElem? hy, e⟩) (by rw [h1]; simp)
        | succ i => simp at hx; exact h2 i j x y (by omega) hx hy
    · intro h
      refine ⟨?_, fun i j x y hij hx hy => h (i + 1) (j + 1) x y (by omega) (by simpa using hx) (by simpa using hy)⟩
      cases e : t.any (clash a)
      · rfl
      · obtain ⟨y, hy, hc⟩ := List.any_eq_true.1 e
        obtain ⟨j, hj⟩ := List.mem_iff_getElem?.1 hy
        have := h 0 (j + 1) a y (by omega) rfl (by simpa using hj)
        rw [hc] at this
        cases this

theorem widths_snoc (t : List Nd) (x : Nd) : widths (t ++ [x]) = if x.op = 33 then (widths t).set x.imm.toNat x.w else widths t := by
  unfold widths; rw [List.foldl_append]; rfl
theorem snocInd {α : Type} {P : List α → Prop} (h0 : P []) (hs : ∀ l x, P l → P (l ++ [x])) (l : List α) : P l := by
  have h : ∀ r : List α, P r.reverse := by
    intro r
    induction r with
    | nil => exact h0
    | cons a r ih => rw [List.reverse_cons]; exact hs _ _ ih
  have := h l.reverse
  rwa [List.reverse_reverse] at this
theorem widths_len (t : List Nd) : (widths t).length = 4 := by
  refine snocInd (P := fun t => (widths t).length = 4) rfl (fun t x ih => ?_) t
  rw [widths_snoc]; split <;> simp [ih]
theorem clashes_front {t : List Nd} {y : Nd} (h : clashes (t ++ [y]) = false) : clashes t = false :=
  clashes_iff.2 fun i j a b hij ha hb => clashes_iff.1 h i j a b hij (by rw [List.getElem?_append_left (List.getElem?_eq_some_iff.1 ha).1]; exact ha) (by rw [List.getElem?_append_left (List.getElem?_eq_some_iff.1 hb).1]; exact hb)
/-- what the widths tell of a variable: the width of a node that is this variable, if nothing clashes -/
theorem widths_at {t : List Nd} : clashes t = false → (∀ y ∈ t, 0 ≤ y.imm) → ∀ {i : Nat} {x : Nd}, t[i]? = some x → x.op = 33 → x.imm < 4 → (widths t)[x.imm.toNat]? = some x.w := by
  refine snocInd (P := fun t => clashes t = false → (∀ y ∈ t, 0 ≤ y.imm) → ∀ {i : Nat} {x : Nd}, t[i]? = some x → x.op = 33 → x.imm < 4 → (widths t)[x.imm.toNat]? = some x.w) (fun _ _ i x hx => by simp at hx) (fun t y ih hc hp i x hx ho hi => ?_) t
  have hl := widths_len t
  rw [widths_snoc]
  by_cases hit : i < t.length
  · rw [List.getElem?_append_left hit] at hx
    have h1 := ih (clashes_front hc) (fun z hz => hp z (List.mem_append_left _ hz)) hx ho hi
    have hx0 := hp x (List.mem_append_left _ (List.mem_of_getElem? hx))
    have hy0 := hp y (by simp)
    split
    · rename_i hy
      by_cases he : y.imm.toNat = x.imm.toNat
      · rw [← he, List.getElem?_set_self (by omega)]
        have := clashes_iff.1 hc i t.length x y hit (by rw [List.getElem?_append_left hit]; exact hx) (by simp)
        unfold clash at this
        have e : x.imm = y.imm := by omega
        simp [ho, hy, e] at this
        rw [this]
      · rw [List.getElem?_set_ne he]; exact h1
    · exact h1
  · have hit2 : i = t.length := by
      have := (List.getElem?_eq_some_iff.1 hx).1
      simp at this; omega
    subst hit2
    simp at hx
    subst hx
    rw [if_pos ho, List.getElem?_set_self (by omega)]
end Go.Proofs.YtbiopedpceddeaaGreatDoor.T
end
section
section
namespace Go.Proofs.YtbiopedpceddeaaGreatDoor
set_option linter.unusedVariables false
set_option linter.unusedSimpArgs false
open Go.RowKit
end Go.Proofs.YtbiopedpceddeaaGreatDoor
end
section
namespace Go.Proofs.YtbiopedpceddeaaGreatDoor
open Go.RowKit
set_option linter.unusedVariables false

theorem any_take_step {α : Type} {p : α → Bool} {xs : List α} {k : Nat} {x : α} (hx : xs[k]? = some x) (h : (xs.take k).any p = false) (hp : p x = false) : (xs.take (k + 1)).any p = false := by
  rw [take_succ_of hx, List.any_append, h]; simp [hp]
theorem any_true_at {α : Type} {p : α → Bool} {xs : List α} {k : Nat} {x : α} (hx : xs[k]? = some x) (hp : p x = true) : xs.any p = true :=
  List.any_eq_true.2 ⟨x, List.mem_of_getElem? hx, hp⟩

end Go.Proofs.YtbiopedpceddeaaGreatDoor
end
section
namespace Go.Proofs.YtbiopedpceddeaaGreatDoor
open Go.RowKit
set_option linter.unusedVariables false

end Go.Proofs.YtbiopedpceddeaaGreatDoor
end
section
namespace Go.Proofs.YtbiopedpceddeaaGreatDoor
open Go.RowKit
set_option linter.unusedVariables false

theorem one_rep {x : Int} {n : Nat} : ∀ u ∈ List.replicate n (Value.int .u32 x), u.oneCell' = true := fun u hu => by rw [List.eq_of_mem_replicate hu]; rfl
end Go.Proofs.YtbiopedpceddeaaGreatDoor
end
section
namespace Go.Proofs.YtbiopedpceddeaaGreatDoor.K

end Go.Proofs.YtbiopedpceddeaaGreatDoor.K
end
section
namespace Go.Proofs.YtbiopedpceddeaaGreatDoor
open Go.RowKit
set_option linter.unusedVariables false

theorem row_alloc {X : World} {g : Nat} {o : Obj} (h : X.heap[g]? = some o) (o' : Obj) : (X.alloc o').heap[g]? = some o := (Below.heap_alloc _ _ _ (Array.getElem?_eq_some_iff.1 h).1).trans h
theorem row_step {X Y : World} {g : Nat} {o : Obj} (hb : Hid (Below X.heap.size X Y)) (h : X.heap[g]? = some o) : Y.heap[g]? = some o := (hb.out.block g (Array.getElem?_eq_some_iff.1 h).1).trans h
theorem new_two (X : World) (o o' : Obj) : ((X.alloc o).alloc o').heap[X.heap.size + 1]? = some o' := by
  have := heap_alloc_new (X.alloc o) o'
  rwa [World.size_alloc] at this
end Go.Proofs.YtbiopedpceddeaaGreatDoor
end
section
namespace Go.Proofs.YtbiopedpceddeaaGreatDoor
open Go.RowKit
set_option linter.unusedVariables false

end Go.Proofs.YtbiopedpceddeaaGreatDoor
end
section
namespace Go.Proofs.YtbiopedpceddeaaGreatDoor
open Go.RowKit
set_option linter.unusedVariables false

end Go.Proofs.YtbiopedpceddeaaGreatDoor
end
end
section
section
namespace Go.Proofs.YtbiopedpceddeaaGreatDoor
open Go.RowKit
set_option linter.unusedVariables false

/-- what lies from B on stays as it lies -/
structure Kpt (B : Nat) (A A' : World) : Prop where
  size : A.heap.size ≤ A'.heap.size
  block : ∀ k, B ≤ k → k < A.heap.size → A'.heap[k]? = A.heap[k]?
end Go.Proofs.YtbiopedpceddeaaGreatDoor
end
section
namespace Go.Proofs.YtbiopedpceddeaaGreatDoor
open Go Go.RowKit
set_option linter.unusedVariables false
set_option linter.unusedSimpArgs false

/-- an operation's way, where only the post of the end without panic is turned -/
theorem wp_then {P : Program} {o : Oper} {a : Act} {w : World} {K : Act → World → Prop} {K0 : Act → World → Prop} {Q : Exit → Act → World → Prop} (h : o.wp P a w K (Exit.then K0 Q)) : o.wp P a w K Q := by
  unfold Oper.wp at *
  generalize (execOp a.eval o).run P w = r at *
  cases r with
  | ok n w' =>
    cases n <;> simp only [Oper.upon] at h ⊢ <;>
      first
        | exact h
        | exact Calls.mono h (fun e w'' he => by cases e <;> exact he)
  | halt x w' => cases x <;> simp only [Oper.upon] at h ⊢ <;> exact h

theorem wpAny_more {P : Program} {md : Region.Mode} {ops : Array Oper} {Q : Exit → Act → World → Prop} : ∀ (f : Nat) (listed : Array Bool) (a : Act) (w : World), wpAny P md ops Q f listed a w → wpAny P md ops Q (f + 1) listed a w
  | 0, _, _, _, h => ⟨fun _ => h.2, fun i hi => by rw [h.1] at hi; cases hi⟩
  | f + 1, listed, a, w, h => ⟨h.1, fun i hi => wpOp_mono (fun a' w' h' => wpAny_more f _ a' w' h') (h.2 i hi)⟩
theorem wpAny_plus {P : Program} {md : Region.Mode} {ops : Array Oper} {Q : Exit → Act → World → Prop} {f : Nat} {listed : Array Bool} {a : Act} {w : World} (h : wpAny P md ops Q f listed a w) : ∀ k, wpAny P md ops Q (k + f) listed a w
  | 0 => by rw [Nat.zero_add]; exact h
  | k + 1 => by rw [show k + 1 + f = (k + f) + 1 by omega]; exact wpAny_more _ _ _ _ (wpAny_plus h k)

/-- each of the first n operations waits only for ones before it, and is not guarded -/
def lexB (md : Region.Mode) (ops : Array Oper) (n : Nat) : Bool :=
  (List.range n).all fun i => match ops[i]? with
    | some o => o.guard.isNone && o.after.all fun e => !Region.binds md e || decide (e.on < i)
    | none => false
theorem lexB_spec {md : Region.Mode} {ops : Array Oper} {n : Nat} (h : lexB md ops n = true) {i : Nat} (hi : i < n) : ∃ o, ops[i]? = some o ∧ o.guard = none ∧ ∀ e ∈ o.after, Region.binds md e = true → e.on < i := by
  have h1 := List.all_eq_true.1 h i (List.mem_range.2 hi)
  cases ho : ops[i]? with
  | none => rw [ho] at h1; cases h1
  | some o =>
    rw [ho] at h1
    simp only [Bool.and_eq_true, Option.isNone_iff_eq_none] at h1
    refine ⟨o, rfl, h1.1, fun e he hb => ?_⟩
    have h2 := Array.all_eq_true_iff_forall_mem.1 h1.2 e he
    simpa [hb] using h2

/-- all of the first n are listed, none behind -/
def allHead (n m : Nat) : Array Bool := Array.replicate n true ++ Array.replicate m false

theorem split_any {P : Program} {ops ops' : Array Oper} {Q : Exit → Act → World → Prop} {md : Region.Mode} {n : Nat} {tail : List Oper} (hs : Region.sinkB md ops n = true) (hc : Region.chainB md ops n = true) (hn : n < ops.size) (hx : lexB md ops n = true)
    (hsz : ops'.size = n) (hsame : ∀ i, i < n → ops'[i]? = ops[i]?) (htl : ∀ j, tail[j]? = ops[n + j]?) (hseq : Region.seqB md ops tail.length n (allHead n (ops.size - n)) = true) :
    ∀ (f : Nat) (listed' listed : Array Bool) (a : Act) (w : World), listed'.size = n → HeadInv md ops n listed → (∀ k, k < n → ∀ d, listed'.getD k d = listed.getD k d) →
      wpAny P md ops' (Exit.then (fun a w => wpList P ops Q tail a w) Q) f listed' a w → wpAny P md ops Q (f + tail.length) listed a w := by
  have hready : ∀ (listed' listed : Array Bool), listed'.size = n → HeadInv md ops n listed → (∀ k, k < n → ∀ d, listed'.getD k d = listed.getD k d) → ∀ i, i < n → (i ∈ Region.ready md ops listed ↔ i ∈ Region.ready md ops' listed') := by
    intro listed' listed hl hinv hsm i hi
    obtain ⟨o, ho, _, hlt⟩ := lexB_spec hx hi
    rw [mem_ready, mem_ready, hsame i hi, hsm i hi true]
    have key : ∀ e ∈ o.after, Region.binds md e = true → listed'.getD e.on false = listed.getD e.on false := fun e he hb => hsm _ (Nat.lt_trans (hlt e he hb) hi) false
    constructor
    · rintro ⟨h0, o2, ho2, hall⟩
      have : o2 = o := Option.some.inj (ho2.symm.trans ho)
      subst this
      exact ⟨h0, o2, ho2, fun e he hb => (key e he hb).trans (hall e he hb)⟩
    · rintro ⟨h0, o2, ho2, hall⟩
      have : o2 = o := Option.some.inj (ho2.symm.trans ho)
      subst this
      exact ⟨h0, o2, ho2, fun e he hb => (key e he hb).symm.trans (hall e he hb)⟩
  have hlow : ∀ (listed' : Array Bool), Region.ready md ops' listed' = [] → listed'.size = n → ∀ i, i < n → listed'.getD i true = true := by
    intro listed' h0 hl i
    induction i using Nat.strongRecOn with
    | _ i ih =>
      intro hi
      cases hb : listed'.getD i true with
      | true => rfl
      | false =>
        exfalso
        obtain ⟨o, ho, _, hlt⟩ := lexB_spec hx hi
        have : i ∈ Region.ready md ops' listed' := mem_ready.2 ⟨hb, o, (hsame i hi).trans ho, fun e he hb2 => by
          have h1 := hlt e he hb2
          have h2 := ih e.on h1 (by omega)
          have h3 : e.on < listed'.size := by omega
          simp [h3] at h2 ⊢
          exact h2⟩
        rw [h0] at this
        cases this
  have hhead : ∀ (listed' listed : Array Bool), listed'.size = n → HeadInv md ops n listed → (∀ k, k < n → ∀ d, listed'.getD k d = listed.getD k d) → Region.ready md ops' listed' = [] → listed = allHead n (ops.size - n) := by
    intro listed' listed hl hinv hsm h0
    apply Array.ext_getElem?
    intro k
    unfold allHead
    by_cases hk : k < n
    · have h1 := hlow listed' h0 hl k hk
      rw [hsm k hk true] at h1
      have h2 : k < listed.size := by rw [hinv.size]; omega
      rw [Array.getElem?_append_left (by simpa using hk)]
      simp [h2] at h1
      simp [h2, h1, hk]
    · by_cases hk2 : k < ops.size
      · have h1 := hinv.tail k (by omega) hk2
        have h2 : k < listed.size := by rw [hinv.size]; exact hk2
        rw [Array.getElem?_append_right (by simp; omega)]
        simp [h2] at h1
        rw [Array.getElem?_eq_getElem h2, h1, Array.getElem?_replicate, if_pos (by simp; omega)]
      · rw [Array.getElem?_eq_none (by rw [hinv.size]; omega), Array.getElem?_eq_none (by simp; omega)]
  intro f
  induction f with
  | zero =>
    intro listed' listed a w hl hinv hsm h
    obtain ⟨h0, hq⟩ := h
    rw [Nat.zero_add, hhead listed' listed hl hinv hsm h0]
    exact wpAny_of_seq tail n _ a w htl hseq hq
  | succ f ih =>
    intro listed' listed a w hl hinv hsm h
    obtain ⟨hq, hstep⟩ := h
    by_cases h0 : Region.ready md ops' listed' = []
    · rw [hhead listed' listed hl hinv hsm h0]
      exact wpAny_plus (wpAny_of_seq tail n _ a w htl hseq (hq h0)) _
    · obtain ⟨i, hi⟩ : ∃ i, i ∈ Region.ready md ops' listed' := List.exists_mem_of_ne_nil _ h0
      have hin : i < n := by
        obtain ⟨_, o, ho, _⟩ := mem_ready.1 hi
        have := (Array.getElem?_eq_some_iff.1 ho).1
        omega
      have hun : listed.getD i true = false := by rw [← hsm i hin true]; exact (mem_ready.1 hi).1
      have hmem : i ∈ Region.ready md ops listed := (hready listed' listed hl hinv hsm i hin).2 hi
      rw [show f + 1 + tail.length = (f + tail.length) + 1 by omega]
      refine ⟨fun h1 => absurd hmem (by rw [h1]; exact List.not_mem_nil), fun j hj => ?_⟩
      have hjn : j < n := by
        rcases Nat.lt_or_ge j n with h2 | h2
        · exact h2
        · exact absurd hj (tail_waits hs hc hn hinv _ i rfl hin hun j h2)
      have hj' := (hready listed' listed hl hinv hsm j hjn).1 hj
      have h2 := hstep j hj'
      obtain ⟨o, ho, hg, _⟩ := lexB_spec hx hjn
      have hw : ∀ ys, Region.wanted o ys = true := fun ys => by simp [Region.wanted, hg]
      unfold wpOp at h2 ⊢
      rw [hsame j hjn, ho] at h2
      rw [ho]
      simp only [hw, if_true] at h2 ⊢
      refine h2.imp (fun h3 => Oper.wp_mono (fun a' w' h4 => ih _ _ a' w' (by simpa using hl) (hinv.set hj hjn) (fun k hk d => ?_) h4) (wp_then h3)) (fun h3 => h3)
      by_cases hjk : j = k
      · subst hjk
        have q1 : j < listed'.size := by omega
        have q2 : j < listed.size := by rw [hinv.size]; omega
        simp [q1, q2]
      · rw [getD_set_ne d hjk, getD_set_ne d hjk]; exact hsm k hk d

/-- what is checked of a region that ends in operations which wait for all others -/
def splitB (l : List Oper) (n : Nat) : Bool :=
  decide (n < l.length) && Region.sinkB .any l.toArray n && Region.chainB .any l.toArray n && lexB .any l.toArray n && Region.seqB .any l.toArray (l.length - n) n (allHead n (l.length - n))

theorem wp_region_split {P : Program} {id : Nat} {Q : Exit → Act → World → Prop} {a : Act} {w : World} {l : List Oper} (n : Nat) (hm : P.follows .mixedOrders = true) (hB : splitB l n = true)
    (h : wpAny P .any (l.take n).toArray (Exit.then (fun a w => wpList P l.toArray Q (l.drop n) a w) Q) n (Array.replicate n false) a w.drew) : (Code.region id l.toArray true).wp P Q a w := by
  simp only [splitB, Bool.and_eq_true, decide_eq_true_eq] at hB
  obtain ⟨⟨⟨⟨hn, hs⟩, hc⟩, hx⟩, hq⟩ := hB
  have hn' : n < l.toArray.size := by simpa using hn
  refine wp_region_any hm ?_
  have hdl : (l.drop n).length = l.length - n := by simp
  have H := split_any (P := P) (Q := Q) (ops' := (l.take n).toArray) (tail := l.drop n) hs hc hn' hx (by simp; omega) (fun i hi => by simp [List.getElem?_take, hi]) (fun j => by simp [List.getElem?_drop]) (by rw [hdl]; simpa using hq)
    n (Array.replicate n false) (Array.replicate l.toArray.size false) a w.drew (by simp)
    ⟨by simp, fun j oj _ hl => (by rw [getD_replicate_false] at hl; cases hl), fun t _ ht => getD_in (by simpa using ht) (getD_replicate_false _ _)⟩
    (fun k hk d => by have : k < l.length := by omega
                      simp [hk, this]) h
  rw [hdl, show n + (l.length - n) = l.toArray.size by simp; omega] at H
  exact H
end Go.Proofs.YtbiopedpceddeaaGreatDoor
end
section
namespace Go.Proofs.YtbiopedpceddeaaGreatDoor
open Go.RowKit
set_option linter.unusedVariables false

section

end
end Go.Proofs.YtbiopedpceddeaaGreatDoor
end
section
namespace Go.Proofs.YtbiopedpceddeaaGreatDoor
open Go.RowKit
set_option linter.unusedVariables false

/-- what yield leaves behind, and what the walk tells of it -/
def Told (B0 : Nat) (A : World) (J Jx : World → Prop) (e : Ending) (A' : World) : Prop :=
  (e = .returned (.bool true) ∧ J A' ∧ Kpt B0 A A') ∨ (e = .returned (.bool false) ∧ Jx A' ∧ Kpt B0 A A')

end Go.Proofs.YtbiopedpceddeaaGreatDoor
end
section
namespace Go.Proofs.YtbiopedpceddeaaGreatDoor
open Go.RowKit
set_option linter.unusedVariables false

section

end

section
end

end Go.Proofs.YtbiopedpceddeaaGreatDoor
end
section
namespace Go.Proofs.YtbiopedpceddeaaGreatDoor
open Go.RowKit
set_option linter.unusedVariables false
set_option linter.unusedSimpArgs false

end Go.Proofs.YtbiopedpceddeaaGreatDoor
end
section
namespace Go.Proofs.YtbiopedpceddeaaGreatDoor
open Go.RowKit
set_option linter.unusedVariables false
set_option linter.unusedSimpArgs false

end Go.Proofs.YtbiopedpceddeaaGreatDoor
end
end
