/- Merged: C4Open2, C4OpenW, C4PlainT, C4M4, C4M5, C4T1, C4OpenN, C4PlainS. -/
import Derived.Test.YtbiopedpceddeaaGreatDoorW01
import Derived.ChangeSame
import Derived.Deep.Strs
import Derived.Test.YtbiopedpceddeaaGreatDoorW00
import Derived.Laws.CopyOwn
import Derived.Deep.RegionLaw
import Derived.StillTailTactics
import Derived.Deep.RegionHeld3
import Derived.RangeFuncIn
import Derived.RangeFuncRecord
import Derived.RangeFuncSeq
import Derived.RangeFuncLeaves
import Derived.StillTail
import Derived.OneCell
import Derived.RangeFuncCalls
import Derived.BigGuardPart
import Derived.Laws.StructEq
set_option linter.unusedVariables false
set_option linter.unusedSimpArgs false
section
namespace Go.Proofs.YtbiopedpceddeaaGreatDoor
open Go.ChangeShapes Go.WideShapes Go.ChangeAt Go.RowKit Go.Deep
section
variable {H : Type} {enc : TypeId × Value → H} {P : Program} {W : World}

theorem open_agg3 {r : Reach} {b0 : Nat} {t : TypeId} {f0 f1 f2 : Field} {v : Value} {d : DataW H} {ps : List MemPlace} (ht : P.underlying t = some (.struct #[f0, f1, f2])) (hc : P.cellsOf t = 3) (o0 : f0.offset = 0) (o1 : f1.offset = 1) (o2 : f2.offset = 2) (c0 : P.cellsOf f0.type = 1) (c1 : P.cellsOf f1.type = 1) (c2 : P.cellsOf f2.type = 1)
    (hval : Value.okWide P W r b0 t v) (h : DataW.Trod enc P W 0 (fun _ => true) true t v d ps) :
    ∃ u0 u1 u2 n x0 x1 x2, v = .agg #[u0, u1, u2] ∧ DataW.trod enc P W 0 (fun _ => true) true n f0.type [u0] = some x0 ∧ DataW.trod enc P W 0 (fun _ => true) true n f1.type [u1] = some x1 ∧ DataW.trod enc P W 0 (fun _ => true) true n f2.type [u2] = some x2 := by
  obtain ⟨cs, rfl, hs⟩ := okWide_struct ht hval
  obtain ⟨n, hn⟩ := h
  obtain ⟨y0, y1, y2, m, _, hl, h0, h1, h2⟩ := trod_struct3 ht hn
  rw [hc] at hs
  obtain ⟨l⟩ := cs
  match l, hs with
  | [u0, u1, u2], _ =>
    rw [o0, c0] at h0
    rw [o1, c1] at h1
    rw [o2, c2] at h2
    exact ⟨u0, u1, u2, m, y0, y1, y2, rfl, by simpa [Value.cells] using h0, by simpa [Value.cells] using h1, by simpa [Value.cells] using h2⟩
end
end Go.Proofs.YtbiopedpceddeaaGreatDoor
end
section
namespace Go.Proofs.YtbiopedpceddeaaGreatDoor
open Go.ChangeShapes Go.WideShapes Go.ChangeAt Go.RowKit Go.Deep
set_option linter.unusedVariables false

/-- a word, and that it is one -/
def WordR (_ : World) (u : Value) (x : Int) : Prop := u = .int .u32 x ∧ 0 ≤ x ∧ x < 4294967296
theorem readsWord {H : Type} {enc : TypeId × Value → H} {P : Program} {W : World} {t : TypeId} (ht : P.underlying t = some (.int .u32)) : ReadsAs enc P W t WordR := by
  intro n u x h
  obtain ⟨m, e, _, hw⟩ := DataW.trod_int ht h
  refine ⟨m, (List.cons.inj e).1, ?_⟩
  simp [Lit.wf, IntKind.min, IntKind.max, IntKind.signed, IntKind.bits] at hw
  omega
end Go.Proofs.YtbiopedpceddeaaGreatDoor
end
section
namespace Go.Proofs.YtbiopedpceddeaaGreatDoor.T
set_option linter.unusedVariables false
set_option linter.unusedSimpArgs false

/-- a node -/
structure Nd where
  op : Int
  w : Int
  fl : Int
  args : List Int
  imm : Int
deriving DecidableEq, Inhabited

/-- how many operands an operation has; -1: it is none of terms -/
def ar (op : Int) : Int := if op = 0 ∨ op = 33 then 0 else if 1 ≤ op ∧ op ≤ 14 then 2 else if op = 15 then 3 else if 16 ≤ op ∧ op ≤ 18 then 1 else -1
def argsOk (k : Nat) (l : List Int) : Bool := l.all fun a => decide (0 ≤ a) && decide (a < k)
/-- the width of operand number i -/
def wd (t : List Nd) (x : Nd) (i : Nat) : Int := (t.getD (x.args.getD i 0).toNat default).w
def typed (t : List Nd) (x : Nd) : Bool :=
  if 1 ≤ x.op ∧ x.op ≤ 13 then decide (wd t x 0 = x.w) && decide (wd t x 1 = x.w)
  else if x.op = 14 then decide (wd t x 0 = wd t x 1)
  else if x.op = 15 then decide (wd t x 0 = 1) && decide (wd t x 1 = x.w) && decide (wd t x 2 = x.w)
  else if x.op = 16 ∨ x.op = 17 then decide (wd t x 0 < x.w)
  else if x.op = 18 then decide (x.w < wd t x 0)
  else true
end Go.Proofs.YtbiopedpceddeaaGreatDoor.T
end
section
section
namespace Go.Proofs.YtbiopedpceddeaaGreatDoor
set_option linter.unusedVariables false
set_option linter.unusedSimpArgs false
open Go.RowKit
theorem run_slice_fromN {P : Program} {t e : TypeId} {z : Value} {s bytes : Nat} (ht : P.underlying t = some (.slice e)) (hinfo : (P.info? e).map (fun i => (i.zero, i.size, i.bytes)) = some (some z, s, bytes)) (g off n cap K : Nat) (hk : K ≤ n) (w : World) :
    (Instr.slice t (.slice (some ⟨g, off, none⟩) n cap) (some (.int .i64 (K : Int))) none none).run P w = .ok (.slice (if cap = K then some ⟨g, off, none⟩ else some ⟨g, off + K * s, none⟩) (n - K) (cap - K)) w := by
  obtain ⟨i, hi, hz, hsz, hby⟩ := info_parts hinfo
  simp [Instr.slice, Instr.sliceBounds, Instr.sliceBound, run_underlying ht, asIntOf, sizeOf, typeInfo, hi, hsz, hk]
  by_cases hck : cap = K
  · simp [hck]
  · simp [hck, addr_add_zero]
end Go.Proofs.YtbiopedpceddeaaGreatDoor
end
section
namespace Go.Proofs.YtbiopedpceddeaaGreatDoor
open Go.RowKit
set_option linter.unusedVariables false

theorem any_take_step {α : Type} {p : α → Bool} {xs : List α} {k : Nat} {x : α} (hx : xs[k]? = some x) (h : (xs.take k).any p = false) (hp : p x = false) : (xs.take (k + 1)).any p = false := by
  rw [take_succ_of hx, List.any_append, h]; simp [hp]
theorem any_true_at {α : Type} {p : α → Bool} {xs : List α} {k : Nat} {x : α} (hx : xs[k]? = some x) (hp : p x = true) : xs.any p = true :=
  List.any_eq_true.2 ⟨x, List.mem_of_getElem? hx, hp⟩

end Go.Proofs.YtbiopedpceddeaaGreatDoor
end
section
namespace Go.Proofs.YtbiopedpceddeaaGreatDoor
open Go.RowKit
set_option linter.unusedVariables false

end Go.Proofs.YtbiopedpceddeaaGreatDoor
end
section
namespace Go.Proofs.YtbiopedpceddeaaGreatDoor
open Go.RowKit
set_option linter.unusedVariables false

end Go.Proofs.YtbiopedpceddeaaGreatDoor
end
section
namespace Go.Proofs.YtbiopedpceddeaaGreatDoor.K

end Go.Proofs.YtbiopedpceddeaaGreatDoor.K
end
section
namespace Go.Proofs.YtbiopedpceddeaaGreatDoor
open Go.RowKit
set_option linter.unusedVariables false

theorem row_alloc {X : World} {g : Nat} {o : Obj} (h : X.heap[g]? = some o) (o' : Obj) : (X.alloc o').heap[g]? = some o := (Below.heap_alloc _ _ _ (Array.getElem?_eq_some_iff.1 h).1).trans h
theorem row_step {X Y : World} {g : Nat} {o : Obj} (hb : Hid (Below X.heap.size X Y)) (h : X.heap[g]? = some o) : Y.heap[g]? = some o := (hb.out.block g (Array.getElem?_eq_some_iff.1 h).1).trans h
theorem new_two (X : World) (o o' : Obj) : ((X.alloc o).alloc o').heap[X.heap.size + 1]? = some o' := by
  have := heap_alloc_new (X.alloc o) o'
  rwa [World.size_alloc] at this
end Go.Proofs.YtbiopedpceddeaaGreatDoor
end
section
namespace Go.Proofs.YtbiopedpceddeaaGreatDoor
open Go.RowKit
set_option linter.unusedVariables false

end Go.Proofs.YtbiopedpceddeaaGreatDoor
end
section
namespace Go.Proofs.YtbiopedpceddeaaGreatDoor
open Go.RowKit
set_option linter.unusedVariables false

end Go.Proofs.YtbiopedpceddeaaGreatDoor
end
end
section
section
namespace Go.Proofs.YtbiopedpceddeaaGreatDoor
open Go.RowKit
set_option linter.unusedVariables false

/-- what lies from B on stays as it lies -/
structure Kpt (B : Nat) (A A' : World) : Prop where
  size : A.heap.size ≤ A'.heap.size
  block : ∀ k, B ≤ k → k < A.heap.size → A'.heap[k]? = A.heap[k]?
end Go.Proofs.YtbiopedpceddeaaGreatDoor
end
section
namespace Go.Proofs.YtbiopedpceddeaaGreatDoor
open Go Go.RowKit
set_option linter.unusedVariables false
set_option linter.unusedSimpArgs false

/-- an operation's way, where only the post of the end without panic is turned -/
theorem wp_then {P : Program} {o : Oper} {a : Act} {w : World} {K : Act → World → Prop} {K0 : Act → World → Prop} {Q : Exit → Act → World → Prop} (h : o.wp P a w K (Exit.then K0 Q)) : o.wp P a w K Q := by
  unfold Oper.wp at *
  generalize (execOp a.eval o).run P w = r at *
  cases r with
  | ok n w' =>
    cases n <;> simp only [Oper.upon] at h ⊢ <;>
      first
        | exact h
        | exact Calls.mono h (fun e w'' he => by cases e <;> exact he)
  | halt x w' => cases x <;> simp only [Oper.upon] at h ⊢ <;> exact h

theorem wpAny_more {P : Program} {md : Region.Mode} {ops : Array Oper} {Q : Exit → Act → World → Prop} : ∀ (f : Nat) (listed : Array Bool) (a : Act) (w : World), wpAny P md ops Q f listed a w → wpAny P md ops Q (f + 1) listed a w
  | 0, _, _, _, h => ⟨fun _ => h.2, fun i hi => by rw [h.1] at hi; cases hi⟩
  | f + 1, listed, a, w, h => ⟨h.1, fun i hi => wpOp_mono (fun a' w' h' => wpAny_more f _ a' w' h') (h.2 i hi)⟩
theorem wpAny_plus {P : Program} {md : Region.Mode} {ops : Array Oper} {Q : Exit → Act → World → Prop} {f : Nat} {listed : Array Bool} {a : Act} {w : World} (h : wpAny P md ops Q f listed a w) : ∀ k, wpAny P md ops Q (k + f) listed a w
  | 0 => by rw [Nat.zero_add]; exact h
  | k + 1 => by rw [show k + 1 + f = (k + f) + 1 by omega]; exact wpAny_more _ _ _ _ (wpAny_plus h k)

/-- each of the first n operations waits only for ones before it, and is not guarded -/
def lexB (md : Region.Mode) (ops : Array Oper) (n : Nat) : Bool :=
  (List.range n).all fun i => match ops[i]? with
    | some o => o.guard.isNone && o.after.all fun e => !Region.binds md e || decide (e.on < i)
    | none => false
theorem lexB_spec {md : Region.Mode} {ops : Array Oper} {n : Nat} (h : lexB md ops n = true) {i : Nat} (hi : i < n) : ∃ o, ops[i]? = some o ∧ o.guard = none ∧ ∀ e ∈ o.after, Region.binds md e = true → e.on < i := by
  have h1 := List.all_eq_true.1 h i (List.mem_range.2 hi)
  cases ho : ops[i]? with
  | none => rw [ho] at h1; cases h1
  | some o =>
    rw [ho] at h1
    simp only [Bool.and_eq_true, Option.isNone_iff_eq_none] at h1
    refine ⟨o, rfl, h1.1, fun e he hb => ?_⟩
    have h2 := Array.all_eq_true_iff_forall_mem.1 h1.2 e he
    simpa [hb] using h2

/-- all of the first n are listed, none behind -/
def allHead (n m : Nat) : Array Bool := Array.replicate n true ++ Array.replicate m false

theorem split_any {P : Program} {ops ops' : Array Oper} {Q : Exit → Act → World → Prop} {md : Region.Mode} {n : Nat} {tail : List Oper} (hs : Region.sinkB md ops n = true) (hc : Region.chainB md ops n = true) (hn : n < ops.size) (hx : lexB md ops n = true)
    (hsz : ops'.size = n) (hsame : ∀ i, i < n → ops'[i]? = ops[i]?) (htl : ∀ j, tail[j]? = ops[n + j]?) (hseq : Region.seqB md ops tail.length n (allHead n (ops.size - n)) = true) :
    ∀ (f : Nat) (listed' listed : Array Bool) (a : Act) (w : World), listed'.size = n → HeadInv md ops n listed → (∀ k, k < n → ∀ d, listed'.getD k d = listed.getD k d) →
      wpAny P md ops' (Exit.then (fun a w => wpList P ops Q tail a w) Q) f listed' a w → wpAny P md ops Q (f + tail.length) listed a w := by
  have hready : ∀ (listed' listed : Array Bool), listed'.size = n → HeadInv md ops n listed → (∀ k, k < n → ∀ d, listed'.getD k d = listed.getD k d) → ∀ i, i < n → (i ∈ Region.ready md ops listed ↔ i ∈ Region.ready md ops' listed') := by
    intro listed' listed hl hinv hsm i hi
    obtain ⟨o, ho, _, hlt⟩ := lexB_spec hx hi
    rw [mem_ready, mem_ready, hsame i hi, hsm i hi true]
    have key : ∀ e ∈ o.after, Region.binds md e = true → listed'.getD e.on false = listed.getD e.on false := fun e he hb => hsm _ (Nat.lt_trans (hlt e he hb) hi) false
    constructor
    · rintro ⟨h0, o2, ho2, hall⟩
      have : o2 = o := Option.some.inj (ho2.symm.trans ho)
      subst this
      exact ⟨h0, o2, ho2, fun e he hb => (key e he hb).trans (hall e he hb)⟩
    · rintro ⟨h0, o2, ho2, hall⟩
      have : o2 = o := Option.some.inj (ho2.symm.trans ho)
      subst this
      exact ⟨h0, o2, ho2, fun e he hb => (key e he hb).symm.trans (hall e he hb)⟩
  have hlow : ∀ (listed' : Array Bool), Region.ready md ops' listed' = [] → listed'.size = n → ∀ i, i < n → listed'.getD i true = true := by
    intro listed' h0 hl i
    induction i using Nat.strongRecOn with
    | _ i ih =>
      intro hi
      cases hb : listed'.getD i true with
      | true => rfl
      | false =>
        exfalso
        obtain ⟨o, ho, _, hlt⟩ := lexB_spec hx hi
        have : i ∈ Region.ready md ops' listed' := mem_ready.2 ⟨hb, o, (hsame i hi).trans ho, fun e he hb2 => by
          have h1 := hlt e he hb2
          have h2 := ih e.on h1 (by omega)
          have h3 : e.on < listed'.size := by omega
          simp [h3] at h2 ⊢
          exact h2⟩
        rw [h0] at this
        cases this
  have hhead : ∀ (listed' listed : Array Bool), listed'.size = n → HeadInv md ops n listed → (∀ k, k < n → ∀ d, listed'.getD k d = listed.getD k d) → Region.ready md ops' listed' = [] → listed = allHead n (ops.size - n) := by
    intro listed' listed hl hinv hsm h0
    apply Array.ext_getElem?
    intro k
    unfold allHead
    by_cases hk : k < n
    · have h1 := hlow listed' h0 hl k hk
      rw [hsm k hk true] at h1
      have h2 : k < listed.size := by rw [hinv.size]; omega
      rw [Array.getElem?_append_left (by simpa using hk)]
      simp [h2] at h1
      simp [h2, h1, hk]
    · by_cases hk2 : k < ops.size
      · have h1 := hinv.tail k (by omega) hk2
        have h2 : k < listed.size := by rw [hinv.size]; exact hk2
        rw [Array.getElem?_append_right (by simp; omega)]
        simp [h2] at h1
        rw [Array.getElem?_eq_getElem h2, h1, Array.getElem?_replicate, if_pos (by simp; omega)]
      · rw [Array.getElem?_eq_none (by rw [hinv.size]; omega), Array.getElem?_eq_none (by simp; omega)]
  intro f
  induction f with
  | zero =>
    intro listed' listed a w hl hinv hsm h
    obtain ⟨h0, hq⟩ := h
    rw [Nat.zero_add, hhead listed' listed hl hinv hsm h0]
    exact wpAny_of_seq tail n _ a w htl hseq hq
  | succ f ih =>
    intro listed' listed a w hl hinv hsm h
    obtain ⟨hq, hstep⟩ := h
    by_cases h0 : Region.ready md ops' listed' = []
    · rw [hhead listed' listed hl hinv hsm h0]
      exact wpAny_plus (wpAny_of_seq tail n _ a w htl hseq (hq h0)) _
    · obtain ⟨i, hi⟩ : ∃ i, i ∈ Region.ready md ops' listed' := List.exists_mem_of_ne_nil _ h0
      have hin : i < n := by
        obtain ⟨_, o, ho, _⟩ := mem_ready.1 hi
        have := (Array.getElem?_eq_some_iff.1 ho).1
        omega
      have hun : listed.getD i true = false := by rw [← hsm i hin true]; exact (mem_ready.1 hi).1
      have hmem : i ∈ Region.ready md ops listed := (hready listed' listed hl hinv hsm i hin).2 hi
      rw [show f + 1 + tail.length = (f + tail.length) + 1 by omega]
      refine ⟨fun h1 => absurd hmem (by rw [h1]; exact List.not_mem_nil), fun j hj => ?_⟩
      have hjn : j < n := by
        rcases Nat.lt_or_ge j n with h2 | h2
        · exact h2
        · exact absurd hj (tail_waits hs hc hn hinv _ i rfl hin hun j h2)
      have hj' := (hready listed' listed hl hinv hsm j hjn).1 hj
      have h2 := hstep j hj'
      obtain ⟨o, ho, hg, _⟩ := lexB_spec hx hjn
      have hw : ∀ ys, Region.wanted o ys = true := fun ys => by simp [Region.wanted, hg]
      unfold wpOp at h2 ⊢
      rw [hsame j hjn, ho] at h2
      rw [ho]
      simp only [hw, if_true] at h2 ⊢
      refine h2.imp (fun h3 => Oper.wp_mono (fun a' w' h4 => ih _ _ a' w' (by simpa using hl) (hinv.set hj hjn) (fun k hk d => ?_) h4) (wp_then h3)) (fun h3 => h3)
      by_cases hjk : j = k
      · subst hjk
        have q1 : j < listed'.size := by omega
        have q2 : j < listed.size := by rw [hinv.size]; omega
        simp [q1, q2]
      · rw [getD_set_ne d hjk, getD_set_ne d hjk]; exact hsm k hk d

/-- what is checked of a region that ends in operations which wait for all others -/
def splitB (l : List Oper) (n : Nat) : Bool :=
  decide (n < l.length) && Region.sinkB .any l.toArray n && Region.chainB .any l.toArray n && lexB .any l.toArray n && Region.seqB .any l.toArray (l.length - n) n (allHead n (l.length - n))

theorem wp_region_split {P : Program} {id : Nat} {Q : Exit → Act → World → Prop} {a : Act} {w : World} {l : List Oper} (n : Nat) (hm : P.follows .mixedOrders = true) (hB : splitB l n = true)
    (h : wpAny P .any (l.take n).toArray (Exit.then (fun a w => wpList P l.toArray Q (l.drop n) a w) Q) n (Array.replicate n false) a w.drew) : (Code.region id l.toArray true).wp P Q a w := by
  simp only [splitB, Bool.and_eq_true, decide_eq_true_eq] at hB
  obtain ⟨⟨⟨⟨hn, hs⟩, hc⟩, hx⟩, hq⟩ := hB
  have hn' : n < l.toArray.size := by simpa using hn
  refine wp_region_any hm ?_
  have hdl : (l.drop n).length = l.length - n := by simp
  have H := split_any (P := P) (Q := Q) (ops' := (l.take n).toArray) (tail := l.drop n) hs hc hn' hx (by simp; omega) (fun i hi => by simp [List.getElem?_take, hi]) (fun j => by simp [List.getElem?_drop]) (by rw [hdl]; simpa using hq)
    n (Array.replicate n false) (Array.replicate l.toArray.size false) a w.drew (by simp)
    ⟨by simp, fun j oj _ hl => (by rw [getD_replicate_false] at hl; cases hl), fun t _ ht => getD_in (by simpa using ht) (getD_replicate_false _ _)⟩
    (fun k hk d => by have : k < l.length := by omega
                      simp [hk, this]) h
  rw [hdl, show n + (l.length - n) = l.toArray.size by simp; omega] at H
  exact H
end Go.Proofs.YtbiopedpceddeaaGreatDoor
end
section
namespace Go.Proofs.YtbiopedpceddeaaGreatDoor
open Go.RowKit
set_option linter.unusedVariables false

section

end
end Go.Proofs.YtbiopedpceddeaaGreatDoor
end
section
namespace Go.Proofs.YtbiopedpceddeaaGreatDoor
open Go.RowKit
set_option linter.unusedVariables false

/-- what yield leaves behind, and what the walk tells of it -/
def Told (B0 : Nat) (A : World) (J Jx : World → Prop) (e : Ending) (A' : World) : Prop :=
  (e = .returned (.bool true) ∧ J A' ∧ Kpt B0 A A') ∨ (e = .returned (.bool false) ∧ Jx A' ∧ Kpt B0 A A')

end Go.Proofs.YtbiopedpceddeaaGreatDoor
end
section
namespace Go.Proofs.YtbiopedpceddeaaGreatDoor
open Go.RowKit
set_option linter.unusedVariables false

section

end

section
end

end Go.Proofs.YtbiopedpceddeaaGreatDoor
end
section
namespace Go.Proofs.YtbiopedpceddeaaGreatDoor
open Go.RowKit
set_option linter.unusedVariables false
set_option linter.unusedSimpArgs false

end Go.Proofs.YtbiopedpceddeaaGreatDoor
end
section
namespace Go.Proofs.YtbiopedpceddeaaGreatDoor
open Go.RowKit
set_option linter.unusedVariables false
set_option linter.unusedSimpArgs false

end Go.Proofs.YtbiopedpceddeaaGreatDoor
end
end
section
namespace Go.Proofs.YtbiopedpceddeaaGreatDoor
open Go.RowKit
set_option linter.unusedVariables false
set_option linter.unusedSimpArgs false

/-- the cells of a node -/
def ndC (x : T.Nd) (A : Option Addr) (c : Nat) : List Value := [.int .i64 x.op, .int .i64 x.w, .int .i64 x.fl, .slice A x.args.length c, .int .u32 x.imm]
/-- five cells read as a node -/
def NdR (W : World) (us : List Value) (x : T.Nd) : Prop := ∃ A c, us = ndC x A c ∧ SlAt (IntR .i64) W A x.args.length x.args ∧ 0 ≤ x.imm ∧ x.imm < 4294967296
theorem monoNd : MonoL NdR := by
  rintro w w' us x hb ⟨A, c, rfl, h, h2⟩
  exact ⟨A, c, rfl, h.below (monoInt _) hb, h2⟩

theorem ret_ib {a b : Int} {x y : Bool} (h1 : a = b) (h2 : x = y) : Ending.returned (.tuple #[.int .i64 a, .bool x]) = .returned (.tuple #[.int .i64 b, .bool y]) := by rw [h1, h2]

theorem ar_cases (op : Int) : (op = 0 ∧ T.ar op = 0) ∨ (op = 33 ∧ T.ar op = 0) ∨ (1 ≤ op ∧ op ≤ 14 ∧ T.ar op = 2) ∨ (op = 15 ∧ T.ar op = 3) ∨ (16 ≤ op ∧ op ≤ 18 ∧ T.ar op = 1) ∨ (¬ op = 0 ∧ ¬ op = 33 ∧ ¬ (1 ≤ op ∧ op ≤ 14) ∧ ¬ op = 15 ∧ ¬ (16 ≤ op ∧ op ≤ 18) ∧ T.ar op = -1) := by
  unfold T.ar
  by_cases h0 : op = 0
  · exact .inl ⟨h0, by rw [if_pos (.inl h0)]⟩
  by_cases h33 : op = 33
  · exact .inr (.inl ⟨h33, by rw [if_pos (.inr h33)]⟩)
  rw [if_neg (by omega)]
  by_cases h14 : 1 ≤ op ∧ op ≤ 14
  · exact .inr (.inr (.inl ⟨h14.1, h14.2, by rw [if_pos h14]⟩))
  rw [if_neg h14]
  by_cases h15 : op = 15
  · exact .inr (.inr (.inr (.inl ⟨h15, by rw [if_pos h15]⟩)))
  rw [if_neg h15]
  by_cases h18 : 16 ≤ op ∧ op ≤ 18
  · exact .inr (.inr (.inr (.inr (.inl ⟨h18.1, h18.2, by rw [if_pos h18]⟩))))
  rw [if_neg h18]
  exact .inr (.inr (.inr (.inr (.inr ⟨h0, h33, h14, h15, h18, rfl⟩))))

/-- the node as a value -/
def ndV (x : T.Nd) (A : Option Addr) (c : Nat) : Value := .agg #[.int .i64 x.op, .int .i64 x.w, .int .i64 x.fl, .slice A x.args.length c, .int .u32 x.imm]

end Go.Proofs.YtbiopedpceddeaaGreatDoor
end
section
namespace Go.Proofs.YtbiopedpceddeaaGreatDoor
open Go.ChangeShapes Go.WideShapes Go.ChangeAt Go.RowKit Go.Deep
set_option linter.unusedVariables false
set_option linter.unusedSimpArgs false

theorem cellsIntN : Tryz.prog.cellsOf 3 = 1 := by kernel_rfl
theorem cellsNode : Tryz.prog.cellsOf 62 = 5 := by kernel_rfl

end Go.Proofs.YtbiopedpceddeaaGreatDoor
end
section
namespace Go.Proofs.YtbiopedpceddeaaGreatDoor
set_option linter.unusedVariables false
set_option linter.unusedSimpArgs false
namespace T

/-- what nodes stand for: a forest -/
inductive F where
  | nil
  | cons (op w fl imm : Int) (kids rest : F)

def F.app : F → F → F
  | .nil, g => g
  | .cons op w fl imm kids rest, g => .cons op w fl imm kids (rest.app g)
def F.ht : F → Nat
  | .nil => 0
  | .cons _ _ _ _ kids rest => max (kids.ht + 1) rest.ht

def addN (out : List Nd) (y : Nd) : List Nd × Int := (if y ∈ out then out else out ++ [y], (out.idxOf y : Int))

/-- a forest told onto a list of nodes -/
def cnn : F → List Nd → List Nd × List Int
  | .nil, out => (out, [])
  | .cons op w fl imm kids rest, out =>
    ((cnn rest (addN (cnn kids out).1 ⟨op, w, fl, (cnn kids out).2, imm⟩).1).1,
      (addN (cnn kids out).1 ⟨op, w, fl, (cnn kids out).2, imm⟩).2 :: (cnn rest (addN (cnn kids out).1 ⟨op, w, fl, (cnn kids out).2, imm⟩).1).2)

/-- the nodes of these numbers stand for a forest -/
inductive Rep (t : List Nd) : List Int → F → Prop where
  | nil : Rep t [] .nil
  | cons {a : Int} {la : List Int} {x : Nd} {kids rest : F} (h0 : 0 ≤ a) (hx : t[a.toNat]? = some x) (hk : Rep t x.args kids) (hr : Rep t la rest) : Rep t (a :: la) (.cons x.op x.w x.fl x.imm kids rest)

/-- each operand stands ahead -/
def Ord (t : List Nd) : Prop := ∀ (k : Nat) (x : Nd), t[k]? = some x → ∀ a ∈ x.args, 0 ≤ a ∧ a < (k : Int)

theorem Rep.mono {t u : List Nd} (h : ∀ (i : Nat) (x : Nd), t[i]? = some x → u[i]? = some x) {la : List Int} {f : F} (r : Rep t la f) : Rep u la f := by
  induction r with
  | nil => exact .nil
  | cons h0 hx _ _ ih1 ih2 => exact .cons h0 (h _ _ hx) ih1 ih2

theorem Rep.det {t : List Nd} {la : List Int} {f g : F} (r : Rep t la f) : Rep t la g → f = g := by
  induction r generalizing g with
  | nil => intro s; cases s; rfl
  | cons h0 hx _ _ ih1 ih2 =>
    intro s
    cases s with
    | cons h0' hx' hk' hr' =>
      rw [hx] at hx'
      cases hx'
      rw [ih1 hk', ih2 hr']

theorem Rep.app {t : List Nd} {la bs : List Int} {f g : F} (r : Rep t la f) (s : Rep t bs g) : Rep t (la ++ bs) (f.app g) := by
  induction r with
  | nil => exact s
  | cons h0 hx hk _ _ ih2 => exact .cons h0 hx hk ih2

theorem Rep.ex {t : List Nd} (ho : Ord t) : ∀ (n : Nat), n ≤ t.length → ∀ (la : List Int), (∀ a ∈ la, 0 ≤ a ∧ a < (n : Int)) → ∃ f, Rep t la f := by
  intro n
  induction n with
  | zero =>
    intro _ la h
    cases la with
    | nil => exact ⟨_, .nil⟩
    | cons a la => have := h a (by simp); omega
  | succ n ih =>
    intro hn la h
    induction la with
    | nil => exact ⟨_, .nil⟩
    | cons a la ih2 =>
      obtain ⟨g, hg⟩ := ih2 (fun b hb => h b (by simp [hb]))
      have ha := h a (by simp)
      have hl : a.toNat < t.length := by omega
      have hx := List.getElem?_eq_getElem hl
      obtain ⟨f, hf⟩ := ih (by omega) (t[a.toNat]).args (fun b hb => by have := ho _ _ hx b hb; omega)
      exact ⟨_, .cons ha.1 hx hf hg⟩

theorem Rep.one {t : List Nd} (ho : Ord t) {k : Nat} (hk : k < t.length) : ∃ f, Rep t [(k : Int)] f := Rep.ex ho (k + 1) hk _ (fun a ha => by simp at ha; omega)

theorem addN_spec {out : List Nd} {y : Nd} (hn : out.Nodup) : out <+: (addN out y).1 ∧ (addN out y).1.Nodup ∧ 0 ≤ (addN out y).2 ∧ (addN out y).2 < (addN out y).1.length ∧ (addN out y).1[(addN out y).2.toNat]? = some y := by
  unfold addN
  by_cases h : y ∈ out
  · rw [if_pos h]
    have hl := List.idxOf_lt_length_of_mem h
    exact ⟨List.prefix_rfl, hn, by omega, by dsimp only; omega, by dsimp only; rw [Int.toNat_natCast, List.getElem?_eq_getElem hl]; simp⟩
  · rw [if_neg h]
    have e : List.idxOf y out = out.length := List.idxOf_eq_length h
    refine ⟨List.prefix_append _ _, ?_, by omega, by dsimp only; rw [e]; simp; omega, by dsimp only; rw [e]; simp⟩
    rw [List.nodup_append]
    exact ⟨hn, by simp, fun a ha b hb => by simp at hb; subst hb; exact fun e => h (e ▸ ha)⟩

theorem addN_ord {out : List Nd} {y : Nd} (ho : Ord out) (hy : ∀ a ∈ y.args, 0 ≤ a ∧ a < (out.length : Int)) : Ord (addN out y).1 := by
  unfold addN
  by_cases h : y ∈ out
  · rw [if_pos h]; exact ho
  · rw [if_neg h]
    intro k x hx a ha
    rcases Nat.lt_or_ge k out.length with hk | hk
    · rw [List.getElem?_append_left hk] at hx; exact ho k x hx a ha
    · rw [List.getElem?_append_right hk] at hx
      have : k - out.length = 0 := by
        rcases Nat.eq_zero_or_pos (k - out.length) with e | e
        · exact e
        · rw [List.getElem?_eq_none (by simp; omega)] at hx; cases hx
      rw [this] at hx
      simp at hx
      subst hx
      have := hy a ha
      omega

theorem pre_at {α : Type} {l m : List α} (h : l <+: m) (i : Nat) (x : α) (hx : l[i]? = some x) : m[i]? = some x := by
  obtain ⟨u, rfl⟩ := h
  rw [List.getElem?_append_left (List.getElem?_eq_some_iff.1 hx).1]
  exact hx

theorem pre_le {α : Type} {l m : List α} (h : l <+: m) : l.length ≤ m.length := h.length_le

theorem idx_at {out : List Nd} (hn : out.Nodup) {a : Nat} {x : Nd} (hx : out[a]? = some x) : x ∈ out ∧ out.idxOf x = a := by
  obtain ⟨hl, e⟩ := List.getElem?_eq_some_iff.1 hx
  refine ⟨List.mem_of_getElem? hx, ?_⟩
  subst e
  exact hn.idxOf_getElem a hl

/-- what is there already is not told again -/
theorem cnn_stable {out : List Nd} (hn : out.Nodup) {la : List Int} {f : F} (r : Rep out la f) : cnn f out = (out, la) := by
  induction r with
  | nil => rfl
  | @cons a la x kids rest h0 hx _ _ ih1 ih2 =>
    obtain ⟨hm, hi⟩ := idx_at hn hx
    have e : addN out ⟨x.op, x.w, x.fl, x.args, x.imm⟩ = (out, a) := by
      show addN out x = _
      unfold addN
      rw [if_pos hm, hi, Int.toNat_of_nonneg h0]
    simp only [cnn, ih1, e, ih2]

structure Told (out : List Nd) (r : List Nd × List Int) (f : F) : Prop where
  pre : out <+: r.1
  nd : r.1.Nodup
  ord : Ord r.1
  rep : Rep r.1 r.2 f
  lo : ∀ a ∈ r.2, 0 ≤ a ∧ a < (r.1.length : Int)

theorem cnn_told (f : F) : ∀ {out : List Nd}, out.Nodup → Ord out → Told out (cnn f out) f := by
  induction f with
  | nil => intro out hn ho; exact ⟨List.prefix_rfl, hn, ho, .nil, fun a ha => by simp [cnn] at ha⟩
  | cons op w fl imm kids rest ih1 ih2 =>
    intro out hn ho
    obtain ⟨p1, n1, o1, r1, l1⟩ := ih1 hn ho
    simp only [cnn]
    generalize hc1 : cnn kids out = c1 at *
    obtain ⟨p2, n2, z2, l2, g2⟩ := addN_spec (y := ⟨op, w, fl, c1.2, imm⟩) n1
    have o2 := addN_ord (y := ⟨op, w, fl, c1.2, imm⟩) o1 l1
    generalize hc2 : addN c1.1 ⟨op, w, fl, c1.2, imm⟩ = c2 at *
    obtain ⟨p3, n3, o3, r3, l3⟩ := ih2 n2 o2
    generalize hc3 : cnn rest c2.1 = c3 at *
    have hp : c1.1 <+: c3.1 := p2.trans p3
    refine ⟨p1.trans hp, n3, o3, ?_, ?_⟩
    · exact Rep.cons (x := ⟨op, w, fl, c1.2, imm⟩) z2 (pre_at p3 _ _ g2) (r1.mono (pre_at hp)) r3
    · intro a ha
      rcases List.mem_cons.1 ha with rfl | ha
      · have := pre_le p3; dsimp only; omega
      · exact l3 a ha

theorem cnn_app (f g : F) : ∀ (out : List Nd), cnn (f.app g) out = ((cnn g (cnn f out).1).1, (cnn f out).2 ++ (cnn g (cnn f out).1).2) := by
  induction f with
  | nil => intro out; rfl
  | cons op w fl imm kids rest _ ih2 => intro out; simp only [F.app, cnn, ih2]; rfl

/-- of these nodes none is higher -/
def Low (out : List Nd) (h : Nat) : Prop := ∀ (i : Int) (f : F), Rep out [i] f → f.ht ≤ h

theorem ord_nil : Ord [] := fun k x h => by simp at h
theorem low_nil (h : Nat) : Low [] h := fun i f r => by cases r with | cons h0 hx _ _ => simp at hx

theorem Rep.cut {out u : List Nd} (ho : Ord out) {i : Int} {f : F} (hi : i < (out.length : Int)) (r : Rep (out ++ u) [i] f) : Rep out [i] f := by
  have h0 : 0 ≤ i := by cases r with | cons h0 _ _ _ => exact h0
  obtain ⟨g, hg⟩ := Rep.ex ho out.length (Nat.le_refl _) [i] (fun a ha => by simp at ha; omega)
  have := (hg.mono (u := out ++ u) (fun k x hx => pre_at (List.prefix_append _ _) k x hx)).det r
  rw [← this]; exact hg

theorem low_add {out : List Nd} {y : Nd} {h : Nat} {kids : F} (ho : Ord out) (hy : ∀ a ∈ y.args, 0 ≤ a ∧ a < (out.length : Int)) (hk : Rep out y.args kids) (hl : Low out h) : Low (addN out y).1 (max h (kids.ht + 1)) := by
  unfold addN
  by_cases hm : y ∈ out
  · rw [if_pos hm]; intro i f r; have := hl i f r; omega
  · rw [if_neg hm]
    intro i f r
    rcases Int.lt_or_le i out.length with hi | hi
    · have := hl i f (r.cut ho hi); omega
    · cases r with
      | @cons _ _ x kids' rest h0 hx hk' hr =>
        cases hr
        have hi' : i.toNat = out.length := by
          have := (List.getElem?_eq_some_iff.1 hx).1
          simp at this
          omega
        rw [hi'] at hx
        simp at hx
        subst hx
        have e := (hk.mono (u := out ++ [y]) (fun k x hx => pre_at (List.prefix_append _ _) k x hx)).det hk'
        subst e
        simp only [F.ht]
        omega

theorem cnn_low (f : F) : ∀ {out : List Nd} {h : Nat}, out.Nodup → Ord out → Low out h → Low (cnn f out).1 (max h f.ht) := by
  induction f with
  | nil => intro out h _ _ hl i f r; have := hl i f r; omega
  | cons op w fl imm kids rest ih1 ih2 =>
    intro out h hn ho hl
    have t1 := cnn_told kids hn ho
    have l1 := ih1 hn ho hl
    simp only [cnn]
    have s2 := addN_spec (y := ⟨op, w, fl, (cnn kids out).2, imm⟩) t1.nd
    have o2 := addN_ord (y := ⟨op, w, fl, (cnn kids out).2, imm⟩) t1.ord t1.lo
    have l2 := low_add (y := ⟨op, w, fl, (cnn kids out).2, imm⟩) t1.ord t1.lo t1.rep l1
    have l3 := ih2 s2.2.1 o2 l2
    intro i g r
    have := l3 i g r
    simp only [F.ht]
    omega

/-- the root of a tree that is told alone stands at the end -/
theorem cnn_last (op w fl imm : Int) (kids : F) : (cnn (.cons op w fl imm kids .nil) []).2 = [((cnn (.cons op w fl imm kids .nil) []).1.length : Int) - 1] ∧ 1 ≤ (cnn (.cons op w fl imm kids .nil) []).1.length := by
  have t1 := cnn_told kids List.nodup_nil ord_nil
  have l1 := cnn_low kids List.nodup_nil ord_nil (low_nil 0)
  simp only [cnn]
  have hm : (⟨op, w, fl, (cnn kids []).2, imm⟩ : Nd) ∉ (cnn kids []).1 := by
    intro hm
    obtain ⟨i, hi⟩ := List.mem_iff_getElem?.1 hm
    have := l1 i _ (Rep.cons (x := ⟨op, w, fl, (cnn kids []).2, imm⟩) (by omega) (by rw [Int.toNat_natCast]; exact hi) t1.rep .nil)
    simp only [F.ht] at this
    omega
  unfold addN
  rw [if_neg hm, List.idxOf_eq_length hm]
  simp
end T
end Go.Proofs.YtbiopedpceddeaaGreatDoor
end
