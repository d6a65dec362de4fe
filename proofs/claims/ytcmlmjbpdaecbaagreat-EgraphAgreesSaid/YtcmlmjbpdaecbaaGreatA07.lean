/- Merged: QM4, QM5, QT1, QNo, QT2. -/
import Derived.Test.YtcmlmjbpdaecbaaGreatA00
import Derived.Test.YtcmlmjbpdaecbaaGreatA06
import Derived.Test.YtcmlmjbpdaecbaaGreatA01
import Derived.Laws.CopyOwn
import Derived.Deep.RegionLaw
import Derived.StillTailTactics
import Derived.Deep.RegionHeld3
import Derived.RangeFuncIn
import Derived.RangeFuncRecord
import Derived.RangeFuncSeq
import Derived.RangeFuncLeaves
import Derived.StillTail
import Derived.OneCell
import Derived.Test.YtcmlmjbpdaecbaaGreatA02
import Derived.RangeFuncCalls
import Derived.BigGuardPart
import Derived.Laws.StructEq
set_option linter.unusedVariables false
set_option linter.unusedSimpArgs false
section
section
namespace Go.Proofs.YtcmlmjbpdaecbaaGreat
set_option linter.unusedVariables false
set_option linter.unusedSimpArgs false
open Go.RowKit
end Go.Proofs.YtcmlmjbpdaecbaaGreat
end
section
namespace Go.Proofs.YtcmlmjbpdaecbaaGreat
open Go.RowKit
set_option linter.unusedVariables false

theorem any_take_step {α : Type} {p : α → Bool} {xs : List α} {k : Nat} {x : α} (hx : xs[k]? = some x) (h : (xs.take k).any p = false) (hp : p x = false) : (xs.take (k + 1)).any p = false := by
  rw [take_succ_of hx, List.any_append, h]; simp [hp]
theorem any_true_at {α : Type} {p : α → Bool} {xs : List α} {k : Nat} {x : α} (hx : xs[k]? = some x) (hp : p x = true) : xs.any p = true :=
  List.any_eq_true.2 ⟨x, List.mem_of_getElem? hx, hp⟩

end Go.Proofs.YtcmlmjbpdaecbaaGreat
end
section
namespace Go.Proofs.YtcmlmjbpdaecbaaGreat
open Go.RowKit
set_option linter.unusedVariables false

end Go.Proofs.YtcmlmjbpdaecbaaGreat
end
section
namespace Go.Proofs.YtcmlmjbpdaecbaaGreat
open Go.RowKit
set_option linter.unusedVariables false

end Go.Proofs.YtcmlmjbpdaecbaaGreat
end
section
namespace Go.Proofs.YtcmlmjbpdaecbaaGreat.K

end Go.Proofs.YtcmlmjbpdaecbaaGreat.K
end
section
namespace Go.Proofs.YtcmlmjbpdaecbaaGreat
open Go.RowKit
set_option linter.unusedVariables false

theorem row_alloc {X : World} {g : Nat} {o : Obj} (h : X.heap[g]? = some o) (o' : Obj) : (X.alloc o').heap[g]? = some o := (Below.heap_alloc _ _ _ (Array.getElem?_eq_some_iff.1 h).1).trans h
theorem row_step {X Y : World} {g : Nat} {o : Obj} (hb : Hid (Below X.heap.size X Y)) (h : X.heap[g]? = some o) : Y.heap[g]? = some o := (hb.out.block g (Array.getElem?_eq_some_iff.1 h).1).trans h
theorem new_two (X : World) (o o' : Obj) : ((X.alloc o).alloc o').heap[X.heap.size + 1]? = some o' := by
  have := heap_alloc_new (X.alloc o) o'
  rwa [World.size_alloc] at this
/-- a row that is being filled -/
def fillC (xs : List Int) (c : Nat) : List Value := xs.map (Value.int .u32) ++ List.replicate (c - xs.length) (.int .u32 0)
theorem fillC_nil (c : Nat) : (fillC [] c).toArray = Array.replicate c (.int .u32 0) := by
  unfold fillC
  simp
theorem fillC_full {xs : List Int} {c : Nat} (h : xs.length = c) : fillC xs c = xs.map (Value.int .u32) := by
  unfold fillC
  rw [h, Nat.sub_self]
  simp
theorem fill_step {w : World} {p : Nat} {xs : List Int} {c : Nat} {x : Int} {T : TypeId} (h : w.heap[p]? = some (.cells (fillC xs c).toArray T (0, 0))) {a : Nat} (ha : xs.length = a) (hc : a < c) :
    (w.setCell ⟨p, a, none⟩ (.int .u32 x)).heap[p]? = some (.cells (fillC (xs ++ [x]) c).toArray T (0, 0)) := by
  rw [heap_setCell_same w p a _ _ _ h]
  congr 3
  subst ha
  apply Array.toList_inj.1
  simp [fillC]
  rw [show c - xs.length = (c - (xs.length + 1)) + 1 by omega, List.replicate_succ]
  simp
theorem fill_cell {w : World} {p : Nat} {xs : List Int} {c : Nat} {T : TypeId} (h : w.heap[p]? = some (.cells (fillC xs c).toArray T (0, 0))) {a : Nat} (ha : xs.length ≤ c) (hc : a < c) :
    (w.cell? ⟨p, a, none⟩).isSome = true ∧ w.frozen? ⟨p, a, none⟩ = false := by
  refine ⟨?_, by simp [World.frozen?, h]⟩
  rw [cell_of_row w p _ _ T (0, 0) h]
  have : a < (fillC xs c).length := by simp [fillC]; omega
  simp [this]

end Go.Proofs.YtcmlmjbpdaecbaaGreat
end
section
namespace Go.Proofs.YtcmlmjbpdaecbaaGreat
open Go.RowKit
set_option linter.unusedVariables false

end Go.Proofs.YtcmlmjbpdaecbaaGreat
end
section
namespace Go.Proofs.YtcmlmjbpdaecbaaGreat
open Go.RowKit
set_option linter.unusedVariables false

end Go.Proofs.YtcmlmjbpdaecbaaGreat
end
end
section
section
namespace Go.Proofs.YtcmlmjbpdaecbaaGreat
open Go.RowKit
set_option linter.unusedVariables false

/-- what lies from B on stays as it lies -/
structure Kpt (B : Nat) (A A' : World) : Prop where
  size : A.heap.size ≤ A'.heap.size
  block : ∀ k, B ≤ k → k < A.heap.size → A'.heap[k]? = A.heap[k]?
end Go.Proofs.YtcmlmjbpdaecbaaGreat
end
section
namespace Go.Proofs.YtcmlmjbpdaecbaaGreat
open Go Go.RowKit
set_option linter.unusedVariables false
set_option linter.unusedSimpArgs false

/-- an operation's way, where only the post of the end without panic is turned -/
theorem wp_then {P : Program} {o : Oper} {a : Act} {w : World} {K : Act → World → Prop} {K0 : Act → World → Prop} {Q : Exit → Act → World → Prop} (h : o.wp P a w K (Exit.then K0 Q)) : o.wp P a w K Q := by
  unfold Oper.wp at *
  generalize (execOp a.eval o).run P w = r at *
  cases r with
  | ok n w' =>
    cases n <;> simp only [Oper.upon] at h ⊢ <;>
      first
        | exact h
        | exact Calls.mono h (fun e w'' he => by cases e <;> exact he)
  | halt x w' => cases x <;> simp only [Oper.upon] at h ⊢ <;> exact h

theorem wpAny_more {P : Program} {md : Region.Mode} {ops : Array Oper} {Q : Exit → Act → World → Prop} : ∀ (f : Nat) (listed : Array Bool) (a : Act) (w : World), wpAny P md ops Q f listed a w → wpAny P md ops Q (f + 1) listed a w
  | 0, _, _, _, h => ⟨fun _ => h.2, fun i hi => by rw [h.1] at hi; cases hi⟩
  | f + 1, listed, a, w, h => ⟨h.1, fun i hi => wpOp_mono (fun a' w' h' => wpAny_more f _ a' w' h') (h.2 i hi)⟩
theorem wpAny_plus {P : Program} {md : Region.Mode} {ops : Array Oper} {Q : Exit → Act → World → Prop} {f : Nat} {listed : Array Bool} {a : Act} {w : World} (h : wpAny P md ops Q f listed a w) : ∀ k, wpAny P md ops Q (k + f) listed a w
  | 0 => by rw [Nat.zero_add]; exact h
  | k + 1 => by rw [show k + 1 + f = (k + f) + 1 by omega]; exact wpAny_more _ _ _ _ (wpAny_plus h k)

/-- each of the first n operations waits only for ones before it, and is not guarded -/
def lexB (md : Region.Mode) (ops : Array Oper) (n : Nat) : Bool :=
  (List.range n).all fun i => match ops[i]? with
    | some o => o.guard.isNone && o.after.all fun e => !Region.binds md e || decide (e.on < i)
    | none => false
theorem lexB_spec {md : Region.Mode} {ops : Array Oper} {n : Nat} (h : lexB md ops n = true) {i : Nat} (hi : i < n) : ∃ o, ops[i]? = some o ∧ o.guard = none ∧ ∀ e ∈ o.after, Region.binds md e = true → e.on < i := by
  have h1 := List.all_eq_true.1 h i (List.mem_range.2 hi)
  cases ho : ops[i]? with
  | none => rw [ho] at h1; cases h1
  | some o =>
    rw [ho] at h1
    simp only [Bool.and_eq_true, Option.isNone_iff_eq_none] at h1
    refine ⟨o, rfl, h1.1, fun e he hb => ?_⟩
    have h2 := Array.all_eq_true_iff_forall_mem.1 h1.2 e he
    simpa [hb] using h2

/-- all of the first n are listed, none behind -/
def allHead (n m : Nat) : Array Bool := Array.replicate n true ++ Array.replicate m false

theorem split_any {P : Program} {ops ops' : Array Oper} {Q : Exit → Act → World → Prop} {md : Region.Mode} {n : Nat} {tail : List Oper} (hs : Region.sinkB md ops n = true) (hc : Region.chainB md ops n = true) (hn : n < ops.size) (hx : lexB md ops n = true)
    (hsz : ops'.size = n) (hsame : ∀ i, i < n → ops'[i]? = ops[i]?) (htl : ∀ j, tail[j]? = ops[n + j]?) (hseq : Region.seqB md ops tail.length n (allHead n (ops.size - n)) = true) :
    ∀ (f : Nat) (listed' listed : Array Bool) (a : Act) (w : World), listed'.size = n → HeadInv md ops n listed → (∀ k, k < n → ∀ d, listed'.getD k d = listed.getD k d) →
      wpAny P md ops' (Exit.then (fun a w => wpList P ops Q tail a w) Q) f listed' a w → wpAny P md ops Q (f + tail.length) listed a w := by
  have hready : ∀ (listed' listed : Array Bool), listed'.size = n → HeadInv md ops n listed → (∀ k, k < n → ∀ d, listed'.getD k d = listed.getD k d) → ∀ i, i < n → (i ∈ Region.ready md ops listed ↔ i ∈ Region.ready md ops' listed') := by
    intro listed' listed hl hinv hsm i hi
    obtain ⟨o, ho, _, hlt⟩ := lexB_spec hx hi
    rw [mem_ready, mem_ready, hsame i hi, hsm i hi true]
    have key : ∀ e ∈ o.after, Region.binds md e = true → listed'.getD e.on false = listed.getD e.on false := fun e he hb => hsm _ (Nat.lt_trans (hlt e he hb) hi) false
    constructor
    · rintro ⟨h0, o2, ho2, hall⟩
      have : o2 = o := Option.some.inj (ho2.symm.trans ho)
      subst this
      exact ⟨h0, o2, ho2, fun e he hb => (key e he hb).trans (hall e he hb)⟩
    · rintro ⟨h0, o2, ho2, hall⟩
      have : o2 = o := Option.some.inj (ho2.symm.trans ho)
      subst this
      exact ⟨h0, o2, ho2, fun e he hb => (key e he hb).symm.trans (hall e he hb)⟩
  have hlow : ∀ (listed' : Array Bool), Region.ready md ops' listed' = [] → listed'.size = n → ∀ i, i < n → listed'.getD i true = true := by
    intro listed' h0 hl i
    induction i using Nat.strongRecOn with
    | _ i ih =>
      intro hi
      cases hb : listed'.getD i true with
      | true => rfl
      | false =>
        exfalso
        obtain ⟨o, ho, _, hlt⟩ := lexB_spec hx hi
        have : i ∈ Region.ready md ops' listed' := mem_ready.2 ⟨hb, o, (hsame i hi).trans ho, fun e he hb2 => by
          have h1 := hlt e he hb2
          have h2 := ih e.on h1 (by omega)
          have h3 : e.on < listed'.size := by omega
          simp [h3] at h2 ⊢
          exact h2⟩
        rw [h0] at this
        cases this
  have hhead : ∀ (listed' listed : Array Bool), listed'.size = n → HeadInv md ops n listed → (∀ k, k < n → ∀ d, listed'.getD k d = listed.getD k d) → Region.ready md ops' listed' = [] → listed = allHead n (ops.size - n) := by
    intro listed' listed hl hinv hsm h0
    apply Array.ext_getElem?
    intro k
    unfold allHead
    by_cases hk : k < n
    · have h1 := hlow listed' h0 hl k hk
      rw [hsm k hk true] at h1
      have h2 : k < listed.size := by rw [hinv.size]; omega
      rw [Array.getElem?_append_left (by simpa using hk)]
      simp [h2] at h1
      simp [h2, h1, hk]
    · by_cases hk2 : k < ops.size
      · have h1 := hinv.tail k (by omega) hk2
        have h2 : k < listed.size := by rw [hinv.size]; exact hk2
        rw [Array.getElem?_append_right (by simp; omega)]
        simp [h2] at h1
        rw [Array.getElem?_eq_getElem h2, h1, Array.getElem?_replicate, if_pos (by simp; omega)]
      · rw [Array.getElem?_eq_none (by rw [hinv.size]; omega), Array.getElem?_eq_none (by simp; omega)]
  intro f
  induction f with
  | zero =>
    intro listed' listed a w hl hinv hsm h
    obtain ⟨h0, hq⟩ := h
    rw [Nat.zero_add, hhead listed' listed hl hinv hsm h0]
    exact wpAny_of_seq tail n _ a w htl hseq hq
  | succ f ih =>
    intro listed' listed a w hl hinv hsm h
    obtain ⟨hq, hstep⟩ := h
    by_cases h0 : Region.ready md ops' listed' = []
    · rw [hhead listed' listed hl hinv hsm h0]
      exact wpAny_plus (wpAny_of_seq tail n _ a w htl hseq (hq h0)) _
    · obtain ⟨i, hi⟩ : ∃ i, i ∈ Region.ready md ops' listed' := List.exists_mem_of_ne_nil _ h0
      have hin : i < n := by
        obtain ⟨_, o, ho, _⟩ := mem_ready.1 hi
        have := (Array.getElem?_eq_some_iff.1 ho).1
        omega
      have hun : listed.getD i true = false := by rw [← hsm i hin true]; exact (mem_ready.1 hi).1
      have hmem : i ∈ Region.ready md ops listed := (hready listed' listed hl hinv hsm i hin).2 hi
      rw [show f + 1 + tail.length = (f + tail.length) + 1 by omega]
      refine ⟨fun h1 => absurd hmem (by rw [h1]; exact List.not_mem_nil), fun j hj => ?_⟩
      have hjn : j < n := by
        rcases Nat.lt_or_ge j n with h2 | h2
        · exact h2
        · exact absurd hj (tail_waits hs hc hn hinv _ i rfl hin hun j h2)
      have hj' := (hready listed' listed hl hinv hsm j hjn).1 hj
      have h2 := hstep j hj'
      obtain ⟨o, ho, hg, _⟩ := lexB_spec hx hjn
      have hw : ∀ ys, Region.wanted o ys = true := fun ys => by simp [Region.wanted, hg]
      unfold wpOp at h2 ⊢
      rw [hsame j hjn, ho] at h2
      rw [ho]
      simp only [hw, if_true] at h2 ⊢
      refine h2.imp (fun h3 => Oper.wp_mono (fun a' w' h4 => ih _ _ a' w' (by simpa using hl) (hinv.set hj hjn) (fun k hk d => ?_) h4) (wp_then h3)) (fun h3 => h3)
      by_cases hjk : j = k
      · subst hjk
        have q1 : j < listed'.size := by omega
        have q2 : j < listed.size := by rw [hinv.size]; omega
        simp [q1, q2]
      · rw [getD_set_ne d hjk, getD_set_ne d hjk]; exact hsm k hk d

/-- what is checked of a region that ends in operations which wait for all others -/
def splitB (l : List Oper) (n : Nat) : Bool :=
  decide (n < l.length) && Region.sinkB .any l.toArray n && Region.chainB .any l.toArray n && lexB .any l.toArray n && Region.seqB .any l.toArray (l.length - n) n (allHead n (l.length - n))

theorem wp_region_split {P : Program} {id : Nat} {Q : Exit → Act → World → Prop} {a : Act} {w : World} {l : List Oper} (n : Nat) (hm : P.follows .mixedOrders = true) (hB : splitB l n = true)
    (h : wpAny P .any (l.take n).toArray (Exit.then (fun a w => wpList P l.toArray Q (l.drop n) a w) Q) n (Array.replicate n false) a w.drew) : (Code.region id l.toArray true).wp P Q a w := by
  simp only [splitB, Bool.and_eq_true, decide_eq_true_eq] at hB
  obtain ⟨⟨⟨⟨hn, hs⟩, hc⟩, hx⟩, hq⟩ := hB
  have hn' : n < l.toArray.size := by simpa using hn
  refine wp_region_any hm ?_
  have hdl : (l.drop n).length = l.length - n := by simp
  have H := split_any (P := P) (Q := Q) (ops' := (l.take n).toArray) (tail := l.drop n) hs hc hn' hx (by simp; omega) (fun i hi => by simp [List.getElem?_take, hi]) (fun j => by simp [List.getElem?_drop]) (by rw [hdl]; simpa using hq)
    n (Array.replicate n false) (Array.replicate l.toArray.size false) a w.drew (by simp)
    ⟨by simp, fun j oj _ hl => (by rw [getD_replicate_false] at hl; cases hl), fun t _ ht => getD_in (by simpa using ht) (getD_replicate_false _ _)⟩
    (fun k hk d => by have : k < l.length := by omega
                      simp [hk, this]) h
  rw [hdl, show n + (l.length - n) = l.toArray.size by simp; omega] at H
  exact H
end Go.Proofs.YtcmlmjbpdaecbaaGreat
end
section
namespace Go.Proofs.YtcmlmjbpdaecbaaGreat
open Go.RowKit
set_option linter.unusedVariables false

section

end
end Go.Proofs.YtcmlmjbpdaecbaaGreat
end
section
namespace Go.Proofs.YtcmlmjbpdaecbaaGreat
open Go.RowKit
set_option linter.unusedVariables false

/-- what yield leaves behind, and what the walk tells of it -/
def Told (B0 : Nat) (A : World) (J Jx : World → Prop) (e : Ending) (A' : World) : Prop :=
  (e = .returned (.bool true) ∧ J A' ∧ Kpt B0 A A') ∨ (e = .returned (.bool false) ∧ Jx A' ∧ Kpt B0 A A')

end Go.Proofs.YtcmlmjbpdaecbaaGreat
end
section
namespace Go.Proofs.YtcmlmjbpdaecbaaGreat
open Go.RowKit
set_option linter.unusedVariables false

section

end

section
end

end Go.Proofs.YtcmlmjbpdaecbaaGreat
end
section
namespace Go.Proofs.YtcmlmjbpdaecbaaGreat
open Go.RowKit
set_option linter.unusedVariables false
set_option linter.unusedSimpArgs false

end Go.Proofs.YtcmlmjbpdaecbaaGreat
end
section
namespace Go.Proofs.YtcmlmjbpdaecbaaGreat
open Go.RowKit
set_option linter.unusedVariables false
set_option linter.unusedSimpArgs false

end Go.Proofs.YtcmlmjbpdaecbaaGreat
end
end
section
namespace Go.Proofs.YtcmlmjbpdaecbaaGreat
open Go.RowKit
set_option linter.unusedVariables false
set_option linter.unusedSimpArgs false

/-- the cells of a node -/
def ndC (x : T.Nd) (A : Option Addr) (c : Nat) : List Value := [.int .i64 x.op, .int .i64 x.w, .int .i64 x.fl, .slice A x.args.length c, .int .u32 x.imm]
/-- five cells read as a node -/
def NdR (W : World) (us : List Value) (x : T.Nd) : Prop := ∃ A c, us = ndC x A c ∧ SlAt (IntR .i64) W A x.args.length x.args ∧ 0 ≤ x.imm ∧ x.imm < 4294967296
theorem monoNd : MonoL NdR := by
  rintro w w' us x hb ⟨A, c, rfl, h, h2⟩
  exact ⟨A, c, rfl, h.below (monoInt _) hb, h2⟩

theorem ar_cases (op : Int) : (op = 0 ∧ T.ar op = 0) ∨ (op = 33 ∧ T.ar op = 0) ∨ (1 ≤ op ∧ op ≤ 14 ∧ T.ar op = 2) ∨ (op = 15 ∧ T.ar op = 3) ∨ (16 ≤ op ∧ op ≤ 18 ∧ T.ar op = 1) ∨ (¬ op = 0 ∧ ¬ op = 33 ∧ ¬ (1 ≤ op ∧ op ≤ 14) ∧ ¬ op = 15 ∧ ¬ (16 ≤ op ∧ op ≤ 18) ∧ T.ar op = -1) := by
  unfold T.ar
  by_cases h0 : op = 0
  · exact .inl ⟨h0, by rw [if_pos (.inl h0)]⟩
  by_cases h33 : op = 33
  · exact .inr (.inl ⟨h33, by rw [if_pos (.inr h33)]⟩)
  rw [if_neg (by omega)]
  by_cases h14 : 1 ≤ op ∧ op ≤ 14
  · exact .inr (.inr (.inl ⟨h14.1, h14.2, by rw [if_pos h14]⟩))
  rw [if_neg h14]
  by_cases h15 : op = 15
  · exact .inr (.inr (.inr (.inl ⟨h15, by rw [if_pos h15]⟩)))
  rw [if_neg h15]
  by_cases h18 : 16 ≤ op ∧ op ≤ 18
  · exact .inr (.inr (.inr (.inr (.inl ⟨h18.1, h18.2, by rw [if_pos h18]⟩))))
  rw [if_neg h18]
  exact .inr (.inr (.inr (.inr (.inr ⟨h0, h33, h14, h15, h18, rfl⟩))))

set_option maxHeartbeats 1000000 in
theorem parity_any (op : Int) (W : World) : Calls Tryz.prog 166 #[.int .i64 op] W fun e w' => e = .returned (.tuple #[.int .i64 (if 0 ≤ T.ar op then T.ar op else 0), .bool (decide (0 ≤ T.ar op))]) ∧ W = w' := by
  rcases ar_cases op with ⟨rfl, h⟩ | ⟨rfl, h⟩ | ⟨h1, h2, h⟩ | ⟨rfl, h⟩ | ⟨h1, h2, h⟩ | ⟨a, b, c, d, e, h⟩
  · go_enter Tryz.func166, Tryz.ntmps166
    go_wp2
    go_ret2
    exact ⟨rfl, rfl⟩
  · go_enter Tryz.func166, Tryz.ntmps166
    go_wp2
    go_ret2
    exact ⟨rfl, rfl⟩
  · rw [h, show (if (0 : Int) ≤ 2 then (2 : Int) else 0) = 2 from rfl, show decide ((0 : Int) ≤ 2) = true from rfl]
    clear h
    have q0 : (op == 0) = false := by simp; omega
    have q1 : (op == 33) = false := by simp; omega
    have q2 : decide (1 ≤ op) = true := by simp; omega
    have q3 : decide (op ≤ 14) = true := by simp; omega
    go_enter Tryz.func166, Tryz.ntmps166
    go_wp2
    go_ret2
    exact ⟨rfl, rfl⟩
  · go_enter Tryz.func166, Tryz.ntmps166
    go_wp2
    go_ret2
    exact ⟨rfl, rfl⟩
  · rw [h, show (if (0 : Int) ≤ 1 then (1 : Int) else 0) = 1 from rfl, show decide ((0 : Int) ≤ 1) = true from rfl]
    clear h
    have hop : op = 16 ∨ op = 17 ∨ op = 18 := by omega
    clear h1 h2
    rcases hop with rfl | rfl | rfl
    all_goals
      go_enter Tryz.func166, Tryz.ntmps166
      go_wp2
      go_ret2
      exact ⟨rfl, rfl⟩
  · rw [h, show (if (0 : Int) ≤ -1 then (-1 : Int) else 0) = 0 from rfl, show decide ((0 : Int) ≤ -1) = false from rfl]
    clear h
    have q0 : (op == 0) = false := by simp; omega
    have q1 : (op == 33) = false := by simp; omega
    have q4 : (op == 15) = false := by simp; omega
    by_cases hn : op < 1
    · have q2 : decide (1 ≤ op) = false := by simp; omega
      have q5 : decide (16 ≤ op) = false := by simp; omega
      clear a b c d e hn
      go_enter Tryz.func166, Tryz.ntmps166
      go_wp2
      go_ret2
      exact ⟨rfl, rfl⟩
    · have q2 : decide (1 ≤ op) = true := by simp; omega
      have q3 : decide (op ≤ 14) = false := by simp; omega
      have q5 : decide (16 ≤ op) = true := by simp; omega
      have q6 : decide (op ≤ 18) = false := by simp; omega
      clear a b c d e hn
      go_enter Tryz.func166, Tryz.ntmps166
      go_wp2
      go_ret2
      exact ⟨rfl, rfl⟩

/-- the node as a value -/
def ndV (x : T.Nd) (A : Option Addr) (c : Nat) : Value := .agg #[.int .i64 x.op, .int .i64 x.w, .int .i64 x.fl, .slice A x.args.length c, .int .u32 x.imm]

set_option maxHeartbeats 1000000 in
theorem pisImm_any (op w fl imm : Int) (n : Nat) (A : Option Addr) (c : Nat) (args : List Int) (W : World) :
    Calls Tryz.prog 167 #[.agg #[.int .i64 op, .int .i64 w, .int .i64 fl, .slice A n c, .int .u32 imm]] W fun e w' => e = .returned (.bool (T.immOk ⟨op, w, fl, args, imm⟩)) ∧ Below W.heap.size W w' := by
  have HB1 := Lib.hid (show ∀ o, Below W.heap.size W (W.alloc o) from fun o => (Below.refl _ _).alloc (Nat.le_refl _) o)
  unfold T.immOk
  dsimp only
  by_cases h0 : op = 0
  · subst h0
    rw [if_pos rfl]
    have HM := Lib.hid (fun W' => Mask_any w W')
    unfold B.isW
    cases hw : B.isWd w
    · rw [hw] at HM
      rw [Bool.false_and]
      clear hw
      go_enter Tryz.func167, Tryz.ntmps167
      go_wp2_with fail
      refine (HM.out _).mono ?_
      rintro e w' ⟨rfl, rfl⟩
      go_wp2
      go_ret
      exact ⟨rfl, HB1.out _⟩
    · rw [hw] at HM
      rw [Bool.true_and]
      obtain ⟨P, hP⟩ : ∃ P, P = B.pw w := ⟨_, rfl⟩
      rw [← hP] at HM ⊢
      have hd : decide (imm < P) = decide (imm ≤ P - 1) := by by_cases h : imm < P <;> simp <;> omega
      rw [hd]
      clear hw hP hd
      go_enter Tryz.func167, Tryz.ntmps167
      go_wp2_with fail
      refine (HM.out _).mono ?_
      rintro e w' ⟨rfl, rfl⟩
      go_wp2
      go_ret
      exact ⟨rfl, HB1.out _⟩
  · rw [if_neg h0]
    have q0 : (op == 0) = false := by simpa using h0
    by_cases h33 : op = 33
    · subst h33
      rw [if_pos rfl]
      clear h0 q0
      go_enter Tryz.func167, Tryz.ntmps167
      go_wp2
      go_ret
      exact ⟨rfl, HB1.out _⟩
    · rw [if_neg h33]
      have q1 : (op == 33) = false := by simpa using h33
      by_cases h14 : op = 14
      · subst h14
        rw [if_pos rfl]
        clear h0 q0 h33 q1
        go_enter Tryz.func167, Tryz.ntmps167
        go_wp2
        go_ret
        exact ⟨rfl, HB1.out _⟩
      · rw [if_neg h14]
        have q2 : (op == 14) = false := by simpa using h14
        have hd : decide (imm = 0) = (imm == 0) := by by_cases h : imm = 0 <;> simp [h]
        rw [hd]
        clear h0 h33 h14 hd
        go_enter Tryz.func167, Tryz.ntmps167
        go_wp2
        go_ret
        exact ⟨rfl, HB1.out _⟩
end Go.Proofs.YtcmlmjbpdaecbaaGreat
end
section
namespace Go.Proofs.YtcmlmjbpdaecbaaGreat
open Go.RowKit
set_option linter.unusedVariables false
set_option linter.unusedSimpArgs false

/-- five cells are a node; its operands lie below B, or in a block of integers -/
def NdO (B : Nat) (w : World) (us : List Value) (x : T.Nd) : Prop :=
  ∃ A c, us = ndC x A c ∧ SlAt (IntR .i64) w A x.args.length x.args ∧ 0 ≤ x.imm ∧ x.imm < 4294967296 ∧ (x.args ≠ [] → ∀ b off, A = some ⟨b, off, none⟩ → b < B ∨ ∃ cur fr, w.heap[b]? = some (.cells cur 3 fr))

section
variable {B : Nat} {w w' : World} {us : List Value} {x : T.Nd}

theorem NdO.ndR (h : NdO B w us x) : NdR w us x := by
  obtain ⟨A, c, h1, h2, h3, h4, _⟩ := h
  exact ⟨A, c, h1, h2, h3, h4⟩

theorem NdO.below (h : NdO B w us x) (hb : Below w.heap.size w w') : NdO B w' us x := by
  obtain ⟨A, c, h1, h2, h3, h4, h5⟩ := h
  refine ⟨A, c, h1, h2.below (monoInt _) hb, h3, h4, fun hn b off hA => ?_⟩
  rcases h5 hn b off hA with h | ⟨cur, fr, h⟩
  · exact .inl h
  · exact .inr ⟨cur, fr, (hb.block b (Array.getElem?_eq_some_iff.1 h).1).trans h⟩

theorem NdO.grown {row : Option Nat} (h : NdO B w us x) (hg : w.grownBy w' row) (hr : ∀ g, row = some g → B ≤ g ∧ ∃ cur fr, w.heap[g]? = some (.cells cur 63 fr)) : NdO B w' us x := by
  obtain ⟨A, c, h1, h2, h3, h4, h5⟩ := h
  have hne : x.args ≠ [] → ∀ b off, A = some ⟨b, off, none⟩ → row ≠ some b := by
    intro hn b off hA e
    obtain ⟨g1, cur, fr, g2⟩ := hr b e
    rcases h5 hn b off hA with h | ⟨cur', fr', h⟩
    · omega
    · rw [g2] at h
      injection h with h
      injection h with _ h _
      exact absurd h (by decide)
  refine ⟨A, c, h1, ⟨h2.1, h2.2.1, fun k y hy => ?_⟩, h3, h4, fun hn b off hA => ?_⟩
  · obtain ⟨b, off, u, hA, hlt, hc, hu⟩ := h2.2.2 k y hy
    have hn : x.args ≠ [] := fun e => by rw [e] at hy; simp at hy
    have e := hg.block b hlt (fun e => hne hn b off hA e.symm)
    refine ⟨b, off, u, hA, Nat.lt_of_lt_of_le hlt hg.size, ?_, hu⟩
    unfold World.cell? at hc ⊢
    rw [e]
    exact hc
  · rcases h5 hn b off hA with h | ⟨cur, fr, h⟩
    · exact .inl h
    · exact .inr ⟨cur, fr, by rw [hg.block b (Array.getElem?_eq_some_iff.1 h).1 (fun e => hne hn b off hA e.symm)]; exact h⟩

end

/-- The slice v, of the call's own, holds these nodes; its array lies at B or above. -/
def OwnNd (B : Nat) (w : World) (v : Value) (nds : List T.Nd) : Prop :=
  ∃ cells, OwnAt w 63 5 v nds.length cells ∧ (∀ (k : Nat) (x : T.Nd), nds[k]? = some x → NdO B w ((cells.drop (k * 5)).take 5) x) ∧ ∀ g, v.ownBlock = some g → B ≤ g

section
variable {B : Nat} {w w' : World} {v : Value} {nds : List T.Nd}

theorem OwnNd.nil_ (B : Nat) (w : World) : OwnNd B w (.slice none 0 0) [] := ⟨[], OwnAt.nil_ _ _ _, fun k x h => by simp at h, fun g h => by simp [Value.ownBlock] at h⟩

theorem OwnNd.form (h : OwnNd B w v nds) : ∃ A c, v = .slice A nds.length c := by
  obtain ⟨cells, h1, _⟩ := h
  exact h1.form

theorem OwnNd.below (h : OwnNd B w v nds) (hb : Below w.heap.size w w') : OwnNd B w' v nds := by
  obtain ⟨cells, h1, h2, h3⟩ := h
  exact ⟨cells, h1.below hb h1.lt, fun k x hx => (h2 k x hx).below hb, h3⟩

theorem OwnNd.stAt {A : Option Addr} {n c : Nat} (h : OwnNd B w (.slice A n c) nds) (hn : nds.length = n) : StAt 5 NdR w A n nds := by
  obtain ⟨cells, h1, h2, h3⟩ := h
  rw [hn] at h1
  exact h1.stAt hn fun k x hx => (h2 k x hx).ndR

theorem OwnNd.row (h : OwnNd B w v nds) : ∀ g, v.ownBlock = some g → B ≤ g ∧ ∃ cur fr, w.heap[g]? = some (.cells cur 63 fr) := by
  obtain ⟨cells, h1, h2, h3⟩ := h
  intro g hg
  refine ⟨h3 g hg, ?_⟩
  rcases h1.2 with ⟨rfl, _⟩ | ⟨g', off, cap, cur, rfl, hcur, _⟩
  · simp [Value.ownBlock] at hg
  · simp [Value.ownBlock] at hg
    subst hg
    exact ⟨cur, _, hcur⟩

end

theorem infoNode : (Tryz.prog.info? 63).map (fun i => (i.zero, i.size, i.bytes)) = some (some (.agg #[.int .i64 0, .int .i64 0, .int .i64 0, .slice none 0 0, .int .u32 0]), 5, 56) := by kernel_rfl

theorem ndC_len (x : T.Nd) (A : Option Addr) (c : Nat) : (ndC x A c).length = 5 := rfl
theorem ndC_one (x : T.Nd) (A : Option Addr) (c : Nat) : ∀ u ∈ ndC x A c, u.oneCell' = true := by
  intro u hu
  simp [ndC] at hu
  rcases hu with rfl | rfl | rfl | rfl | rfl <;> rfl

theorem src_new (w : World) (us : List Value) (T : TypeId) : ∀ j u, us[j]? = some u → ∃ ad : Addr, (some (⟨w.heap.size, 0, none⟩ : Addr)) = some ad ∧ (w.alloc (.cells us.toArray T)).cell? (ad.add j) = some u := by
  intro j u hu
  refine ⟨_, rfl, ?_⟩
  unfold Addr.add
  split
  · rename_i e
    subst e
    rw [cell_of_row _ _ _ _ _ (0, 0) (heap_alloc_new w _)]
    simpa using hu
  · simp only [Nat.zero_add]
    rw [cell_of_row _ _ _ _ _ (0, 0) (heap_alloc_new w _)]
    simpa using hu

/-- append of nodes -/
theorem wpList_append_nodes {w : World} {ops : Array Oper} {rest : List Oper} {o : Oper} {a : Act} {Q : Exit → Act → World → Prop} (hgd : o.guard = none) (sx x : Operand)
    (ho : o.op = .call { callee := .builtin .append, args := #[sx, x], argTypes := #[43, 43] })
    (B : Nat) (v : Value) (nds : List T.Nd) (hs : a.eval sx = v) (hown : OwnNd B w v nds) (m : Nat) (us : List Value) (xs : List T.Nd) (hm : xs.length = m) (hl : us.length = m * 5) (hnd : ∀ (k : Nat) (x : T.Nd), xs[k]? = some x → NdO B w ((us.drop (k * 5)).take 5) x) (hone : ∀ u ∈ us, u.oneCell' = true)
    (A : Option Addr) (c : Nat) (hx : a.eval x = .slice A m c) (hsrc : ∀ j u, us[j]? = some u → ∃ ad : Addr, A = some ad ∧ w.cell? (ad.add j) = some u) (hn : nds.length + m ≤ 1000000) (hB : B ≤ w.heap.size)
    (h : ∀ v' w', OwnNd B w' v' (nds ++ xs) → w.grownBy w' v.ownBlock → (v'.ownBlock = v.ownBlock ∨ v'.ownBlock = some w.heap.size) → (∀ w0, Below B w0 w → Below B w0 w') → wpList Tryz.prog ops Q rest (a.put o.dst v') w') :
    wpList Tryz.prog ops Q (o :: rest) a w := by
  obtain ⟨cells, h1, h2, h3⟩ := id hown
  have hcl := h1.1
  refine wpList_append_src _ hgd sx x 43 ho 63 _ 5 56 Tryz.underlying43 infoNode rfl (by decide) v nds.length cells hs h1 A m c us hx hl hsrc hone (by omega) (by decide) ?_
  intro v' w' hown' hgr hat
  have hrow : ∀ g, v.ownBlock = some g → B ≤ g ∧ ∃ cur fr, w.heap[g]? = some (.cells cur 63 fr) := fun g hg => hown.row g hg
  refine h v' w' ⟨cells ++ us, by rw [List.length_append, hm]; exact hown', ?_, ?_⟩ hgr hat ?_
  · intro k y hy
    rcases Nat.lt_or_ge k nds.length with hk | hk
    · rw [List.getElem?_append_left hk] at hy
      have e : ((cells ++ us).drop (k * 5)).take 5 = (cells.drop (k * 5)).take 5 := by
        rw [List.drop_append_of_le_length (by omega), List.take_append_of_le_length (by rw [List.length_drop]; omega)]
      rw [e]
      exact (h2 k y hy).grown hgr hrow
    · rw [List.getElem?_append_right hk] at hy
      have e : ((cells ++ us).drop (k * 5)).take 5 = (us.drop ((k - nds.length) * 5)).take 5 := by
        rw [List.drop_append, List.drop_of_length_le (by omega), List.nil_append, hcl, show k * 5 - nds.length * 5 = (k - nds.length) * 5 by omega]
      rw [e]
      exact (hnd _ y hy).grown hgr hrow
  · intro g hg
    rcases hat with e | e
    · exact h3 g (by rw [← e]; exact hg)
    · rw [e] at hg
      injection hg with hg
      omega
  · intro w0 hw0
    exact hw0.grown hgr hB h3

/-- 'append(out, x)' of one node: the translation lays x in a new block first -/
theorem wpList_append_node {w : World} {ops : Array Oper} {rest : List Oper} {o : Oper} {a : Act} {Q : Exit → Act → World → Prop} (hgd : o.guard = none) (sx x : Operand)
    (ho : o.op = .call { callee := .builtin .append, args := #[sx, x], argTypes := #[43, 43] })
    (B : Nat) (v : Value) (nds : List T.Nd) (hs : a.eval sx = v) (hown : OwnNd B w v nds) (us : List Value) (nd : T.Nd) (hnd : NdO B w us nd) (p : Nat) (hp : p = w.heap.size)
    (hx : a.eval x = .slice (some ⟨p, 0, none⟩) 1 1) (hn : nds.length ≤ 900000) (hB : B ≤ w.heap.size)
    (h : ∀ v' w', OwnNd B w' v' (nds ++ [nd]) → (w.alloc (.cells us.toArray 63)).grownBy w' v.ownBlock → (∀ w0, Below B w0 w → Below B w0 w') → wpList Tryz.prog ops Q rest (a.put o.dst v') w') :
    wpList Tryz.prog ops Q (o :: rest) a (w.alloc (.cells us.toArray 63)) := by
  subst hp
  have hl : us.length = 5 := by obtain ⟨A, c, rfl, _⟩ := hnd; rfl
  have h1' : ∀ u ∈ us, u.oneCell' = true := by obtain ⟨A, c, rfl, _⟩ := hnd; exact ndC_one _ _ _
  have hba : Below w.heap.size w (w.alloc (.cells us.toArray 63)) := (Below.refl _ _).alloc (Nat.le_refl _) _
  refine wpList_append_nodes hgd sx x ho B v nds hs (hown.below hba) 1 us [nd] rfl (by rw [hl]) ?_ h1' _ 1 hx ?_ (by omega) (by simp; omega) ?_
  · intro k y hy
    cases k with
    | zero =>
      simp at hy
      subst hy
      rw [Nat.zero_mul, List.drop_zero, List.take_of_length_le (by omega)]
      exact hnd.below hba
    | succ k => simp at hy
  · intro j u hu
    refine ⟨_, rfl, ?_⟩
    have hj : j < us.length := (List.getElem?_eq_some_iff.1 hu).1
    unfold Addr.add
    split
    · rename_i e
      subst e
      rw [cell_of_row _ _ _ _ _ (0, 0) (heap_alloc_new w _)]
      simpa using hu
    · simp only [Nat.zero_add]
      rw [cell_of_row _ _ _ _ _ (0, 0) (heap_alloc_new w _)]
      simpa using hu
  · intro v' w' h1 h2 _ h4
    exact h v' w' h1 h2 fun w0 hw0 => h4 w0 (hw0.alloc hB _)
end Go.Proofs.YtcmlmjbpdaecbaaGreat
end
section
namespace Go.Proofs.YtcmlmjbpdaecbaaGreat
open Go.RowKit
set_option linter.unusedVariables false
set_option linter.unusedSimpArgs false

/-- a function value answers p x at x, and turns nothing -/
def Answers (f : FuncId) (caps : Array Value) (p : Int → Bool) (w : World) : Prop := (∀ args W', (callFunc f args).run Tryz.prog W' = .ok (.enter f args) W') ∧ ∀ x, Calls Tryz.prog f (#[.int .i64 x] ++ caps) w fun e w' => e = .returned (.bool (p x)) ∧ w = w'

set_option maxHeartbeats 400000 in
theorem idxF_any (f : FuncId) (caps : Array Value) (p : Int → Bool) (A : Option Addr) (m c : Nat) (xs : List Int) (w : World) (hA : SlAt (IntR .i64) w A m xs) (hf : Answers f caps p w) :
    Calls Tryz.prog 176 #[.slice A m c, .func (.func f) #[] caps] w fun e w' => ∃ r : Int, e = .returned (.int .i64 r) ∧ decide (0 ≤ r) = xs.any p ∧ -1 ≤ r ∧ w = w' := by
  have hl := hA.le
  have HA := Lib.hid hA; clear hA
  have HP := Lib.hid hf.2
  have hen := hf.1
  clear hf
  go_enter Tryz.func176, Tryz.ntmps176
  go_wp2
  go_loop [8] (fun i => ∃ k : Nat, k ≤ m ∧ i = .int .i64 k ∧ Hid ((xs.take k).any p = false)) (fun i => m - (intOf i).toNat)
  case atStart => exact ⟨0, Nat.zero_le _, rfl, rfl⟩
  case round =>
    obtain ⟨k, hk, rfl, HT⟩ := hrel
    by_cases hlt : k < m
    · obtain ⟨x, b, off, u, hx, rfl, _, h1, rfl⟩ := HA.out.at_ hlt
      have con := HP.out x
      have Hx := Lib.hid hx; clear hx
      cases hpx : p x
      · rw [hpx] at con
        have Hcon := Lib.hid con; clear con
        have Hpx := Lib.hid hpx; clear hpx
        go_wp2_with fail
        (with_reducible refine Hcon.out.mono ?_)
        rintro e w' ⟨rfl, rfl⟩
        go_wp2
        go_round
        case rel => exact ⟨k + 1, by omega, by go_num, any_take_step Hx.out HT.out Hpx.out⟩
        case measure => simp [intOf]; omega
      · rw [hpx] at con
        have Hcon := Lib.hid con; clear con
        have Hpx := Lib.hid hpx; clear hpx
        go_wp2_with fail
        (with_reducible refine Hcon.out.mono ?_)
        rintro e w' ⟨rfl, rfl⟩
        go_wp2
        go_ret
        exact ⟨_, rfl, by rw [any_true_at Hx.out Hpx.out]; simp, by omega, rfl⟩
    · go_wp2
      go_ret
      have h3 := HT.out
      rw [take_all HA.out.len (by omega)] at h3
      exact ⟨_, rfl, by rw [h3]; rfl, by omega, rfl⟩

set_option maxHeartbeats 400000 in
theorem hasF_any (f : FuncId) (caps : Array Value) (p : Int → Bool) (A : Option Addr) (m c : Nat) (xs : List Int) (w : World) (hA : SlAt (IntR .i64) w A m xs) (hf : Answers f caps p w) :
    Calls Tryz.prog 158 #[.slice A m c, .func (.func f) #[] caps] w fun e w' => e = .returned (.bool (xs.any p)) ∧ w = w' := by
  have Hcon := Lib.hid (idxF_any f caps p A m c xs w hA hf); clear hA hf
  go_enter Tryz.func158, Tryz.ntmps158
  go_wp2_with fail
  (with_reducible refine Hcon.out.mono ?_)
  rintro e w' ⟨r, rfl, hr, hr1, rfl⟩
  have Hr := Lib.hid hr; clear hr
  go_wp2
  go_ret
  exact ⟨ret_bool (by rw [← Hr.out]), rfl⟩

theorem shapedClo_any (k : Nat) (g : Nat) (w : World) (hc : w.cell? ⟨g, 0, none⟩ = some (.int .i64 (k : Int))) :
    Answers 168 #[.pointer (some ⟨g, 0, none⟩)] (fun a => !(decide (0 ≤ a) && decide (a < k))) w := by
  refine ⟨enters_of Tryz.func168 (by kernel_rfl) rfl, fun x => ?_⟩
  dsimp only
  by_cases h0 : x < 0
  · have q0 : decide (x < 0) = true := by simpa using h0
    have e : (!(decide (0 ≤ x) && decide (x < k))) = true := by simp; omega
    rw [e]
    clear e h0
    simp only [List.append_toArray, List.nil_append, List.cons_append]
    go_enter Tryz.func168, Tryz.ntmps168
    go_wp2
    go_ret
    exact ⟨rfl, rfl⟩
  · have q0 : decide (x < 0) = false := by simpa using h0
    have e : (!(decide (0 ≤ x) && decide (x < k))) = decide ((k : Int) ≤ x) := by
      by_cases h : (k : Int) ≤ x <;> simp [h] <;> omega
    rw [e]
    clear e h0
    simp only [List.append_toArray, List.nil_append, List.cons_append]
    go_enter Tryz.func168, Tryz.ntmps168
    go_wp2
    go_ret
    exact ⟨rfl, rfl⟩
end Go.Proofs.YtcmlmjbpdaecbaaGreat
end
