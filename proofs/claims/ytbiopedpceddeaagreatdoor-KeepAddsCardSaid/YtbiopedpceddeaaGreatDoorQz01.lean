/- Part. -/
import Derived.Test.YtbiopedpceddeaaGreatDoorQz00
import Derived.ChangeSame
import Derived.Deep.Strs
import Derived.Laws.CopyOwn
import Derived.Deep.RegionLaw
import Derived.StillTailTactics
import Derived.Deep.RegionHeld3
import Derived.RangeFuncIn
import Derived.RangeFuncRecord
import Derived.RangeFuncSeq
import Derived.RangeFuncLeaves
import Derived.StillTail
import Derived.OneCell
import Derived.RangeFuncCalls
import Derived.BigGuardPart
import Derived.Laws.StructEq
set_option linter.unusedVariables false
set_option linter.unusedSimpArgs false
set_option maxRecDepth 100000
set_option maxHeartbeats 16000000
namespace Go.Proofs.YtbiopedpceddeaaGreatDoor
section
open Go.ChangeShapes Go.WideShapes Go.ChangeAt Go.RowKit Go.Deep
section
variable {H : Type} {enc : TypeId × Value → H} {P : Program} {W : World}
theorem open_agg3 {r : Reach} {b0 : Nat} {t : TypeId} {f0 f1 f2 : Field} {v : Value} {d : DataW H} {ps : List MemPlace} (ht : P.underlying t = some (.struct #[f0, f1, f2])) (hc : P.cellsOf t = 3) (o0 : f0.offset = 0) (o1 : f1.offset = 1) (o2 : f2.offset = 2) (c0 : P.cellsOf f0.type = 1) (c1 : P.cellsOf f1.type = 1) (c2 : P.cellsOf f2.type = 1)
 (hval : Value.okWide P W r b0 t v) (h : DataW.Trod enc P W 0 (fun _ => true) true t v d ps) :
 ∃ u0 u1 u2 n x0 x1 x2, v = .agg #[u0, u1, u2] ∧ DataW.trod enc P W 0 (fun _ => true) true n f0.type [u0] = some x0 ∧ DataW.trod enc P W 0 (fun _ => true) true n f1.type [u1] = some x1 ∧ DataW.trod enc P W 0 (fun _ => true) true n f2.type [u2] = some x2 := by
 obtain ⟨cs, rfl, hs⟩ := okWide_struct ht hval
 obtain ⟨n, hn⟩ := h
 obtain ⟨y0, y1, y2, m, _, hl, h0, h1, h2⟩ := trod_struct3 ht hn
 rw [hc] at hs
 obtain ⟨l⟩ := cs
 match l, hs with
 | [u0, u1, u2], _ =>
  rw [o0, c0] at h0
  rw [o1, c1] at h1
  rw [o2, c2] at h2
  exact ⟨u0, u1, u2, m, y0, y1, y2, rfl, by simpa [Value.cells] using h0, by simpa [Value.cells] using h1, by simpa [Value.cells] using h2⟩
end
end
section
open Go.ChangeShapes Go.WideShapes Go.ChangeAt Go.RowKit Go.Deep
def WordR (_ : World) (u : Value) (x : Int) : Prop := u = .int .u32 x ∧ 0 ≤ x ∧ x < 4294967296
theorem readsWord {H : Type} {enc : TypeId × Value → H} {P : Program} {W : World} {t : TypeId} (ht : P.underlying t = some (.int .u32)) : ReadsAs enc P W t WordR := by
 intro n u x h
 obtain ⟨m, e, _, hw⟩ := DataW.trod_int ht h
 refine ⟨m, (List.cons.inj e).1, ?_⟩
 simp [Lit.wf, IntKind.min, IntKind.max, IntKind.signed, IntKind.bits] at hw
 omega
end
end Go.Proofs.YtbiopedpceddeaaGreatDoor
section
namespace Go.Proofs.YtbiopedpceddeaaGreatDoor.T
structure Nd where
 op : Int
 w : Int
 fl : Int
 args : List Int
 imm : Int
deriving DecidableEq, Inhabited
def ar (op : Int) : Int := if op = 0 ∨ op = 33 then 0 else if 1 ≤ op ∧ op ≤ 14 then 2 else if op = 15 then 3 else if 16 ≤ op ∧ op ≤ 18 then 1 else -1
def argsOk (k : Nat) (l : List Int) : Bool := l.all fun a => decide (0 ≤ a) && decide (a < k)
def wd (t : List Nd) (x : Nd) (i : Nat) : Int := (t.getD (x.args.getD i 0).toNat default).w
def typed (t : List Nd) (x : Nd) : Bool :=
 if 1 ≤ x.op ∧ x.op ≤ 13 then decide (wd t x 0 = x.w) && decide (wd t x 1 = x.w)
 else if x.op = 14 then decide (wd t x 0 = wd t x 1)
 else if x.op = 15 then decide (wd t x 0 = 1) && decide (wd t x 1 = x.w) && decide (wd t x 2 = x.w)
 else if x.op = 16 ∨ x.op = 17 then decide (wd t x 0 < x.w)
 else if x.op = 18 then decide (x.w < wd t x 0)
 else true
end Go.Proofs.YtbiopedpceddeaaGreatDoor.T
end
section
section
namespace Go.Proofs.YtbiopedpceddeaaGreatDoor
open Go.RowKit
theorem run_slice_to {P : Program} {t e : TypeId} {z : Value} {s bytes : Nat} (ht : P.underlying t = some (.slice e)) (hinfo : (P.info? e).map (fun i => (i.zero, i.size, i.bytes)) = some (some z, s, bytes)) (g off n cap k : Nat) (hk : k ≤ cap) (w : World) :
 (Instr.slice t (.slice (some ⟨g, off, none⟩) n cap) none (some (.int .i64 (k : Int))) none).run P w = .ok (.slice (some ⟨g, off, none⟩) k cap) w := by
 obtain ⟨i, hi, hz, hsz, hby⟩ := info_parts hinfo
 simp [Instr.slice, Instr.sliceBounds, Instr.sliceBound, run_underlying ht, asIntOf, sizeOf, typeInfo, hi, hsz, hk, addr_add_zero]
theorem run_slice_fromN {P : Program} {t e : TypeId} {z : Value} {s bytes : Nat} (ht : P.underlying t = some (.slice e)) (hinfo : (P.info? e).map (fun i => (i.zero, i.size, i.bytes)) = some (some z, s, bytes)) (g off n cap K : Nat) (hk : K ≤ n) (w : World) :
 (Instr.slice t (.slice (some ⟨g, off, none⟩) n cap) (some (.int .i64 (K : Int))) none none).run P w = .ok (.slice (if cap = K then some ⟨g, off, none⟩ else some ⟨g, off + K * s, none⟩) (n - K) (cap - K)) w := by
 obtain ⟨i, hi, hz, hsz, hby⟩ := info_parts hinfo
 simp [Instr.slice, Instr.sliceBounds, Instr.sliceBound, run_underlying ht, asIntOf, sizeOf, typeInfo, hi, hsz, hk]
 by_cases hck : cap = K
 · simp [hck]
 · simp [hck, addr_add_zero]
end Go.Proofs.YtbiopedpceddeaaGreatDoor
end
section
namespace Go.Proofs.YtbiopedpceddeaaGreatDoor
open Go.RowKit
theorem any_take_step {α : Type} {p : α → Bool} {xs : List α} {k : Nat} {x : α} (hx : xs[k]? = some x) (h : (xs.take k).any p = false) (hp : p x = false) : (xs.take (k + 1)).any p = false := by
 rw [take_succ_of hx, List.any_append, h]; simp [hp]
theorem any_true_at {α : Type} {p : α → Bool} {xs : List α} {k : Nat} {x : α} (hx : xs[k]? = some x) (hp : p x = true) : xs.any p = true :=
 List.any_eq_true.2 ⟨x, List.mem_of_getElem? hx, hp⟩
end Go.Proofs.YtbiopedpceddeaaGreatDoor
end
section
namespace Go.Proofs.YtbiopedpceddeaaGreatDoor
open Go.RowKit
end Go.Proofs.YtbiopedpceddeaaGreatDoor
end
section
namespace Go.Proofs.YtbiopedpceddeaaGreatDoor
open Go.RowKit
end Go.Proofs.YtbiopedpceddeaaGreatDoor
end
section
namespace Go.Proofs.YtbiopedpceddeaaGreatDoor.K
end Go.Proofs.YtbiopedpceddeaaGreatDoor.K
end
section
namespace Go.Proofs.YtbiopedpceddeaaGreatDoor
open Go.RowKit
theorem row_alloc {X : World} {g : Nat} {o : Obj} (h : X.heap[g]? = some o) (o' : Obj) : (X.alloc o').heap[g]? = some o := (Below.heap_alloc _ _ _ (gA h).1).trans h
theorem row_step {X Y : World} {g : Nat} {o : Obj} (hb : Hid (Below X.heap.size X Y)) (h : X.heap[g]? = some o) : Y.heap[g]? = some o := (hb.out.block g (gA h).1).trans h
theorem new_two (X : World) (o o' : Obj) : ((X.alloc o).alloc o').heap[X.heap.size + 1]? = some o' := by
 have := heap_alloc_new (X.alloc o) o'
 rwa [World.size_alloc] at this
end Go.Proofs.YtbiopedpceddeaaGreatDoor
end
section
namespace Go.Proofs.YtbiopedpceddeaaGreatDoor
open Go.RowKit
end Go.Proofs.YtbiopedpceddeaaGreatDoor
end
section
namespace Go.Proofs.YtbiopedpceddeaaGreatDoor
open Go.RowKit
end Go.Proofs.YtbiopedpceddeaaGreatDoor
end
end
section
section
namespace Go.Proofs.YtbiopedpceddeaaGreatDoor
open Go.RowKit
structure Kpt (B : Nat) (A A' : World) : Prop where
 size : A.heap.size ≤ A'.heap.size
 block : ∀ k, B ≤ k → k < A.heap.size → A'.heap[k]? = A.heap[k]?
end Go.Proofs.YtbiopedpceddeaaGreatDoor
end
section
namespace Go.Proofs.YtbiopedpceddeaaGreatDoor
open Go Go.RowKit
theorem wp_then {P : Program} {o : Oper} {a : Act} {w : World} {K : Act → World → Prop} {K0 : Act → World → Prop} {Q : Exit → Act → World → Prop} (h : o.wp P a w K (Exit.then K0 Q)) : o.wp P a w K Q := by
 unfold Oper.wp at *
 generalize (execOp a.eval o).run P w = r at *
 cases r with
 | ok n w' =>
  cases n <;> simp only [Oper.upon] at h ⊢ <;>
   first
    | exact h
    | exact Calls.mono h (fun e w'' he => by cases e <;> exact he)
 | halt x w' => cases x <;> simp only [Oper.upon] at h ⊢ <;> exact h
theorem wpAny_more {P : Program} {md : Region.Mode} {ops : Array Oper} {Q : Exit → Act → World → Prop} : ∀ (f : Nat) (listed : Array Bool) (a : Act) (w : World), wpAny P md ops Q f listed a w → wpAny P md ops Q (f + 1) listed a w
 | 0, _, _, _, h => ⟨fun _ => h.2, fun i hi => by rw [h.1] at hi; cases hi⟩
 | f + 1, listed, a, w, h => ⟨h.1, fun i hi => wpOp_mono (fun a' w' h' => wpAny_more f _ a' w' h') (h.2 i hi)⟩
theorem wpAny_plus {P : Program} {md : Region.Mode} {ops : Array Oper} {Q : Exit → Act → World → Prop} {f : Nat} {listed : Array Bool} {a : Act} {w : World} (h : wpAny P md ops Q f listed a w) : ∀ k, wpAny P md ops Q (k + f) listed a w
 | 0 => by rw [Nat.zero_add]; exact h
 | k + 1 => by rw [show k + 1 + f = (k + f) + 1 by omega]; exact wpAny_more _ _ _ _ (wpAny_plus h k)
def lexB (md : Region.Mode) (ops : Array Oper) (n : Nat) : Bool :=
 (List.range n).all fun i => match ops[i]? with
  | some o => o.guard.isNone && o.after.all fun e => !Region.binds md e || decide (e.on < i)
  | none => false
theorem lexB_spec {md : Region.Mode} {ops : Array Oper} {n : Nat} (h : lexB md ops n = true) {i : Nat} (hi : i < n) : ∃ o, ops[i]? = some o ∧ o.guard = none ∧ ∀ e ∈ o.after, Region.binds md e = true → e.on < i := by
 have h1 := List.all_eq_true.1 h i (List.mem_range.2 hi)
 cases ho : ops[i]? with
 | none => rw [ho] at h1; cases h1
 | some o =>
  rw [ho] at h1
  simp only [Bool.and_eq_true, Option.isNone_iff_eq_none] at h1
  refine ⟨o, rfl, h1.1, fun e he hb => ?_⟩
  have h2 := Array.all_eq_true_iff_forall_mem.1 h1.2 e he
  simpa [hb] using h2
def allHead (n m : Nat) : Array Bool := Array.replicate n true ++ Array.replicate m false
theorem split_any {P : Program} {ops ops' : Array Oper} {Q : Exit → Act → World → Prop} {md : Region.Mode} {n : Nat} {tail : List Oper} (hs : Region.sinkB md ops n = true) (hc : Region.chainB md ops n = true) (hn : n < ops.size) (hx : lexB md ops n = true)
 (hsz : ops'.size = n) (hsame : ∀ i, i < n → ops'[i]? = ops[i]?) (htl : ∀ j, tail[j]? = ops[n + j]?) (hseq : Region.seqB md ops tail.length n (allHead n (ops.size - n)) = true) :
 ∀ (f : Nat) (listed' listed : Array Bool) (a : Act) (w : World), listed'.size = n → HeadInv md ops n listed → (∀ k, k < n → ∀ d, listed'.getD k d = listed.getD k d) →
  wpAny P md ops' (Exit.then (fun a w => wpList P ops Q tail a w) Q) f listed' a w → wpAny P md ops Q (f + tail.length) listed a w := by
 have hready : ∀ (listed' listed : Array Bool), listed'.size = n → HeadInv md ops n listed → (∀ k, k < n → ∀ d, listed'.getD k d = listed.getD k d) → ∀ i, i < n → (i ∈ Region.ready md ops listed ↔ i ∈ Region.ready md ops' listed') := by
  intro listed' listed hl hinv hsm i hi
  obtain ⟨o, ho, _, hlt⟩ := lexB_spec hx hi
  rw [mem_ready, mem_ready, hsame i hi, hsm i hi true]
  have key : ∀ e ∈ o.after, Region.binds md e = true → listed'.getD e.on false = listed.getD e.on false := fun e he hb => hsm _ (Nat.lt_trans (hlt e he hb) hi) false
  constructor
  · rintro ⟨h0, o2, ho2, hall⟩
    have : o2 = o := Option.some.inj (ho2.symm.trans ho)
    subst this
    exact ⟨h0, o2, ho2, fun e he hb => (key e he hb).trans (hall e he hb)⟩
  · rintro ⟨h0, o2, ho2, hall⟩
    have : o2 = o := Option.some.inj (ho2.symm.trans ho)
    subst this
    exact ⟨h0, o2, ho2, fun e he hb => (key e he hb).symm.trans (hall e he hb)⟩
 have hlow : ∀ (listed' : Array Bool), Region.ready md ops' listed' = [] → listed'.size = n → ∀ i, i < n → listed'.getD i true = true := by
  intro listed' h0 hl i
  induction i using Nat.strongRecOn with
  | _ i ih =>
   intro hi
   cases hb : listed'.getD i true with
   | true => rfl
   | false =>
    exfalso
    obtain ⟨o, ho, _, hlt⟩ := lexB_spec hx hi
    have : i ∈ Region.ready md ops' listed' := mem_ready.2 ⟨hb, o, (hsame i hi).trans ho, fun e he hb2 => by
     have h1 := hlt e he hb2
     have h2 := ih e.on h1 (by omega)
     have h3 : e.on < listed'.size := by omega
     simp [h3] at h2 ⊢
     exact h2⟩
    rw [h0] at this
    cases this
 have hhead : ∀ (listed' listed : Array Bool), listed'.size = n → HeadInv md ops n listed → (∀ k, k < n → ∀ d, listed'.getD k d = listed.getD k d) → Region.ready md ops' listed' = [] → listed = allHead n (ops.size - n) := by
  intro listed' listed hl hinv hsm h0
  apply Array.ext_getElem?
  intro k
  unfold allHead
  by_cases hk : k < n
  · have h1 := hlow listed' h0 hl k hk
    rw [hsm k hk true] at h1
    have h2 : k < listed.size := by rw [hinv.size]; omega
    rw [Array.getElem?_append_left (by simpa using hk)]
    simp [h2] at h1
    simp [h2, h1, hk]
  · by_cases hk2 : k < ops.size
    · have h1 := hinv.tail k (by omega) hk2
      have h2 : k < listed.size := by rw [hinv.size]; exact hk2
      rw [Array.getElem?_append_right (by simp; omega)]
      simp [h2] at h1
      rw [Array.getElem?_eq_getElem h2, h1, Array.getElem?_replicate, if_pos (by simp; omega)]
    · rw [Array.getElem?_eq_none (by rw [hinv.size]; omega), Array.getElem?_eq_none (by simp; omega)]
 intro f
 induction f with
 | zero =>
  intro listed' listed a w hl hinv hsm h
  obtain ⟨h0, hq⟩ := h
  rw [Nat.zero_add, hhead listed' listed hl hinv hsm h0]
  exact wpAny_of_seq tail n _ a w htl hseq hq
 | succ f ih =>
  intro listed' listed a w hl hinv hsm h
  obtain ⟨hq, hstep⟩ := h
  by_cases h0 : Region.ready md ops' listed' = []
  · rw [hhead listed' listed hl hinv hsm h0]
    exact wpAny_plus (wpAny_of_seq tail n _ a w htl hseq (hq h0)) _
  · obtain ⟨i, hi⟩ : ∃ i, i ∈ Region.ready md ops' listed' := List.exists_mem_of_ne_nil _ h0
    have hin : i < n := by
     obtain ⟨_, o, ho, _⟩ := mem_ready.1 hi
     have := (gA ho).1
     omega
    have hun : listed.getD i true = false := by rw [← hsm i hin true]; exact (mem_ready.1 hi).1
    have hmem : i ∈ Region.ready md ops listed := (hready listed' listed hl hinv hsm i hin).2 hi
    rw [show f + 1 + tail.length = (f + tail.length) + 1 by omega]
    refine ⟨fun h1 => absurd hmem (by rw [h1]; exact List.not_mem_nil), fun j hj => ?_⟩
    have hjn : j < n := by
     rcases Nat.lt_or_ge j n with h2 | h2
     · exact h2
     · exact absurd hj (tail_waits hs hc hn hinv _ i rfl hin hun j h2)
    have hj' := (hready listed' listed hl hinv hsm j hjn).1 hj
    have h2 := hstep j hj'
    obtain ⟨o, ho, hg, _⟩ := lexB_spec hx hjn
    have hw : ∀ ys, Region.wanted o ys = true := fun ys => by simp [Region.wanted, hg]
    unfold wpOp at h2 ⊢
    rw [hsame j hjn, ho] at h2
    rw [ho]
    simp only [hw, if_true] at h2 ⊢
    refine h2.imp (fun h3 => Oper.wp_mono (fun a' w' h4 => ih _ _ a' w' (by simpa using hl) (hinv.set hj hjn) (fun k hk d => ?_) h4) (wp_then h3)) (fun h3 => h3)
    by_cases hjk : j = k
    · subst hjk
      have q1 : j < listed'.size := by omega
      have q2 : j < listed.size := by rw [hinv.size]; omega
      simp [q1, q2]
    · rw [getD_set_ne d hjk, getD_set_ne d hjk]; exact hsm k hk d
def splitB (l : List Oper) (n : Nat) : Bool :=
 decide (n < l.length) && Region.sinkB .any l.toArray n && Region.chainB .any l.toArray n && lexB .any l.toArray n && Region.seqB .any l.toArray (l.length - n) n (allHead n (l.length - n))
theorem wp_region_split {P : Program} {id : Nat} {Q : Exit → Act → World → Prop} {a : Act} {w : World} {l : List Oper} (n : Nat) (hm : P.follows .mixedOrders = true) (hB : splitB l n = true)
 (h : wpAny P .any (l.take n).toArray (Exit.then (fun a w => wpList P l.toArray Q (l.drop n) a w) Q) n (Array.replicate n false) a w.drew) : (Code.region id l.toArray true).wp P Q a w := by
 simp only [splitB, Bool.and_eq_true, decide_eq_true_eq] at hB
 obtain ⟨⟨⟨⟨hn, hs⟩, hc⟩, hx⟩, hq⟩ := hB
 have hn' : n < l.toArray.size := by simpa using hn
 refine wp_region_any hm ?_
 have hdl : (l.drop n).length = l.length - n := by simp
 have H := split_any (P := P) (Q := Q) (ops' := (l.take n).toArray) (tail := l.drop n) hs hc hn' hx (by simp; omega) (fun i hi => by simp [List.getElem?_take, hi]) (fun j => by simp [List.getElem?_drop]) (by rw [hdl]; simpa using hq)
  n (Array.replicate n false) (Array.replicate l.toArray.size false) a w.drew (by simp)
  ⟨by simp, fun j oj _ hl => (by rw [getD_replicate_false] at hl; cases hl), fun t _ ht => getD_in (by simpa using ht) (getD_replicate_false _ _)⟩
  (fun k hk d => by have : k < l.length := by omega
                    simp [hk, this]) h
 rw [hdl, show n + (l.length - n) = l.toArray.size by simp; omega] at H
 exact H
end Go.Proofs.YtbiopedpceddeaaGreatDoor
end
section
namespace Go.Proofs.YtbiopedpceddeaaGreatDoor
open Go.RowKit
section
end
end Go.Proofs.YtbiopedpceddeaaGreatDoor
end
section
namespace Go.Proofs.YtbiopedpceddeaaGreatDoor
open Go.RowKit
def Told (B0 : Nat) (A : World) (J Jx : World → Prop) (e : Ending) (A' : World) : Prop :=
 (e = .returned (.bool true) ∧ J A' ∧ Kpt B0 A A') ∨ (e = .returned (.bool false) ∧ Jx A' ∧ Kpt B0 A A')
end Go.Proofs.YtbiopedpceddeaaGreatDoor
end
section
namespace Go.Proofs.YtbiopedpceddeaaGreatDoor
open Go.RowKit
section
end
section
end
end Go.Proofs.YtbiopedpceddeaaGreatDoor
end
section
namespace Go.Proofs.YtbiopedpceddeaaGreatDoor
open Go.RowKit
end Go.Proofs.YtbiopedpceddeaaGreatDoor
end
section
namespace Go.Proofs.YtbiopedpceddeaaGreatDoor
open Go.RowKit
end Go.Proofs.YtbiopedpceddeaaGreatDoor
end
end
namespace Go.Proofs.YtbiopedpceddeaaGreatDoor
section
open Go.RowKit
def ndC (x : T.Nd) (A : Option Addr) (c : Nat) : List Value := [.int .i64 x.op, .int .i64 x.w, .int .i64 x.fl, .slice A x.args.length c, .int .u32 x.imm]
def NdR (W : World) (us : List Value) (x : T.Nd) : Prop := ∃ A c, us = ndC x A c ∧ SlAt (IntR .i64) W A x.args.length x.args ∧ 0 ≤ x.imm ∧ x.imm < 4294967296
theorem monoNd : MonoL NdR := by
 rintro w w' us x hb ⟨A, c, rfl, h, h2⟩
 exact ⟨A, c, rfl, h.below (monoInt _) hb, h2⟩
theorem ret_ib {a b : Int} {x y : Bool} (h1 : a = b) (h2 : x = y) : Ending.returned (.tuple #[.int .i64 a, .bool x]) = .returned (.tuple #[.int .i64 b, .bool y]) := by rw [h1, h2]
theorem ar_cases (op : Int) : (op = 0 ∧ T.ar op = 0) ∨ (op = 33 ∧ T.ar op = 0) ∨ (1 ≤ op ∧ op ≤ 14 ∧ T.ar op = 2) ∨ (op = 15 ∧ T.ar op = 3) ∨ (16 ≤ op ∧ op ≤ 18 ∧ T.ar op = 1) ∨ (¬ op = 0 ∧ ¬ op = 33 ∧ ¬ (1 ≤ op ∧ op ≤ 14) ∧ ¬ op = 15 ∧ ¬ (16 ≤ op ∧ op ≤ 18) ∧ T.ar op = -1) := by
 unfold T.ar
 by_cases h0 : op = 0
 · exact .inl ⟨h0, by rw [if_pos (.inl h0)]⟩
 by_cases h33 : op = 33
 · exact .inr (.inl ⟨h33, by rw [if_pos (.inr h33)]⟩)
 rw [if_neg (by omega)]
 by_cases h14 : 1 ≤ op ∧ op ≤ 14
 · exact .inr (.inr (.inl ⟨h14.1, h14.2, by rw [if_pos h14]⟩))
 rw [if_neg h14]
 by_cases h15 : op = 15
 · exact .inr (.inr (.inr (.inl ⟨h15, by rw [if_pos h15]⟩)))
 rw [if_neg h15]
 by_cases h18 : 16 ≤ op ∧ op ≤ 18
 · exact .inr (.inr (.inr (.inr (.inl ⟨h18.1, h18.2, by rw [if_pos h18]⟩))))
 rw [if_neg h18]
 exact .inr (.inr (.inr (.inr (.inr ⟨h0, h33, h14, h15, h18, rfl⟩))))
def ndV (x : T.Nd) (A : Option Addr) (c : Nat) : Value := .agg #[.int .i64 x.op, .int .i64 x.w, .int .i64 x.fl, .slice A x.args.length c, .int .u32 x.imm]
end
section
open Go.ChangeShapes Go.WideShapes Go.ChangeAt Go.RowKit Go.Deep
theorem cellsIntN : Tryz.prog.cellsOf 3 = 1 := by kernel_rfl
theorem cellsNode : Tryz.prog.cellsOf 62 = 5 := by kernel_rfl
end
section
namespace T
inductive F where
 | nil
 | cons (op w fl imm : Int) (kids rest : F)
def F.app : F → F → F
 | .nil, g => g
 | .cons op w fl imm kids rest, g => .cons op w fl imm kids (rest.app g)
def F.ht : F → Nat
 | .nil => 0
 | .cons _ _ _ _ kids rest => max (kids.ht + 1) rest.ht
def addN (out : List Nd) (y : Nd) : List Nd × Int := (if y ∈ out then out else out ++ [y], (out.idxOf y : Int))
def cnn : F → List Nd → List Nd × List Int
 | .nil, out => (out, [])
 | .cons op w fl imm kids rest, out =>
  ((cnn rest (addN (cnn kids out).1 ⟨op, w, fl, (cnn kids out).2, imm⟩).1).1,
    (addN (cnn kids out).1 ⟨op, w, fl, (cnn kids out).2, imm⟩).2 :: (cnn rest (addN (cnn kids out).1 ⟨op, w, fl, (cnn kids out).2, imm⟩).1).2)
inductive Rep (t : List Nd) : List Int → F → Prop where
 | nil : Rep t [] .nil
 | cons {a : Int} {la : List Int} {x : Nd} {kids rest : F} (h0 : 0 ≤ a) (hx : t[a.toNat]? = some x) (hk : Rep t x.args kids) (hr : Rep t la rest) : Rep t (a :: la) (.cons x.op x.w x.fl x.imm kids rest)
def Ord (t : List Nd) : Prop := ∀ (k : Nat) (x : Nd), t[k]? = some x → ∀ a ∈ x.args, 0 ≤ a ∧ a < (k : Int)
theorem Rep.mono {t u : List Nd} (h : ∀ (i : Nat) (x : Nd), t[i]? = some x → u[i]? = some x) {la : List Int} {f : F} (r : Rep t la f) : Rep u la f := by
 induction r with
 | nil => exact .nil
 | cons h0 hx _ _ ih1 ih2 => exact .cons h0 (h _ _ hx) ih1 ih2
theorem Rep.det {t : List Nd} {la : List Int} {f g : F} (r : Rep t la f) : Rep t la g → f = g := by
 induction r generalizing g with
 | nil => intro s; cases s; rfl
 | cons h0 hx _ _ ih1 ih2 =>
  intro s
  cases s with
  | cons h0' hx' hk' hr' =>
   rw [hx] at hx'
   cases hx'
   rw [ih1 hk', ih2 hr']
theorem Rep.app {t : List Nd} {la bs : List Int} {f g : F} (r : Rep t la f) (s : Rep t bs g) : Rep t (la ++ bs) (f.app g) := by
 induction r with
 | nil => exact s
 | cons h0 hx hk _ _ ih2 => exact .cons h0 hx hk ih2
theorem Rep.ex {t : List Nd} (ho : Ord t) : ∀ (n : Nat), n ≤ t.length → ∀ (la : List Int), (∀ a ∈ la, 0 ≤ a ∧ a < (n : Int)) → ∃ f, Rep t la f := by
 intro n
 induction n with
 | zero =>
  intro _ la h
  cases la with
  | nil => exact ⟨_, .nil⟩
  | cons a la => have := h a (by simp); omega
 | succ n ih =>
  intro hn la h
  induction la with
  | nil => exact ⟨_, .nil⟩
  | cons a la ih2 =>
   obtain ⟨g, hg⟩ := ih2 (fun b hb => h b (by simp [hb]))
   have ha := h a (by simp)
   have hl : a.toNat < t.length := by omega
   have hx := List.getElem?_eq_getElem hl
   obtain ⟨f, hf⟩ := ih (by omega) (t[a.toNat]).args (fun b hb => by have := ho _ _ hx b hb; omega)
   exact ⟨_, .cons ha.1 hx hf hg⟩
theorem Rep.one {t : List Nd} (ho : Ord t) {k : Nat} (hk : k < t.length) : ∃ f, Rep t [(k : Int)] f := Rep.ex ho (k + 1) hk _ (fun a ha => by simp at ha; omega)
theorem addN_spec {out : List Nd} {y : Nd} (hn : out.Nodup) : out <+: (addN out y).1 ∧ (addN out y).1.Nodup ∧ 0 ≤ (addN out y).2 ∧ (addN out y).2 < (addN out y).1.length ∧ (addN out y).1[(addN out y).2.toNat]? = some y := by
 unfold addN
 by_cases h : y ∈ out
 · rw [if_pos h]
   have hl := List.idxOf_lt_length_of_mem h
   exact ⟨List.prefix_rfl, hn, by omega, by dsimp only; omega, by dsimp only; rw [Int.toNat_natCast, List.getElem?_eq_getElem hl]; simp⟩
 · rw [if_neg h]
   have e : List.idxOf y out = out.length := List.idxOf_eq_length h
   refine ⟨List.prefix_append _ _, ?_, by omega, by dsimp only; rw [e]; simp; omega, by dsimp only; rw [e]; simp⟩
   rw [List.nodup_append]
   exact ⟨hn, by simp, fun a ha b hb => by simp at hb; subst hb; exact fun e => h (e ▸ ha)⟩
theorem addN_ord {out : List Nd} {y : Nd} (ho : Ord out) (hy : ∀ a ∈ y.args, 0 ≤ a ∧ a < (out.length : Int)) : Ord (addN out y).1 := by
 unfold addN
 by_cases h : y ∈ out
 · rw [if_pos h]; exact ho
 · rw [if_neg h]
   intro k x hx a ha
   rcases Nat.lt_or_ge k out.length with hk | hk
   · rw [List.getElem?_append_left hk] at hx; exact ho k x hx a ha
   · rw [List.getElem?_append_right hk] at hx
     have : k - out.length = 0 := by
      rcases Nat.eq_zero_or_pos (k - out.length) with e | e
      · exact e
      · rw [List.getElem?_eq_none (by simp; omega)] at hx; cases hx
     rw [this] at hx
     simp at hx
     subst hx
     have := hy a ha
     omega
theorem pre_at {α : Type} {l m : List α} (h : l <+: m) (i : Nat) (x : α) (hx : l[i]? = some x) : m[i]? = some x := by
 obtain ⟨u, rfl⟩ := h
 rw [List.getElem?_append_left (List.getElem?_eq_some_iff.1 hx).1]
 exact hx
theorem pre_le {α : Type} {l m : List α} (h : l <+: m) : l.length ≤ m.length := h.length_le
theorem idx_at {out : List Nd} (hn : out.Nodup) {a : Nat} {x : Nd} (hx : out[a]? = some x) : x ∈ out ∧ out.idxOf x = a := by
 obtain ⟨hl, e⟩ := List.getElem?_eq_some_iff.1 hx
 refine ⟨List.mem_of_getElem? hx, ?_⟩
 subst e
 exact hn.idxOf_getElem a hl
theorem cnn_stable {out : List Nd} (hn : out.Nodup) {la : List Int} {f : F} (r : Rep out la f) : cnn f out = (out, la) := by
 induction r with
 | nil => rfl
 | @cons a la x kids rest h0 hx _ _ ih1 ih2 =>
  obtain ⟨hm, hi⟩ := idx_at hn hx
  have e : addN out ⟨x.op, x.w, x.fl, x.args, x.imm⟩ = (out, a) := by
   show addN out x = _
   unfold addN
   rw [if_pos hm, hi, Int.toNat_of_nonneg h0]
  simp only [cnn, ih1, e, ih2]
structure Told (out : List Nd) (r : List Nd × List Int) (f : F) : Prop where
 pre : out <+: r.1
 nd : r.1.Nodup
 ord : Ord r.1
 rep : Rep r.1 r.2 f
 lo : ∀ a ∈ r.2, 0 ≤ a ∧ a < (r.1.length : Int)
theorem cnn_told (f : F) : ∀ {out : List Nd}, out.Nodup → Ord out → Told out (cnn f out) f := by
 induction f with
 | nil => intro out hn ho; exact ⟨List.prefix_rfl, hn, ho, .nil, fun a ha => by simp [cnn] at ha⟩
 | cons op w fl imm kids rest ih1 ih2 =>
  intro out hn ho
  obtain ⟨p1, n1, o1, r1, l1⟩ := ih1 hn ho
  simp only [cnn]
  generalize hc1 : cnn kids out = c1 at *
  obtain ⟨p2, n2, z2, l2, g2⟩ := addN_spec (y := ⟨op, w, fl, c1.2, imm⟩) n1
  have o2 := addN_ord (y := ⟨op, w, fl, c1.2, imm⟩) o1 l1
  generalize hc2 : addN c1.1 ⟨op, w, fl, c1.2, imm⟩ = c2 at *
  obtain ⟨p3, n3, o3, r3, l3⟩ := ih2 n2 o2
  generalize hc3 : cnn rest c2.1 = c3 at *
  have hp : c1.1 <+: c3.1 := p2.trans p3
  refine ⟨p1.trans hp, n3, o3, ?_, ?_⟩
  · exact Rep.cons (x := ⟨op, w, fl, c1.2, imm⟩) z2 (pre_at p3 _ _ g2) (r1.mono (pre_at hp)) r3
  · intro a ha
    rcases List.mem_cons.1 ha with rfl | ha
    · have := pre_le p3; dsimp only; omega
    · exact l3 a ha
theorem cnn_app (f g : F) : ∀ (out : List Nd), cnn (f.app g) out = ((cnn g (cnn f out).1).1, (cnn f out).2 ++ (cnn g (cnn f out).1).2) := by
 induction f with
 | nil => intro out; rfl
 | cons op w fl imm kids rest _ ih2 => intro out; simp only [F.app, cnn, ih2]; rfl
def Low (out : List Nd) (h : Nat) : Prop := ∀ (i : Int) (f : F), Rep out [i] f → f.ht ≤ h
theorem ord_nil : Ord [] := fun k x h => by simp at h
theorem low_nil (h : Nat) : Low [] h := fun i f r => by cases r with | cons h0 hx _ _ => simp at hx
theorem Rep.cut {out u : List Nd} (ho : Ord out) {i : Int} {f : F} (hi : i < (out.length : Int)) (r : Rep (out ++ u) [i] f) : Rep out [i] f := by
 have h0 : 0 ≤ i := by cases r with | cons h0 _ _ _ => exact h0
 obtain ⟨g, hg⟩ := Rep.ex ho out.length (Nat.le_refl _) [i] (fun a ha => by simp at ha; omega)
 have := (hg.mono (u := out ++ u) (fun k x hx => pre_at (List.prefix_append _ _) k x hx)).det r
 rw [← this]; exact hg
theorem low_add {out : List Nd} {y : Nd} {h : Nat} {kids : F} (ho : Ord out) (hy : ∀ a ∈ y.args, 0 ≤ a ∧ a < (out.length : Int)) (hk : Rep out y.args kids) (hl : Low out h) : Low (addN out y).1 (max h (kids.ht + 1)) := by
 unfold addN
 by_cases hm : y ∈ out
 · rw [if_pos hm]; intro i f r; have := hl i f r; omega
 · rw [if_neg hm]
   intro i f r
   rcases Int.lt_or_le i out.length with hi | hi
   · have := hl i f (r.cut ho hi); omega
   · cases r with
     | @cons _ _ x kids' rest h0 hx hk' hr =>
      cases hr
      have hi' : i.toNat = out.length := by
       have := (List.getElem?_eq_some_iff.1 hx).1
       simp at this
       omega
      rw [hi'] at hx
      simp at hx
      subst hx
      have e := (hk.mono (u := out ++ [y]) (fun k x hx => pre_at (List.prefix_append _ _) k x hx)).det hk'
      subst e
      simp only [F.ht]
      omega
theorem cnn_low (f : F) : ∀ {out : List Nd} {h : Nat}, out.Nodup → Ord out → Low out h → Low (cnn f out).1 (max h f.ht) := by
 induction f with
 | nil => intro out h _ _ hl i f r; have := hl i f r; omega
 | cons op w fl imm kids rest ih1 ih2 =>
  intro out h hn ho hl
  have t1 := cnn_told kids hn ho
  have l1 := ih1 hn ho hl
  simp only [cnn]
  have s2 := addN_spec (y := ⟨op, w, fl, (cnn kids out).2, imm⟩) t1.nd
  have o2 := addN_ord (y := ⟨op, w, fl, (cnn kids out).2, imm⟩) t1.ord t1.lo
  have l2 := low_add (y := ⟨op, w, fl, (cnn kids out).2, imm⟩) t1.ord t1.lo t1.rep l1
  have l3 := ih2 s2.2.1 o2 l2
  intro i g r
  have := l3 i g r
  simp only [F.ht]
  omega
theorem cnn_last (op w fl imm : Int) (kids : F) : (cnn (.cons op w fl imm kids .nil) []).2 = [((cnn (.cons op w fl imm kids .nil) []).1.length : Int) - 1] ∧ 1 ≤ (cnn (.cons op w fl imm kids .nil) []).1.length := by
 have t1 := cnn_told kids List.nodup_nil ord_nil
 have l1 := cnn_low kids List.nodup_nil ord_nil (low_nil 0)
 simp only [cnn]
 have hm : (⟨op, w, fl, (cnn kids []).2, imm⟩ : Nd) ∉ (cnn kids []).1 := by
  intro hm
  obtain ⟨i, hi⟩ := List.mem_iff_getElem?.1 hm
  have := l1 i _ (Rep.cons (x := ⟨op, w, fl, (cnn kids []).2, imm⟩) (by omega) (by rw [Int.toNat_natCast]; exact hi) t1.rep .nil)
  simp only [F.ht] at this
  omega
 unfold addN
 rw [if_neg hm, List.idxOf_eq_length hm]
 simp
end T
end
section
namespace T
deriving instance DecidableEq for F
def canon (f : F) : List Nd := (cnn f []).1
end T
namespace R
open T (Nd F)
end R
end
section
namespace R
open T (Nd F)
structure Cd where
 kind : Int
 hole : Int
 imm : Int
deriving DecidableEq, Inhabited
structure Rl where
 left : List Nd
 right : List Nd
 pre : List Cd
deriving DecidableEq, Inhabited
def flOk (op fl : Int) : Bool :=
 if op = 1 ∨ op = 2 ∨ op = 3 ∨ op = 11 then decide (0 ≤ fl) && decide (fl ≤ 3)
 else if op = 4 ∨ op = 6 ∨ op = 12 ∨ op = 13 then decide (fl = 0) || decide (fl = 4)
 else decide (fl = 0)
def par (op : Int) : Int := if op = 34 then 0 else if op = 35 then 1 else if 16 ≤ op ∧ op ≤ 18 then -1 else T.ar op
def pimmOk (p : List Nd) (right : Bool) (x : Nd) : Bool :=
 if x.op = 0 then decide (x.w = 0) || B.isW x.w x.imm
 else if x.op = 33 ∨ x.op = 34 then decide (x.w = 0) && decide (x.imm < 2)
 else if x.op = 35 then right && decide (x.w = 0) && decide (x.imm = 0) && decide ((p.getD (x.args.getD 0 0).toNat default).op = 34)
 else if x.op = 14 then decide (x.w = 1) && decide (x.imm ≤ 9)
 else decide (x.imm = 0)
def pnode (p : List Nd) (right : Bool) (k : Nat) (x : Nd) : Bool :=
 decide (0 ≤ par x.op) && decide ((x.args.length : Int) = par x.op) && decide (0 ≤ x.w) && decide (x.w ≤ 32) && flOk x.op x.fl && T.argsOk k x.args && pimmOk p right x
def cdOk (c : Cd) : Bool := decide (0 ≤ c.kind) && decide (c.kind ≤ 4) && decide (0 ≤ c.hole) && decide (c.hole < 2) && (decide (c.kind = 4) || decide (c.imm = 0))
def need1 (p : List Nd) (o : List Bool) (k : Nat) : List Bool := (p.getD k default).args.foldl (fun o a => o.set a.toNat (o.getD a.toNat false || o.getD k false)) o
def need (p : List Nd) : List Bool := (List.range p.length).reverse.foldl (need1 p) ((List.replicate p.length false).set (p.length - 1) true)
def occ (p : List Nd) (op imm : Int) : Bool := (p.zip (need p)).any fun q => q.2 && decide (q.1.op = op) && decide (q.1.imm = imm)
def rootW (p : List Nd) : Int := (p.getD (p.length - 1) default).w
def rvalid (r : Rl) : Int :=
 if r.left.length < 1 ∨ 12 < r.left.length ∨ r.right.length < 1 ∨ 12 < r.right.length ∨ 4 < r.pre.length then 3
 else if ((r.left.zipIdx.all fun q => pnode r.left false q.2 q.1) && (r.right.zipIdx.all fun q => pnode r.right true q.2 q.1)) = false then 1
 else if (r.pre.all cdOk) = false then 1
 else if ((r.left.all (T.typed r.left)) && (r.right.all (T.typed r.right)) && decide (rootW r.left ≤ 1) && decide (rootW r.right = rootW r.left)) = false then 6
 else if ((r.right.all fun x => (!decide (x.op = 33 ∨ x.op = 34)) || occ r.left x.op x.imm) && (r.pre.all fun c => occ r.left 34 c.hole)) = false then 7
 else 0
end R
end
section
namespace R
open T (Nd F)
inductive From (p : List Nd) (la : List Int) : Nat → Prop where
 | here {a : Int} (h : a ∈ la) : From p la a.toNat
 | next {k : Nat} {x : Nd} {a : Int} (h : From p la k) (hx : p[k]? = some x) (ha : a ∈ x.args) : From p la a.toNat
theorem From.sub {p : List Nd} {la bs : List Int} (h : ∀ a ∈ la, From p bs a.toNat) {k : Nat} (r : From p la k) : From p bs k := by
 induction r with
 | here ha => exact h _ ha
 | next _ hx ha ih => exact .next ih hx ha
theorem setTrue {o : List Bool} {a i : Nat} {b : Bool} (ha : a < o.length) : (o.set a (o.getD a false || b)).getD i false = (o.getD i false || (decide (i = a) && b)) := by
 simp only [List.getD_eq_getElem?_getD, List.getElem?_set]
 by_cases h : a = i
 · subst h
   simp [ha]
 · have : ¬ i = a := fun e => h e.symm
   simp [h, this]
theorem need_inner (k : Nat) : ∀ (l : List Int) (o : List Bool), k < o.length → (∀ a ∈ l, 0 ≤ a ∧ a < (k : Int)) →
 (l.foldl (fun o a => o.set a.toNat (o.getD a.toNat false || o.getD k false)) o).length = o.length ∧
 ∀ i, (l.foldl (fun o a => o.set a.toNat (o.getD a.toNat false || o.getD k false)) o).getD i false = (o.getD i false || ((l.any fun a => decide (a.toNat = i)) && o.getD k false)) := by
 intro l
 induction l with
 | nil => intro o _ _; simp
 | cons a l ih =>
  intro o hk hl
  have ha := hl a (by simp)
  have hak : a.toNat < o.length := by omega
  obtain ⟨h1, h2⟩ := ih (o.set a.toNat (o.getD a.toNat false || o.getD k false)) (by simpa using hk) (fun b hb => hl b (by simp [hb]))
  refine ⟨by simp only [List.foldl_cons]; rw [h1]; simp, fun i => ?_⟩
  simp only [List.foldl_cons]
  rw [h2 i, setTrue hak, setTrue hak]
  have hne : decide (k = a.toNat) = false := by simp; omega
  rw [hne]
  simp only [Bool.false_and, Bool.or_false, List.any_cons]
  have : decide (a.toNat = i) = decide (i = a.toNat) := by simp [eq_comm]
  rw [this]
  cases o.getD i false <;> cases decide (i = a.toNat) <;> cases o.getD k false <;> simp
structure NeedI (p : List Nd) (m : Nat) (o : List Bool) : Prop where
 len : o.length = p.length
 sound : ∀ i, o.getD i false = true → From p [((p.length : Int) - 1)] i
 root : o.getD (p.length - 1) false = true
 shut : ∀ k x, m ≤ k → p[k]? = some x → o.getD k false = true → ∀ a ∈ x.args, o.getD a.toNat false = true
theorem need_step {p : List Nd} (ho : T.Ord p) {m : Nat} {o : List Bool} (hm : m < p.length) (h : NeedI p (m + 1) o) : NeedI p m (need1 p o m) := by
 obtain ⟨h1, h2, h3, h4⟩ := h
 have hx := List.getElem?_eq_getElem hm
 have e : p.getD m default = p[m] := by rw [List.getD_eq_getElem?_getD, hx]; rfl
 obtain ⟨g1, g2⟩ := need_inner m (p[m]).args o (by omega) (ho m _ hx)
 unfold need1
 rw [e]
 refine ⟨by rw [g1]; exact h1, ?_, by rw [g2, h3]; rfl, ?_⟩
 · intro i hi
   rw [g2] at hi
   rcases Bool.or_eq_true_iff.1 hi with hi | hi
   · exact h2 i hi
   · obtain ⟨hi1, hi2⟩ := Bool.and_eq_true_iff.1 hi
     obtain ⟨a, ha, hai⟩ := List.any_eq_true.1 hi1
     have : a.toNat = i := by simpa using hai
     rw [← this]
     exact .next (h2 m hi2) hx ha
 · intro k x hk hkx hko a ha
   have hax := ho k x hkx a ha
   rw [g2] at hko
   rw [g2]
   have hkn : (p[m].args.any fun a => decide (a.toNat = k)) = false := by
    rw [List.any_eq_false]
    intro b hb
    have := ho m _ hx b hb
    simp; omega
   rw [hkn] at hko
   simp only [Bool.false_and, Bool.or_false] at hko
   rcases Nat.eq_or_lt_of_le hk with e | e
   · subst e
     rw [hx] at hkx
     cases hkx
     have : (p[m].args.any fun b => decide (b.toNat = a.toNat)) = true := List.any_eq_true.2 ⟨a, ha, by simp⟩
     rw [this, hko]
     simp
   · rw [h4 k x e hkx hko a ha]; rfl
theorem need_spec {p : List Nd} (ho : T.Ord p) (hp : 0 < p.length) : NeedI p 0 (need p) := by
 have start : NeedI p p.length ((List.replicate p.length false).set (p.length - 1) true) := by
  have hg : ∀ i, ((List.replicate p.length false).set (p.length - 1) true).getD i false = decide (i = p.length - 1) := by
   intro i
   simp only [List.getD_eq_getElem?_getD, List.getElem?_set]
   by_cases e : p.length - 1 = i
   · subst e
     have : p.length - 1 < p.length := by omega
     simp [this]
   · have : ¬ i = p.length - 1 := fun h => e h.symm
     simp [e, this, List.getElem?_replicate]
     split <;> rfl
  refine ⟨by simp, ?_, by rw [hg]; simp, ?_⟩
  · intro i hi
    rw [hg] at hi
    have : i = p.length - 1 := by simpa using hi
    have e : ((p.length : Int) - 1).toNat = i := by omega
    rw [← e]
    exact .here (by simp)
  · intro k x hk hkx
    have := (List.getElem?_eq_some_iff.1 hkx).1
    omega
 have go : ∀ (m : Nat), m ≤ p.length → ∀ o, NeedI p m o → NeedI p 0 ((List.range m).reverse.foldl (need1 p) o) := by
  intro m
  induction m with
  | zero => intro _ o h; simpa using h
  | succ m ih =>
   intro hm o h
   rw [List.range_succ, List.reverse_append]
   simp only [List.reverse_cons, List.reverse_nil, List.nil_append, List.singleton_append, List.foldl_cons]
   exact ih (by omega) _ (need_step ho (by omega) h)
 exact go _ (Nat.le_refl _) _ start
theorem need_iff {p : List Nd} (ho : T.Ord p) (hp : 0 < p.length) {k : Nat} : (need p).getD k false = true ↔ From p [((p.length : Int) - 1)] k := by
 have h := need_spec ho hp
 refine ⟨h.sound k, fun r => ?_⟩
 induction r with
 | here ha =>
  simp at ha
  subst ha
  have e : ((p.length : Int) - 1).toNat = p.length - 1 := by omega
  rw [e]; exact h.root
 | next _ hx ha ih => exact h.shut _ _ (Nat.zero_le _) hx ih _ ha
theorem occ_iff {p : List Nd} (ho : T.Ord p) (hp : 0 < p.length) {op imm : Int} : occ p op imm = true ↔ ∃ k x, From p [((p.length : Int) - 1)] k ∧ p[k]? = some x ∧ x.op = op ∧ x.imm = imm := by
 have hl := (need_spec ho hp).len
 unfold occ
 rw [List.any_eq_true]
 constructor
 · rintro ⟨⟨x, b⟩, hm, h⟩
   simp only [Bool.and_eq_true, decide_eq_true_eq] at h
   obtain ⟨k, hk⟩ := List.mem_iff_getElem?.1 hm
   rw [List.getElem?_zip_eq_some] at hk
   refine ⟨k, x, (need_iff ho hp).1 ?_, hk.1, h.1.2, h.2⟩
   rw [List.getD_eq_getElem?_getD, hk.2]
   exact h.1.1
 · rintro ⟨k, x, hr, hx, h1, h2⟩
   have hn := (need_iff ho hp).2 hr
   have hk : k < (need p).length := by rw [hl]; exact (List.getElem?_eq_some_iff.1 hx).1
   refine ⟨(x, true), List.mem_of_getElem? (i := k) ?_, by simp [h1, h2]⟩
   rw [List.getElem?_zip_eq_some]
   refine ⟨hx, ?_⟩
   rw [List.getD_eq_getElem?_getD, List.getElem?_eq_getElem hk] at hn
   rw [List.getElem?_eq_getElem hk]
   simpa using hn
def occF : F → Int → Int → Prop
 | .nil, _, _ => False
 | .cons op _ _ imm kids rest, o, i => (op = o ∧ imm = i) ∨ occF kids o i ∨ occF rest o i
theorem occF_from {p : List Nd} {la : List Int} {f : F} (r : T.Rep p la f) {o i : Int} : occF f o i ↔ ∃ k x, From p la k ∧ p[k]? = some x ∧ x.op = o ∧ x.imm = i := by
 induction r with
 | nil =>
  refine ⟨fun h => h.elim, ?_⟩
  rintro ⟨k, x, h, h'⟩
  exfalso
  clear h'
  induction h with
  | here ha => cases ha
  | next _ _ _ ih => exact ih
 | @cons a la x kids rest h0 hx hk hr ih1 ih2 =>
  simp only [occF]
  constructor
  · rintro (h | h | h)
    · exact ⟨a.toNat, x, .here (by simp), hx, h.1, h.2⟩
    · obtain ⟨k, y, h1, h2⟩ := ih1.1 h
      exact ⟨k, y, h1.sub fun b hb => .next (.here (by simp)) hx hb, h2⟩
    · obtain ⟨k, y, h1, h2⟩ := ih2.1 h
      exact ⟨k, y, h1.sub fun b hb => .here (by simp [hb]), h2⟩
  · rintro ⟨k, y, h1, h2⟩
    have : k = a.toNat ∨ From p x.args k ∨ From p la k := by
     clear h2
     induction h1 with
     | here ha =>
      rcases List.mem_cons.1 ha with rfl | ha
      · exact .inl rfl
      · exact .inr (.inr (.here ha))
     | next _ hy hb ih =>
      rcases ih with rfl | h | h
      · rw [hx] at hy
        cases hy
        exact .inr (.inl (.here hb))
      · exact .inr (.inl (.next h hy hb))
      · exact .inr (.inr (.next h hy hb))
    rcases this with rfl | h | h
    · rw [hx] at h2
      obtain ⟨h2, h3⟩ := h2
      cases h2
      exact .inl h3
    · exact .inr (.inl (ih1.2 ⟨k, y, h, h2⟩))
    · exact .inr (.inr (ih2.2 ⟨k, y, h, h2⟩))
theorem addN_mem {out : List Nd} {y z : Nd} : z ∈ (T.addN out y).1 ↔ z ∈ out ∨ z = y := by
 unfold T.addN
 by_cases h : y ∈ out
 · rw [if_pos h]
   exact ⟨.inl, fun h' => h'.elim id fun e => e ▸ h⟩
 · rw [if_neg h]; simp
theorem cnn_labels (f : F) : ∀ (out : List Nd) (o i : Int), (∃ x ∈ (T.cnn f out).1, x.op = o ∧ x.imm = i) ↔ (∃ x ∈ out, x.op = o ∧ x.imm = i) ∨ occF f o i := by
 induction f with
 | nil => intro out o i; simp [T.cnn, occF]
 | cons op w fl imm kids rest ih1 ih2 =>
  intro out o i
  simp only [T.cnn, occF]
  rw [ih2]
  constructor
  · rintro (⟨x, hx, h⟩ | h)
    · rcases addN_mem.1 hx with hx | rfl
      · rcases (ih1 out o i).1 ⟨x, hx, h⟩ with h | h
        · exact .inl h
        · exact .inr (.inr (.inl h))
      · exact .inr (.inl h)
    · exact .inr (.inr (.inr h))
  · rintro (h | h | h | h)
    · obtain ⟨x, hx, h⟩ := (ih1 out o i).2 (.inl h)
      exact .inl ⟨x, addN_mem.2 (.inl hx), h⟩
    · exact .inl ⟨_, addN_mem.2 (.inr rfl), h⟩
    · obtain ⟨x, hx, h⟩ := (ih1 out o i).2 (.inr h)
      exact .inl ⟨x, addN_mem.2 (.inl hx), h⟩
    · exact .inr h
theorem occ_canon {p : List Nd} (ho : T.Ord p) (hp : 0 < p.length) {f : F} (hf : T.Rep p [((p.length : Int) - 1)] f) (o i : Int) : occ p o i = (T.canon f).any fun x => decide (x.op = o) && decide (x.imm = i) := by
 rw [Bool.eq_iff_iff, occ_iff ho hp, ← occF_from hf, List.any_eq_true]
 have := cnn_labels f [] o i
 simp only [List.not_mem_nil, false_and, exists_false, false_or] at this
 rw [← this]
 simp [T.canon]
end R
end
section
namespace T
structure MkOk (mk : Nd → List Nd → List Nd × Int) : Prop where
 told : ∀ {out : List Nd} {x : Nd}, out.Nodup → Ord out → (∀ a ∈ x.args, 0 ≤ a ∧ a < (out.length : Int)) →
  out <+: (mk x out).1 ∧ (mk x out).1.Nodup ∧ Ord (mk x out).1 ∧ 0 ≤ (mk x out).2 ∧ (mk x out).2 < ((mk x out).1.length : Int)
 again : ∀ {out u : List Nd} {x : Nd}, out.Nodup → Ord out → (∀ a ∈ x.args, 0 ≤ a ∧ a < (out.length : Int)) → (mk x out).1 <+: u → u.Nodup → Ord u → mk x u = (u, (mk x out).2)
def cnnG (mk : Nd → List Nd → List Nd × Int) : F → List Nd → List Nd × List Int
 | .nil, out => (out, [])
 | .cons op w fl imm kids rest, out =>
  ((cnnG mk rest (mk ⟨op, w, fl, (cnnG mk kids out).2, imm⟩ (cnnG mk kids out).1).1).1,
    (mk ⟨op, w, fl, (cnnG mk kids out).2, imm⟩ (cnnG mk kids out).1).2 :: (cnnG mk rest (mk ⟨op, w, fl, (cnnG mk kids out).2, imm⟩ (cnnG mk kids out).1).1).2)
structure ToldG (out : List Nd) (r : List Nd × List Int) : Prop where
 pre : out <+: r.1
 nd : r.1.Nodup
 ord : Ord r.1
 lo : ∀ a ∈ r.2, 0 ≤ a ∧ a < (r.1.length : Int)
section
variable {mk : Nd → List Nd → List Nd × Int}
theorem cnnG_told (ok : MkOk mk) (f : F) : ∀ {out : List Nd}, out.Nodup → Ord out → ToldG out (cnnG mk f out) := by
 induction f with
 | nil => intro out hn ho; exact ⟨List.prefix_rfl, hn, ho, fun a ha => by simp [cnnG] at ha⟩
 | cons op w fl imm kids rest ih1 ih2 =>
  intro out hn ho
  obtain ⟨p1, n1, o1, l1⟩ := ih1 hn ho
  simp only [cnnG]
  generalize hc1 : cnnG mk kids out = c1 at *
  obtain ⟨p2, n2, o2, z2, l2⟩ := ok.told (x := ⟨op, w, fl, c1.2, imm⟩) n1 o1 l1
  generalize hc2 : mk ⟨op, w, fl, c1.2, imm⟩ c1.1 = c2 at *
  obtain ⟨p3, n3, o3, l3⟩ := ih2 n2 o2
  generalize hc3 : cnnG mk rest c2.1 = c3 at *
  refine ⟨(p1.trans p2).trans p3, n3, o3, ?_⟩
  intro a ha
  rcases List.mem_cons.1 ha with rfl | ha
  · have := pre_le p3; dsimp only; omega
  · exact l3 a ha
theorem cnnG_again (ok : MkOk mk) (f : F) : ∀ {out u : List Nd}, out.Nodup → Ord out → (cnnG mk f out).1 <+: u → u.Nodup → Ord u → cnnG mk f u = (u, (cnnG mk f out).2) := by
 induction f with
 | nil => intro out u _ _ _ _ _; rfl
 | cons op w fl imm kids rest ih1 ih2 =>
  intro out u hn ho hp hu ou
  have t1 := cnnG_told ok kids hn ho
  simp only [cnnG] at hp ⊢
  have t2 := ok.told (x := ⟨op, w, fl, (cnnG mk kids out).2, imm⟩) t1.nd t1.ord t1.lo
  have t3 := cnnG_told ok rest t2.2.1 t2.2.2.1
  have e1 := ih1 hn ho (t2.1.trans (t3.pre.trans hp)) hu ou
  have e2 := ok.again (x := ⟨op, w, fl, (cnnG mk kids out).2, imm⟩) t1.nd t1.ord t1.lo (t3.pre.trans hp) hu ou
  have e3 := ih2 t2.2.1 t2.2.2.1 hp hu ou
  rw [e1]
  simp only [e2, e3]
theorem cnnG_app (f g : F) : ∀ (out : List Nd), cnnG mk (f.app g) out = ((cnnG mk g (cnnG mk f out).1).1, (cnnG mk f out).2 ++ (cnnG mk g (cnnG mk f out).1).2) := by
 induction f with
 | nil => intro out; rfl
 | cons op w fl imm kids rest _ ih2 => intro out; simp only [F.app, cnnG, ih2]; rfl
end
def mkA (x : Nd) (out : List Nd) : List Nd × Int := addN out x
theorem cnnG_A (f : F) : ∀ (out : List Nd), cnnG mkA f out = cnn f out := by
 induction f with
 | nil => intro out; rfl
 | cons op w fl imm kids rest ih1 ih2 => intro out; simp only [cnnG, cnn, ih1, ih2, mkA]
theorem addN_again {out u : List Nd} {y : Nd} (hn : out.Nodup) (hp : (addN out y).1 <+: u) (hu : u.Nodup) : addN u y = (u, (addN out y).2) := by
 obtain ⟨_, _, h0, _, hy⟩ := addN_spec (y := y) hn
 have hy := pre_at hp _ _ hy
 obtain ⟨hm, hi⟩ := idx_at hu hy
 unfold addN at hi h0 ⊢
 rw [if_pos hm, hi, Int.toNat_of_nonneg h0]
theorem mkA_ok : MkOk mkA := by
 constructor
 · intro out x hn ho hx
   obtain ⟨h1, h2, h3, h4, _⟩ := addN_spec (y := x) hn
   exact ⟨h1, h2, addN_ord ho hx, h3, h4⟩
 · intro out u x hn ho hx hp hu _
   exact addN_again hn hp hu
theorem cnn_again (f : F) {out u : List Nd} (hn : out.Nodup) (ho : Ord out) (hp : (cnn f out).1 <+: u) (hu : u.Nodup) (ou : Ord u) : cnn f u = (u, (cnn f out).2) := by
 rw [← cnnG_A, ← cnnG_A] at *
 exact cnnG_again mkA_ok f hn ho hp hu ou
end T
namespace R
open T (Nd F)
end R
end
section
open Go.RowKit
def Answers (f : FuncId) (caps : Array Value) (p : Int → Bool) (w : World) : Prop := (∀ args W', (callFunc f args).run Tryz.prog W' = .ok (.enter f args) W') ∧ ∀ x, Calls Tryz.prog f (#[.int .i64 x] ++ caps) w fun e w' => e = .returned (.bool (p x)) ∧ w = w'
theorem idxF_any (f : FuncId) (caps : Array Value) (p : Int → Bool) (A : Option Addr) (m c : Nat) (xs : List Int) (w : World) (hA : SlAt (IntR .i64) w A m xs) (hf : Answers f caps p w) :
 Calls Tryz.prog 245 #[.slice A m c, .func (.func f) #[] caps] w fun e w' => ∃ r : Int, e = .returned (.int .i64 r) ∧ decide (0 ≤ r) = xs.any p ∧ -1 ≤ r ∧ w = w' := by
 have hl := hA.le
 have HA := kH hA; clear hA
 have HP := kH hf.2
 have hen := hf.1
 clear hf
 go_enter Tryz.func245, Tryz.ntmps245
 go_wp2
 go_loop [8] (fun i => ∃ k : Nat, k ≤ m ∧ i = .int .i64 k ∧ Hid ((xs.take k).any p = false)) (fun i => m - (intOf i).toNat)
 case atStart => exact ⟨0, Nat.zero_le _, rfl, rfl⟩
 case round =>
  obtain ⟨k, hk, rfl, HT⟩ := hrel
  by_cases hlt : k < m
  · obtain ⟨x, b, off, u, hx, rfl, _, h1, rfl⟩ := HA.out.at_ hlt
    have con := HP.out x
    have Hx := kH hx; clear hx
    cases hpx : p x
    · rw [hpx] at con
      have Hcon := kH con; clear con
      have Hpx := kH hpx; clear hpx
      go_wp2_with fail
      (with_reducible refine Hcon.out.mono ?_)
      rintro e w' ⟨rfl, rfl⟩
      go_wp2
      go_round
      case rel => exact ⟨k + 1, by omega, by go_num, any_take_step Hx.out HT.out Hpx.out⟩
      case measure => simp [intOf]; omega
    · rw [hpx] at con
      have Hcon := kH con; clear con
      have Hpx := kH hpx; clear hpx
      go_wp2_with fail
      (with_reducible refine Hcon.out.mono ?_)
      rintro e w' ⟨rfl, rfl⟩
      go_wp2
      go_ret
      exact ⟨_, rfl, by rw [any_true_at Hx.out Hpx.out]; simp, by omega, rfl⟩
  · go_wp2
    go_ret
    have h3 := HT.out
    rw [take_all HA.out.len (by omega)] at h3
    exact ⟨_, rfl, by rw [h3]; rfl, by omega, rfl⟩
theorem hasF_any (f : FuncId) (caps : Array Value) (p : Int → Bool) (A : Option Addr) (m c : Nat) (xs : List Int) (w : World) (hA : SlAt (IntR .i64) w A m xs) (hf : Answers f caps p w) :
 Calls Tryz.prog 194 #[.slice A m c, .func (.func f) #[] caps] w fun e w' => e = .returned (.bool (xs.any p)) ∧ w = w' := by
 have Hcon := kH (idxF_any f caps p A m c xs w hA hf); clear hA hf
 go_enter Tryz.func194, Tryz.ntmps194
 go_wp2_with fail
 (with_reducible refine Hcon.out.mono ?_)
 rintro e w' ⟨r, rfl, hr, hr1, rfl⟩
 have Hr := kH hr; clear hr
 go_wp2
 go_ret
 exact ⟨ret_bool (by rw [← Hr.out]), rfl⟩
end
section
open Go.RowKit
theorem argsOk_any (k : Nat) (l : List Int) : T.argsOk k l = !(l.any fun a => !(decide (0 ≤ a) && decide (a < k))) := by
 unfold T.argsOk
 rw [List.not_any_eq_all_not]
 congr 1
 funext a
 simp
end
section
open Go.RowKit
theorem nd_cells {W : World} {At : Option Addr} {n : Nat} {t : List T.Nd} (h : StAt 5 NdR W At n t) {j : Nat} (hj : j < n) : ∃ x b off A c, t[j]? = some x ∧ At = some ⟨b, off, none⟩ ∧ b < W.heap.size ∧
 W.cell? ⟨b, off + j * 5, none⟩ = some (.int .i64 x.op) ∧ W.cell? ⟨b, off + j * 5 + 1, none⟩ = some (.int .i64 x.w) ∧ W.cell? ⟨b, off + j * 5 + 2, none⟩ = some (.int .i64 x.fl) ∧ W.cell? ⟨b, off + j * 5 + 3, none⟩ = some (.slice A x.args.length c) ∧ W.cell? ⟨b, off + j * 5 + 4, none⟩ = some (.int .u32 x.imm) ∧
 SlAt (IntR .i64) W A x.args.length x.args ∧ 0 ≤ x.imm ∧ x.imm < 4294967296 := by
 obtain ⟨x, b, off, us, hx, hA, hb, _, hc, A, c, rfl, hs, h1, h2⟩ := h.at_ hj
 refine ⟨x, b, off, A, c, hx, hA, hb, ?_, ?_, ?_, ?_, ?_, hs, h1, h2⟩
 · have := hc 0 _ rfl; rwa [Nat.add_zero] at this
 · exact hc 1 _ rfl
 · exact hc 2 _ rfl
 · exact hc 3 _ rfl
 · exact hc 4 _ rfl
theorem getD_of {α : Type} {l : List α} {j : Nat} {x d : α} (h : l[j]? = some x) : l.getD j d = x := by rw [List.getD_eq_getElem?_getD, h]; rfl
theorem typed_cases (op : Int) : (1 ≤ op ∧ op ≤ 13) ∨ op = 14 ∨ op = 15 ∨ op = 16 ∨ op = 17 ∨ op = 18 ∨ (¬ (1 ≤ op ∧ op ≤ 13) ∧ op ≠ 14 ∧ op ≠ 15 ∧ op ≠ 16 ∧ op ≠ 17 ∧ op ≠ 18) := by omega
theorem typed_13 {t : List T.Nd} {x : T.Nd} (h : 1 ≤ x.op ∧ x.op ≤ 13) : T.typed t x = (decide (T.wd t x 0 = x.w) && decide (T.wd t x 1 = x.w)) := by unfold T.typed; rw [if_pos h]
theorem typed_14 {t : List T.Nd} {x : T.Nd} (h : x.op = 14) : T.typed t x = decide (T.wd t x 0 = T.wd t x 1) := by unfold T.typed; rw [if_neg (by omega), if_pos h]
theorem typed_15 {t : List T.Nd} {x : T.Nd} (h : x.op = 15) : T.typed t x = (decide (T.wd t x 0 = 1) && decide (T.wd t x 1 = x.w) && decide (T.wd t x 2 = x.w)) := by unfold T.typed; rw [if_neg (by omega), if_neg (by omega), if_pos h]
theorem typed_16 {t : List T.Nd} {x : T.Nd} (h : x.op = 16 ∨ x.op = 17) : T.typed t x = decide (T.wd t x 0 < x.w) := by unfold T.typed; rw [if_neg (by omega), if_neg (by omega), if_neg (by omega), if_pos h]
theorem typed_18 {t : List T.Nd} {x : T.Nd} (h : x.op = 18) : T.typed t x = decide (x.w < T.wd t x 0) := by unfold T.typed; rw [if_neg (by omega), if_neg (by omega), if_neg (by omega), if_neg (by omega), if_pos h]
theorem typed_else {t : List T.Nd} {x : T.Nd} (h : ¬ (1 ≤ x.op ∧ x.op ≤ 13) ∧ x.op ≠ 14 ∧ x.op ≠ 15 ∧ x.op ≠ 16 ∧ x.op ≠ 17 ∧ x.op ≠ 18) : T.typed t x = true := by
 unfold T.typed; rw [if_neg h.1, if_neg h.2.1, if_neg h.2.2.1, if_neg (by omega), if_neg h.2.2.2.2.2]
end
section
open Go.RowKit
def wdL (t : List T.Nd) (l : List Int) : List Int := l.map fun a => (t.getD a.toNat default).w
theorem wdL_at {t : List T.Nd} {x : T.Nd} {i : Nat} (h : i < x.args.length) : (wdL t x.args)[i]? = some (T.wd t x i) := by
 unfold wdL T.wd
 rw [List.getElem?_map, List.getElem?_eq_getElem h, show x.args.getD i 0 = x.args[i] from getD_of (List.getElem?_eq_getElem h)]; rfl
theorem rTyped_any (t : List T.Nd) (x : T.Nd) (n ct : Nat) (At A : Option Addr) (c : Nat) (W : World) (hT : StAt 5 NdR W At n t) (hA : SlAt (IntR .i64) W A x.args.length x.args) (hlen : (x.args.length : Int) = T.ar x.op) (har : 0 ≤ T.ar x.op) (harg : ∀ a ∈ x.args, 0 ≤ a ∧ a < (n : Int)) :
 Calls Tryz.prog 132 #[.slice At n ct, ndV x A c] W fun e w' => e = .returned (.bool (T.typed t x)) ∧ Below W.heap.size W w' := by
 obtain ⟨W1, hW1⟩ : ∃ W1, W1 = W.alloc (.cells #[.int .i64 x.op, .int .i64 x.w, .int .i64 x.fl, .slice A x.args.length c, .int .u32 x.imm] 62) := ⟨_, rfl⟩
 have hB1 : Below W.heap.size W W1 := by rw [hW1]; exact al0
 have hr1 : W1.heap[W.heap.size]? = some (.cells #[.int .i64 x.op, .int .i64 x.w, .int .i64 x.fl, .slice A x.args.length c, .int .u32 x.imm] 62 (0, 0)) := by rw [hW1]; exact heap_alloc_new W _
 have hs1 : W1.heap.size = W.heap.size + 1 := by rw [hW1]; simp
 have HX := kH (show ∀ Y : World, Below W1.heap.size W1 Y → Y.cell? ⟨W.heap.size, 0, none⟩ = some (.int .i64 x.op) ∧ Y.cell? ⟨W.heap.size, 1, none⟩ = some (.int .i64 x.w) ∧ Y.cell? ⟨W.heap.size, 3, none⟩ = some (.slice A x.args.length c) from fun Y hY => by
  have h1 := row_step (kH hY) hr1
  refine ⟨?_, ?_, ?_⟩
  all_goals rw [cell_of_row _ _ _ _ _ (0, 0) h1]; rfl)
 have HT := kH (hT.below monoNd hB1)
 have HA := kH (hA.below (monoInt _) hB1)
 have HB1 := kH hB1
 have Hs1 := kH hs1
 have Harg := kH harg
 have hle := hT.le
 have hle2 := hA.le
 have hm3 : x.args.length ≤ 3 := by
  rcases ar_cases x.op with h | h | h | h | h | h <;> omega
 have HF : Hid (∀ s, s = T.typed t x → s = T.typed t x) := fun s h => h
 obtain ⟨sh, hsh⟩ : ∃ sh, sh = T.typed t x := ⟨_, rfl⟩
 rw [← hsh]
 have Hsh := kH hsh
 have Hlen := kH hlen
 have Har := kH har
 have HWd := kH (fun i (h : i < x.args.length) => wdL_at (t := t) h)
 obtain ⟨Wd, hWd⟩ : ∃ Wd : Nat → Int, Wd = T.wd t x := ⟨_, rfl⟩
 have HWde := kH hWd
 rw [← hWd] at HWd
 clear hT hA hB1 hr1 hs1 hsh HF hlen har harg hWd
 rw [show ndV x A c = .agg #[.int .i64 x.op, .int .i64 x.w, .int .i64 x.fl, .slice A x.args.length c, .int .u32 x.imm] from rfl]
 obtain ⟨x0, x1, x3⟩ := HX.out W1 (Below.refl _ _)
 obtain ⟨xs, hxs⟩ : ∃ xs, xs = x.args := ⟨_, rfl⟩
 rw [← hxs] at HX HA Harg HWd hle2 hm3 Hlen hW1 x3 ⊢
 have Hxs := kH hxs
 clear hxs
 generalize hm : xs.length = m at HX HA HWd hle2 hm3 Hlen hW1 x3 ⊢
 have Hm := kH hm
 clear hm
 go_enter Tryz.func132, Tryz.ntmps132
 rw [hW1] at x0 x1 x3
 go_wp2
 rw [← hW1] at x0 x1 x3 ⊢
 clear hW1 x0 x1 x3
 go_loopg [5, 6] (m + 1) (fun g v i wr => ∃ (j : Nat), j ≤ m ∧ i = .int .i64 (j : Int) ∧ g + j = m + 1 ∧ OwnAt wr 3 1 v j (((wdL t xs).take j).map (Value.int .i64)) ∧ Below W1.heap.size W1 wr ∧ (∀ g, v.ownBlock = some g → W1.heap.size ≤ g))
 case atStart => exact ⟨0, Nat.zero_le _, rfl, rfl, OwnAt.nil_ _ _ _, Below.refl _ _, fun g hg => by simp [Value.ownBlock] at hg⟩
 case round =>
  obtain ⟨j, hj, rfl, hgk, hown, hbw, hob⟩ := hrel
  have Hgk := kH hgk; clear hgk
  have Hown := kH hown; clear hown
  have Hob := kH hob; clear hob
  obtain ⟨x0, x1, x3⟩ := HX.out wr hbw
  by_cases hlt : j < m
  · obtain ⟨y, b, off, u, hy, rfl, hb, hc, hu⟩ := (HA.out.below (monoInt _) hbw).at_ hlt
    have hu' : u = .int .i64 y := hu
    subst hu'
    have hay := Harg.out y (List.mem_of_getElem? hy)
    obtain ⟨p, rfl⟩ : ∃ p : Nat, y = p := ⟨y.toNat, by omega⟩
    have hp : p < n := by omega
    obtain ⟨z, b2, off2, A2, c2, hz, rfl, _, _, hw2, _⟩ := nd_cells (HT.out.below monoNd hbw) (j := p) hp
    have Hz := kH (show (wdL t xs)[j]? = some z.w from by unfold wdL; rw [List.getElem?_map, hy]; simp only [Option.map_some, Int.toNat_natCast]; rw [getD_of hz])
    obtain ⟨zw, hzw⟩ : ∃ zw, zw = z.w := ⟨_, rfl⟩
    rw [← hzw] at Hz hw2
    have Hbw := kH hbw
    clear hy hu hz hzw hay hbw hb
    go_wp2_with (at_builtin; refine wpList_append_one' rfl (.tmp 14) (.tmp 24) 60 rfl 3 (.int .i64 0) 8 Tryz.underlying60 infoInt rfl _ j _ rfl Hown.out (.int .i64 zw) rfl 3 wr.heap.size rfl rfl (by omega) (by omega) ?_; intro v' w3 hown' hgr hat)
    have Hown' := kH (show OwnAt w3 3 1 v' (j + 1) (((wdL t xs).take (j + 1)).map (Value.int .i64)) from by rw [K.take_succ_at Hz.out, List.map_append]; exact hown')
    obtain ⟨hb3, hv3⟩ := below_append Hbw.out Hbw.out.size Hob.out hgr hat
    have Hv3 := kH hv3
    have Hb3 := kH hb3
    clear hown' hgr hat hb3 hv3 x0 x1 x3
    go_wp2
    go_roundg (gk - 1)
    case measure => have := Hgk.out; omega
    case rel => have := Hgk.out; exact ⟨j + 1, by omega, by go_num, by omega, Hown'.out, Hb3.out, Hv3.out⟩
  · obtain rfl : j = m := by omega
    have hwl : (wdL t xs).length = j := by unfold wdL; rw [List.length_map]; exact Hm.out
    have hown := Hown.out
    rw [List.take_of_length_le (by omega)] at hown
    have Hb9 := kH (HB1.out.trans (hbw.mono (by have := Hs1.out; omega)))
    obtain ⟨Av, cv, hv⟩ := hown.form
    subst hv
    have HL := kH (show ∀ i, i < j → ∃ g off, Av = some ⟨g, off, none⟩ ∧ wr.cell? ⟨g, off + i, none⟩ = some (.int .i64 (Wd i)) from fun i hi => by
     obtain ⟨y, g, off, u, hy, hA, _, hc, hu⟩ := hown.slInts.at_ hi
     have hu' : u = .int .i64 y := hu
     subst hu'
     rw [HWd.out i hi] at hy
     cases hy
     exact ⟨g, off, hA, hc⟩)
    clear hown hwl hbw Hown Hob
    rcases typed_cases x.op with h | h | h | h | h | h | h
    · have hj2 : (j : Int) = 2 := by rw [Hlen.out]; unfold T.ar; rw [if_neg (by omega), if_pos (by omega)]
      have hjn : j = 2 := by omega
      subst hjn
      clear hj2
      have hop0 : (x.op == 0) = false := by simp; omega
      have hop1 : (x.op == 33) = false := by simp; omega
      have hop14 : (x.op == 14) = false := by simp; omega
      have hop15 : (x.op == 15) = false := by simp; omega
      have hop16 : (x.op == 16) = false := by simp; omega
      have hop17 : (x.op == 17) = false := by simp; omega
      have hop18 : (x.op == 18) = false := by simp; omega
      obtain ⟨g, off, hAv, l0⟩ := HL.out 0 (by omega)
      rw [Nat.add_zero] at l0
      obtain ⟨g1, off1, hA1, l1⟩ := HL.out 1 (by omega)
      rw [hAv] at hA1
      injection hA1 with hA1
      injection hA1 with e1 e2
      subst e1 e2
      subst hAv
      obtain ⟨a0, ha0⟩ : ∃ a0, a0 = Wd 0 := ⟨_, rfl⟩
      rw [← ha0] at l0
      obtain ⟨a1, ha1⟩ : ∃ a1, a1 = Wd 1 := ⟨_, rfl⟩
      rw [← ha1] at l1
      have h9 := Hsh.out
      rw [typed_13 h, ← HWde.out, ← ha0, ← ha1] at h9
      clear ha0 ha1
      clear h
      by_cases e0 : a0 = x.w
      · have z0 : (a0 == x.w) = true := by simpa using e0
        have Hf := kH (show sh = (a1 == x.w) from by rw [h9, decide_eq_true e0, Bool.true_and]; by_cases h : a1 = x.w <;> simp [h])
        clear e0 h9
        go_wp2
        go_quiet (fail)
        go_wp2
        go_ret
        exact ⟨ret_bool Hf.out.symm, Hb9.out.dr ⟨_, rfl⟩⟩
      · have z0 : (a0 == x.w) = false := by simpa using e0
        have Hf := kH (show sh = false from by rw [h9, decide_eq_false e0, Bool.false_and])
        clear e0 h9
        go_wp2
        go_quiet (fail)
        go_wp2
        go_ret
        exact ⟨ret_bool Hf.out.symm, Hb9.out.dr ⟨_, rfl⟩⟩
    · have hj2 : (j : Int) = 2 := by rw [Hlen.out]; unfold T.ar; rw [if_neg (by omega), if_pos (by omega)]
      have hjn : j = 2 := by omega
      subst hjn
      clear hj2
      have hop0 : (x.op == 0) = false := by simp; omega
      have hop1 : (x.op == 33) = false := by simp; omega
      have hop14 : (x.op == 14) = true := by simp; omega
      obtain ⟨g, off, hAv, l0⟩ := HL.out 0 (by omega)
      rw [Nat.add_zero] at l0
      obtain ⟨g1, off1, hA1, l1⟩ := HL.out 1 (by omega)
      rw [hAv] at hA1
      injection hA1 with hA1
      injection hA1 with e1 e2
      subst e1 e2
      subst hAv
      obtain ⟨a0, ha0⟩ : ∃ a0, a0 = Wd 0 := ⟨_, rfl⟩
      rw [← ha0] at l0
      obtain ⟨a1, ha1⟩ : ∃ a1, a1 = Wd 1 := ⟨_, rfl⟩
      rw [← ha1] at l1
      have h9 := Hsh.out
      rw [typed_14 h, ← HWde.out, ← ha0, ← ha1] at h9
      clear ha0 ha1
      have Hf := kH (show sh = (a0 == a1) from by rw [h9]; by_cases h : a0 = a1 <;> simp [h])
      clear h h9
      go_wp2
      go_quiet (fail)
      go_wp2
      go_ret
      exact ⟨ret_bool Hf.out.symm, Hb9.out.dr ⟨_, rfl⟩⟩
    · have hj3 : (j : Int) = 3 := by rw [Hlen.out]; unfold T.ar; rw [if_neg (by omega), if_neg (by omega), if_pos (by omega)]
      have hjn : j = 3 := by omega
      subst hjn
      clear hj3
      have hop0 : (x.op == 0) = false := by simp; omega
      have hop1 : (x.op == 33) = false := by simp; omega
      have hop14 : (x.op == 14) = false := by simp; omega
      have hop15 : (x.op == 15) = true := by simp; omega
      obtain ⟨g, off, hAv, l0⟩ := HL.out 0 (by omega)
      rw [Nat.add_zero] at l0
      obtain ⟨g1, off1, hA1, l1⟩ := HL.out 1 (by omega)
      rw [hAv] at hA1
      injection hA1 with hA1
      injection hA1 with e1 e2
      subst e1 e2
      obtain ⟨g2, off2, hA2, l2⟩ := HL.out 2 (by omega)
      rw [hAv] at hA2
      injection hA2 with hA2
      injection hA2 with e1 e2
      subst e1 e2
      subst hAv
      obtain ⟨a0, ha0⟩ : ∃ a0, a0 = Wd 0 := ⟨_, rfl⟩
      rw [← ha0] at l0
      obtain ⟨a1, ha1⟩ : ∃ a1, a1 = Wd 1 := ⟨_, rfl⟩
      rw [← ha1] at l1
      obtain ⟨a2, ha2⟩ : ∃ a2, a2 = Wd 2 := ⟨_, rfl⟩
      rw [← ha2] at l2
      have h9 := Hsh.out
      rw [typed_15 h, ← HWde.out, ← ha0, ← ha1, ← ha2] at h9
      clear ha0 ha1 ha2
      clear h
      by_cases e0 : a0 = 1
      · have z0 : (a0 == 1) = true := by simpa using e0
        by_cases e1 : a1 = x.w
        · have z1 : (a1 == x.w) = true := by simpa using e1
          have Hf := kH (show sh = (a2 == x.w) from by rw [h9, decide_eq_true e0, decide_eq_true e1, Bool.true_and, Bool.true_and]; by_cases h : a2 = x.w <;> simp [h])
          clear e0 e1 h9
          go_wp2
          go_quiet (fail)
          go_wp2
          go_ret
          exact ⟨ret_bool Hf.out.symm, Hb9.out.dr ⟨_, rfl⟩⟩
        · have z1 : (a1 == x.w) = false := by simpa using e1
          have Hf := kH (show sh = false from by rw [h9, decide_eq_false e1, Bool.and_false, Bool.false_and])
          clear e0 e1 h9
          go_wp2
          go_quiet (fail)
          go_wp2
          go_ret
          exact ⟨ret_bool Hf.out.symm, Hb9.out.dr ⟨_, rfl⟩⟩
      · have z0 : (a0 == 1) = false := by simpa using e0
        have Hf := kH (show sh = false from by rw [h9, decide_eq_false e0, Bool.false_and, Bool.false_and])
        clear e0 h9
        go_wp2
        go_quiet (fail)
        go_wp2
        go_ret
        exact ⟨ret_bool Hf.out.symm, Hb9.out.dr ⟨_, rfl⟩⟩
    · have hj1 : (j : Int) = 1 := by rw [Hlen.out]; unfold T.ar; rw [if_neg (by omega), if_neg (by omega), if_neg (by omega), if_pos (by omega)]
      have hjn : j = 1 := by omega
      subst hjn
      clear hj1
      have hop0 : (x.op == 0) = false := by simp; omega
      have hop1 : (x.op == 33) = false := by simp; omega
      have hop14 : (x.op == 14) = false := by simp; omega
      have hop15 : (x.op == 15) = false := by simp; omega
      have hop16 : (x.op == 16) = true := by simp; omega
      obtain ⟨g, off, hAv, l0⟩ := HL.out 0 (by omega)
      rw [Nat.add_zero] at l0
      subst hAv
      obtain ⟨a0, ha0⟩ : ∃ a0, a0 = Wd 0 := ⟨_, rfl⟩
      rw [← ha0] at l0
      have h9 := Hsh.out
      rw [typed_16 (.inl h), ← HWde.out, ← ha0] at h9
      clear ha0
      have Hf := kH (show sh = decide (a0 < x.w) from h9)
      clear h h9
      go_wp2
      go_quiet (fail)
      go_wp2
      go_ret
      exact ⟨ret_bool Hf.out.symm, Hb9.out.dr ⟨_, rfl⟩⟩
    · have hj1 : (j : Int) = 1 := by rw [Hlen.out]; unfold T.ar; rw [if_neg (by omega), if_neg (by omega), if_neg (by omega), if_pos (by omega)]
      have hjn : j = 1 := by omega
      subst hjn
      clear hj1
      have hop0 : (x.op == 0) = false := by simp; omega
      have hop1 : (x.op == 33) = false := by simp; omega
      have hop14 : (x.op == 14) = false := by simp; omega
      have hop15 : (x.op == 15) = false := by simp; omega
      have hop16 : (x.op == 16) = false := by simp; omega
      have hop17 : (x.op == 17) = true := by simp; omega
      obtain ⟨g, off, hAv, l0⟩ := HL.out 0 (by omega)
      rw [Nat.add_zero] at l0
      subst hAv
      obtain ⟨a0, ha0⟩ : ∃ a0, a0 = Wd 0 := ⟨_, rfl⟩
      rw [← ha0] at l0
      have h9 := Hsh.out
      rw [typed_16 (.inr h), ← HWde.out, ← ha0] at h9
      clear ha0
      have Hf := kH (show sh = decide (a0 < x.w) from h9)
      clear h h9
      go_wp2
      go_quiet (fail)
      go_wp2
      go_ret
      exact ⟨ret_bool Hf.out.symm, Hb9.out.dr ⟨_, rfl⟩⟩
    · have hj1 : (j : Int) = 1 := by rw [Hlen.out]; unfold T.ar; rw [if_neg (by omega), if_neg (by omega), if_neg (by omega), if_pos (by omega)]
      have hjn : j = 1 := by omega
      subst hjn
      clear hj1
      have hop0 : (x.op == 0) = false := by simp; omega
      have hop1 : (x.op == 33) = false := by simp; omega
      have hop14 : (x.op == 14) = false := by simp; omega
      have hop15 : (x.op == 15) = false := by simp; omega
      have hop16 : (x.op == 16) = false := by simp; omega
      have hop17 : (x.op == 17) = false := by simp; omega
      have hop18 : (x.op == 18) = true := by simp; omega
      obtain ⟨g, off, hAv, l0⟩ := HL.out 0 (by omega)
      rw [Nat.add_zero] at l0
      subst hAv
      obtain ⟨a0, ha0⟩ : ∃ a0, a0 = Wd 0 := ⟨_, rfl⟩
      rw [← ha0] at l0
      have h9 := Hsh.out
      rw [typed_18 h, ← HWde.out, ← ha0] at h9
      clear ha0
      have Hf := kH (show sh = decide (x.w < a0) from h9)
      clear h h9
      go_wp2
      go_quiet (fail)
      go_wp2
      go_ret
      exact ⟨ret_bool Hf.out.symm, Hb9.out.dr ⟨_, rfl⟩⟩
    · have Hf := kH (show sh = true from by rw [Hsh.out, typed_else h])
      have h033 : x.op = 0 ∨ x.op = 33 := by
       have := Har.out
       rcases ar_cases x.op with h1 | h1 | h1 | h1 | h1 | h1 <;> omega
      clear h
      rcases h033 with h | h
      · have hop0 : (x.op == 0) = true := by simpa using h
        clear h
        go_wp2
        go_ret
        exact ⟨ret_bool Hf.out.symm, Hb9.out⟩
      · have hop0 : (x.op == 0) = false := by simp; omega
        have hop1 : (x.op == 33) = true := by simpa using h
        clear h
        go_wp2
        go_ret
        exact ⟨ret_bool Hf.out.symm, Hb9.out⟩
end
end Go.Proofs.YtbiopedpceddeaaGreatDoor
