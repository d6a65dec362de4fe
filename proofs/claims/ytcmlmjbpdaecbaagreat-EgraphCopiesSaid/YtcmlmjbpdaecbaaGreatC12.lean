/- Merged: Fr2, M6, T1. -/
import Derived.Test.YtcmlmjbpdaecbaaGreatC08
import Derived.Test.YtcmlmjbpdaecbaaGreatC11
import Derived.RangeFuncCalls
import Derived.Test.YtcmlmjbpdaecbaaGreatC09
import Derived.BigGuardPart
import Derived.Laws.StructEq
import Derived.Test.YtcmlmjbpdaecbaaGreatC02
set_option linter.unusedVariables false
set_option linter.unusedSimpArgs false
section
namespace Go.Proofs.YtcmlmjbpdaecbaaGreat
open Go.RowKit

namespace Fr
open Rg
def alF (n m : Nat) (obj : Obj) (k : Nat) : Option Obj := if n ≤ k ∧ k < n + m then some obj else none

def frB (md : Region.Mode) (ops : Array Oper) (n m : Nat) : Bool :=
  decide (ops.size = n + m) && Region.noSelect ops &&
  ((List.range ops.size).all fun i => (List.range ops.size).all fun j => i == j || (dst ops i).isNone || dst ops i != dst ops j) &&
  ((List.range ops.size).all fun i => match ops[i]? with
    | none => true
    | some o => (o.after.all fun e => !Region.binds md e || decide (e.on < i)) &&
      ((o.looksAt ops).all fun t => (List.range ops.size).all fun k => dst ops k != some t || (decide (k < n) && o.after.any fun e => Region.binds md e && e.on == k)))

theorem fineF_of {md : Region.Mode} {ops : Array Oper} {n m : Nat} {obj : Obj} (h : frB md ops n m = true) : FineF md ops (alF n m obj) := by
  unfold frB at h
  simp only [Bool.and_eq_true] at h
  obtain ⟨⟨⟨_, h1⟩, h2⟩, h3⟩ := h
  rw [List.all_eq_true] at h2 h3
  refine ⟨Region.noSelect_spec h1, ?_, ?_, ?_⟩
  · intro i j t hi hj hne hd e
    have := h2 i (List.mem_range.2 hi)
    rw [List.all_eq_true] at this
    have := this j (List.mem_range.2 hj)
    simp [hne, hd, e] at this
  · intro i o t k ho ht hd
    have := h3 i (List.mem_range.2 (at_lt ho))
    simp only [ho, Bool.and_eq_true] at this
    have := this.2
    rw [List.all_eq_true] at this
    have := this t ht
    rw [List.all_eq_true] at this
    have := this k (List.mem_range.2 (dst_lt hd))
    simp only [hd, bne_self_eq_false, Bool.false_or, Bool.and_eq_true, decide_eq_true_eq] at this
    obtain ⟨hk, this⟩ := this
    rw [Array.any_eq_true'] at this
    obtain ⟨e, he, hb⟩ := this
    simp at hb
    exact ⟨by unfold alF; rw [if_neg (by omega)], e, he, hb.1, hb.2⟩
  · intro i o e ho he hb
    have := h3 i (List.mem_range.2 (at_lt ho))
    simp only [ho, Bool.and_eq_true] at this
    have := this.1
    rw [Array.all_eq_true'] at this
    have := this e he
    simpa [hb] using this
theorem size_frB {md : Region.Mode} {ops : Array Oper} {n m : Nat} (h : frB md ops n m = true) : ops.size = n + m := by
  unfold frB at h
  simp only [Bool.and_eq_true, decide_eq_true_eq] at h
  exact h.1.1.1

/-- the slots of the first n operations are there -/
def slotsB (ops : Array Oper) (n sz : Nat) : Bool := (List.range n).all fun i => match dst ops i with | some t => decide (t < sz) | none => false

theorem any_fr {P : Program} {md : Region.Mode} {ops : Array Oper} {a af : Act} {W : World} {K : Act → World → Prop} (n m : Nat) (obj : Obj) (hB : frB md ops n m = true) (hS : slotsB ops n a.tmps.size = true)
    (ha : ∀ i, n ≤ i → i < n + m → ∃ o, ops[i]? = some o ∧ o.guard = none ∧ ∀ ρ w, (execOp ρ o).run P w = .ok (.value (.pointer (some ⟨w.heap.size, 0, none⟩))) (w.alloc obj))
    (hq : ∀ X, Below W.heap.size W X → ∀ ov : Ov X, wpQuiet P ops (fun w' => ∃ u, w' = ov.f u) (fun a' => a' = af) (ops.toList.take n) a)
    (hK : ∀ (g : Nat → Nat) w, Below W.heap.size W w → (∀ k, n ≤ k → k < n + m → W.heap.size ≤ g k ∧ w.heap[g k]? = some obj) → (∀ k k', n ≤ k → k < n + m → n ≤ k' → k' < n + m → k ≠ k' → g k ≠ g k') →
      K ((List.range m).foldl (fun a' j => a'.put (dst ops (n + j)) (.pointer (some ⟨g (n + j), 0, none⟩))) af) w) :
    wpAny P md ops (onlyK K) ops.size (Array.replicate ops.size false) a W.drew := by
  have hf := fineF_of (obj := obj) hB
  have hsz := size_frB hB
  have hvals : ∀ X, Below W.heap.size W X → ∃ vs : Nat → Value, (∀ j, j < n → ∃ o, ops[j]? = some o ∧ YieldsIn P ops (fun Y => Below X.heap.size X Y) o (vs j) (cp ops vs a (fun _ => true) j)) ∧ cp ops vs a (fun _ => true) n = af := by
    intro X hX
    obtain ⟨ov⟩ := ov_ex X
    obtain ⟨vs, h1, h2⟩ := lex_values (ops := ops) (ops.toList.take n) 0 a (fun j hj => by
      have : j < n := by simp at hj; omega
      simp [List.getElem?_take, this]) (hq X hX ov)
    have hlen : (ops.toList.take n).length = n := by simp; omega
    rw [hlen] at h1 h2
    rw [fold_cp] at h2
    refine ⟨vs, fun j hj => ?_, h2⟩
    obtain ⟨o, b, g1, g2, g3⟩ := h1 j hj
    rw [fold_cp] at g3
    rw [g3] at g2
    have hC : (fun w' => ∃ u, w' = ov.f u) = (fun Y => Below X.heap.size X Y) := by
      funext Y
      exact propext ⟨fun ⟨u, hu⟩ => hu ▸ ov.below u, fun h => ⟨Y, (ov.eq Y h).symm⟩⟩
    rw [hC] at g2
    exact ⟨o, by simpa using g1, g2⟩
  -- the values hang on the frame alone
  have hone : ∀ vs : Nat → Value, cp ops vs a (fun _ => true) n = af → ∀ j, j < n → vs j = (match dst ops j with | some t => af.eval (.tmp t) | none => undef) := by
    intro vs he j hj
    have hs := List.all_eq_true.1 hS j (List.mem_range.2 hj)
    cases hd : dst ops j with
    | none => rw [hd] at hs; cases hs
    | some t =>
      rw [hd] at hs
      have ht : t < a.tmps.size := by simpa using hs
      have := eval_hit (ops := ops) vs a (fun _ => true) t j hd rfl n hj (fun i hi hij => hf.apart j i t (by omega) (by omega) (fun e => hij e.symm) hd)
      rw [he, if_pos ht] at this
      exact this.symm
  obtain ⟨vs, h1, h2⟩ := hvals W (Below.refl _ _)
  have hcn : ∀ (vs' : Nat → Value) (c : Nat → Bool) (i : Nat), (∀ k, k < i → c k = true) → (∀ k, k < i → vs' k = vs k) → cp ops vs' a c i = cp ops vs a (fun _ => true) i := by
    intro vs' c i hc hv
    rw [cp_congr (ops := ops) vs' a (c' := fun _ => true) i hc]
    exact cp_vals a _ _ fun k hk _ => hv k hk
  refine any_free (al := alF n m obj) hf (W := W) (vs := vs) (a := a) ?_ ?_ ?_ _ _ (fun _ => 0) _ _ ?_ ?_
  · intro i hi hal
    have hin : i < n := by
      unfold alF at hal
      by_cases h : n ≤ i ∧ i < n + m
      · rw [if_pos h] at hal; cases hal
      · omega
    obtain ⟨o, ho, _⟩ := h1 i hin
    refine ⟨o, ho, fun X hX => ?_⟩
    obtain ⟨vs', g1, g2⟩ := hvals X hX
    obtain ⟨o', ho', hy⟩ := g1 i hin
    rw [ho] at ho'
    cases ho'
    have hv : ∀ k, k < n → vs' k = vs k := fun k hk => (hone vs' g2 k hk).trans (hone vs h2 k hk).symm
    rw [hv i hin, hcn vs' (fun _ => true) i (fun _ _ => rfl) (fun k hk => hv k (by omega))] at hy
    rw [hcn vs (fun k => (alF n m obj k).isNone) i (fun k hk => by unfold alF; rw [if_neg (by omega)]; rfl) (fun _ _ => rfl)]
    exact hy
  · intro i ob hal
    unfold alF at hal
    by_cases h : n ≤ i ∧ i < n + m
    · rw [if_pos h] at hal
      cases hal
      exact ha i h.1 h.2
    · rw [if_neg h] at hal; cases hal
  · intro g w hb hrow hne
    have hal : ∀ k, n ≤ k → k < n + m → alF n m obj k = some obj := fun k h1 h2 => by unfold alF; rw [if_pos ⟨h1, h2⟩]
    have h3 := hK g w hb (fun k hk hk2 => hrow k obj (hal k hk hk2) (by omega)) (fun k k' hk hk2 hk' hk2' hkk => hne k k' (by omega) (by omega) (by rw [hal k hk hk2]; rfl) (by rw [hal k' hk' hk2']; rfl) hkk)
    have hfold : ∀ q, q ≤ m → cp ops (vg (alF n m obj) vs g) a (fun _ => true) (n + q) = (List.range q).foldl (fun a' j => a'.put (dst ops (n + j)) (.pointer (some ⟨g (n + j), 0, none⟩))) af := by
      intro q
      induction q with
      | zero =>
        intro _
        rw [← h2]
        exact cp_vals a _ _ fun k hk _ => by
          have hk' : k < n := hk
          have hno : alF n m obj k = none := by unfold alF; rw [if_neg (by omega)]
          unfold vg
          rw [hno]
          rfl
      | succ q ih =>
        intro hqm
        rw [List.range_succ, List.foldl_append, ← ih (by omega)]
        show (if true then _ else _) = _
        rw [if_pos rfl]
        simp only [List.foldl_cons, List.foldl_nil]
        congr 1
        unfold vg
        show (if (alF n m obj (n + q)).isSome = true then Value.pointer (some ⟨g (n + q), 0, none⟩) else vs (n + q)) = _
        rw [hal (n + q) (by omega) (by omega)]
        rfl
    rw [hsz, hfold m (Nat.le_refl _)]
    exact h3
  · have : ∀ k, k ≤ ops.size → unl (Array.replicate ops.size false) k ≤ k := by
      intro k
      induction k with
      | zero => intro _; exact Nat.le_refl _
      | succ k ih => intro hm; have := ih (by omega); simp only [unl]; split <;> omega
    exact this _ (Nat.le_refl _)
  · have hz : ∀ k, (Array.replicate ops.size false).getD k false = false := fun k => by simp [Array.getElem?_replicate]; split <;> simp
    refine ⟨by simp, ?_, (Below.refl _ _).drew, fun k ob _ hl => (by rw [hz] at hl; cases hl), fun k k' _ _ hl => (by rw [hz] at hl; cases hl)⟩
    have : ∀ k, cp ops (vg (alF n m obj) vs fun _ => 0) a (fun k => (Array.replicate ops.size false).getD k false) k = a := by
      intro k
      induction k with
      | zero => rfl
      | succ k ih => simp only [cp, ih]; rw [hz]; simp
    exact (this _).symm
end Fr

/-- A drawn region: n operations that read and call (one walk over whatever world), m allocs that wait for nothing, a tail in sequence. -/
theorem wp_region_fr {P : Program} {id : Nat} {Q : Exit → Act → World → Prop} {a : Act} {W : World} {l : List Oper} (n m : Nat) (obj : Obj) (af : Act) (hm : P.follows .mixedOrders = true) (hsp : splitB l (n + m) = true)
    (hB : Fr.frB .any (l.take (n + m)).toArray n m = true) (hS : Fr.slotsB (l.take (n + m)).toArray n a.tmps.size = true)
    (ha : ∀ i, n ≤ i → i < n + m → ∃ o, (l.take (n + m)).toArray[i]? = some o ∧ o.guard = none ∧ ∀ ρ w, (execOp ρ o).run P w = .ok (.value (.pointer (some ⟨w.heap.size, 0, none⟩))) (w.alloc obj))
    (hq : ∀ X, Below W.heap.size W X → ∀ ov : Ov X, wpQuiet P (l.take (n + m)).toArray (fun w' => ∃ u, w' = ov.f u) (fun a' => a' = af) (l.take n) a)
    (hK : ∀ (g : Nat → Nat) w, Below W.heap.size W w → (∀ k, n ≤ k → k < n + m → W.heap.size ≤ g k ∧ w.heap[g k]? = some obj) → (∀ k k', n ≤ k → k < n + m → n ≤ k' → k' < n + m → k ≠ k' → g k ≠ g k') →
      wpList P l.toArray Q (l.drop (n + m)) ((List.range m).foldl (fun a' j => a'.put (Rg.dst (l.take (n + m)).toArray (n + j)) (.pointer (some ⟨g (n + j), 0, none⟩))) af) w) :
    (Code.region id l.toArray true).wp P Q a W := by
  refine wp_region_split (n + m) hm hsp ?_
  have hsz := Fr.size_frB hB
  have h := Fr.any_fr (P := P) (md := .any) (K := fun a w => wpList P l.toArray Q (l.drop (n + m)) a w) n m obj hB hS ha (fun X hX ov => by
    have e : ((l.take (n + m)).toArray.toList.take n) = l.take n := by
      rw [List.take_take]
      congr 1
      omega
    rw [e]
    exact hq X hX ov) hK
  rw [hsz] at h
  exact Rg.wpAny_out (fun _ _ h => h) _ _ _ _ h
end Go.Proofs.YtcmlmjbpdaecbaaGreat
end
section
section
namespace Go.Proofs.YtcmlmjbpdaecbaaGreat
open Go.RowKit
set_option linter.unusedVariables false
set_option linter.unusedSimpArgs false
attribute [local go_sem] Oper.semAt_some

/-- the mark that a range over a function leaves -/
def Mk (r : Nat) : Deferred := { target := .collected r, args := #[] }
/-- marks whose blocks hold no call -/
structure Marks (W : World) (B : Nat) (rs : List Nat) : Prop where
  nodup : rs.Nodup
  all : ∀ r ∈ rs, B ≤ r ∧ W.heap[r]? = some (.deferred (some []))

/-- what stays where marks are shut -/
structure Off (B : Nat) (W W' : World) : Prop where
  below : Below B W W'
  keep : ∀ (g : Nat) (o : Obj), W.heap[g]? = some o → (∀ ds, o ≠ .deferred ds) → W'.heap[g]? = some o
theorem Off.refl (B : Nat) (W : World) : Off B W W := ⟨Below.refl _ _, fun _ _ h _ => h⟩

theorem leaves_marks {F : Fence} {n : Nat} {P : Program} {fn : Func} {tmps : Array Value} {R : Ending → World → Prop} {B : Nat} : ∀ (rs : List Nat) (W : World), Marks W B rs →
    (∀ W', Off B W W' → ∃ v, (results fn tmps).run P W' = .ok v W' ∧ R (.returned v) W') → LeavesInM F n P fn tmps R (rs.map Mk) .returning W
  | [], W, _, h => h W (Off.refl _ _)
  | r :: rs, W, hm, h => by
    obtain ⟨hB, hr⟩ := hm.all r (List.mem_cons_self ..)
    refine ⟨by simp, .inl ⟨r, _, rfl, run_takeDeferred hr, ?_⟩⟩
    have hnd := List.nodup_cons.1 hm.nodup
    have hoff : Off B W (W.putObj r (.deferred none)) := ⟨below_putObj (Below.refl _ _) hB _, fun g o hg hne => by
      have : g ≠ r := by rintro rfl; rw [hr] at hg; exact hne _ (Option.some.inj hg).symm
      rw [World.putObj_heap_other this]; exact hg⟩
    refine leaves_marks rs _ ⟨hnd.2, fun r' hr' => ?_⟩ fun W' hW' => h W' ⟨hoff.below.trans hW'.below, fun g o hg hne => hW'.keep g o (hoff.keep g o hg hne) hne⟩
    obtain ⟨hB', h'⟩ := hm.all r' (List.mem_cons_of_mem _ hr')
    have : r' ≠ r := by rintro rfl; exact hnd.1 hr'
    exact ⟨hB', by rw [World.putObj_heap_other this]; exact h'⟩

theorem Marks.lt {W : World} {B : Nat} {rs : List Nat} (h : Marks W B rs) : ∀ r ∈ rs, r < W.heap.size := fun r hr => (Array.getElem?_eq_some_iff.1 (h.all r hr).2).1
theorem Marks.keep {W Y : World} {B C : Nat} {rs : List Nat} (h : Marks W B rs) (hlt : ∀ r ∈ rs, r < C) (hk : ∀ g, g < C → Y.heap[g]? = W.heap[g]?) : Marks Y B rs := ⟨h.nodup, fun r hr => ⟨(h.all r hr).1, (hk r (hlt r hr)).trans (h.all r hr).2⟩⟩
theorem RowArg.ck {k w : Nat} {A A' : World} {x : List K.Stp} {args : Array Value} (h : RowArg k w A x args) (hc : CK A A') : RowArg k w A' x args := by
  obtain ⟨Ar, cr, Al, cl, rfl, h1, h2⟩ := h
  refine ⟨Ar, cr, Al, cl, rfl, ⟨h1.1, h1.2.1, fun j y hy => ?_⟩, ⟨h2.1, h2.2.1, fun j y hy => ?_⟩⟩
  · obtain ⟨b, off, us, e1, e2, e3, e4, e5⟩ := h1.2.2 j y hy
    exact ⟨b, off, us, e1, Nat.lt_of_lt_of_le e2 hc.size, e3, fun i u hu => hc.cell _ _ (e4 i u hu), e5⟩
  · obtain ⟨b, off, u, e1, e2, e3, e4⟩ := h2.2.2 j y hy
    exact ⟨b, off, u, e1, Nat.lt_of_lt_of_le e2 hc.size, hc.cell _ _ e3, e4⟩
theorem Marks.cons {W : World} {B g : Nat} {rs : List Nat} (h : Marks W B rs) (hg : W.heap[g]? = some (.deferred (some []))) (hB : B ≤ g) (hlt : ∀ r ∈ rs, r < g) : Marks W B (g :: rs) :=
  ⟨List.nodup_cons.2 ⟨fun hm => Nat.lt_irrefl _ (hlt g hm), h.nodup⟩, fun r hr => by
    rcases List.mem_cons.1 hr with rfl | hr
    · exact ⟨hB, hg⟩
    · exact h.all r hr⟩
theorem first_at {k w q most : Nat} {t : List Int} {pre : List (List K.Stp)} {x : List K.Stp} (h1 : K.None_ k w t (K.upTo k q)) (h2 : K.None_ k w t pre) (hp : pre ++ [x] <+: K.rows k q) (hx : K.meaning k w x = t) (hq : q < most) : K.first k w t most = some x := by
  obtain ⟨l, hl⟩ := hp
  refine K.first_some h1 (i := pre.length) (row := x) ?_ ?_ hx hq
  · rw [← hl, List.append_assoc, List.take_left]; exact h2
  · rw [← hl, List.append_assoc, List.getElem?_append_right (Nat.le_refl _)]; simp

end Go.Proofs.YtcmlmjbpdaecbaaGreat
end
section
namespace Go.Proofs.YtcmlmjbpdaecbaaGreat
open Go.RowKit
set_option linter.unusedVariables false
set_option linter.unusedSimpArgs false

theorem shortest_cases (k w : Int) (t : List Int) : K.shortest k w t = if (K.over k w && K.isTable k.toNat w.toNat t) = true then (match K.first k.toNat w.toNat t 3 with | some r => (r, true, (0 : Int)) | none => ([], false, 0)) else ([], false, 1) := by
  unfold K.shortest
  cases K.over k w <;> cases K.isTable k.toNat w.toNat t <;> first | rfl | simp

/-- three fields of type e, one cell each, none of them blank -/
def threeB (fs : List Field) (e : TypeId) : Bool := match fs with
  | [f0, f1, f2] => decide (f0.name ≠ "_") && decide (f1.name ≠ "_") && decide (f2.name ≠ "_") && decide (f0.type = e) && decide (f1.type = e) && decide (f2.type = e) && decide (f0.offset = 0) && decide (f1.offset = 1) && decide (f2.offset = 2)
  | _ => false
theorem threeB_spec {fs : List Field} {e : TypeId} (h : threeB fs e = true) : ∃ f0 f1 f2 : Field, fs = [f0, f1, f2] ∧ f0.name ≠ "_" ∧ f1.name ≠ "_" ∧ f2.name ≠ "_" ∧ f0.type = e ∧ f1.type = e ∧ f2.type = e ∧ f0.offset = 0 ∧ f1.offset = 1 ∧ f2.offset = 2 := by
  unfold threeB at h
  split at h
  · rename_i f0 f1 f2
    simp only [Bool.and_eq_true, decide_eq_true_eq] at h
    obtain ⟨⟨⟨⟨⟨⟨⟨⟨a, b⟩, c⟩, d⟩, e⟩, f⟩, g⟩, i⟩, j⟩ := h
    exact ⟨f0, f1, f2, rfl, a, b, c, d, e, f, g, i, j⟩
  · cases h
theorem known_plain : K.shortest 1 3 [7, 0, 1, 2, 3, 4, 5, 6] = ([(1, 0, 2)], true, 0) := by decide +kernel
end Go.Proofs.YtcmlmjbpdaecbaaGreat
end
section
namespace Go.Proofs.YtcmlmjbpdaecbaaGreat
open Go.RowKit
set_option linter.unusedVariables false
set_option linter.unusedSimpArgs false

end Go.Proofs.YtcmlmjbpdaecbaaGreat
end
end
section
namespace Go.Proofs.YtcmlmjbpdaecbaaGreat
open Go.RowKit
set_option linter.unusedVariables false
set_option linter.unusedSimpArgs false

/-- the cells of a node -/
def ndC (x : T.Nd) (A : Option Addr) (c : Nat) : List Value := [.int .i64 x.op, .int .i64 x.w, .int .i64 x.fl, .slice A x.args.length c, .int .u32 x.imm]
/-- five cells read as a node -/
def NdR (W : World) (us : List Value) (x : T.Nd) : Prop := ∃ A c, us = ndC x A c ∧ SlAt (IntR .i64) W A x.args.length x.args ∧ 0 ≤ x.imm ∧ x.imm < 4294967296
theorem monoNd : MonoL NdR := by
  rintro w w' us x hb ⟨A, c, rfl, h, h2⟩
  exact ⟨A, c, rfl, h.below (monoInt _) hb, h2⟩

theorem ret_ib {a b : Int} {x y : Bool} (h1 : a = b) (h2 : x = y) : Ending.returned (.tuple #[.int .i64 a, .bool x]) = .returned (.tuple #[.int .i64 b, .bool y]) := by rw [h1, h2]

theorem ar_cases (op : Int) : (op = 0 ∧ T.ar op = 0) ∨ (op = 33 ∧ T.ar op = 0) ∨ (1 ≤ op ∧ op ≤ 14 ∧ T.ar op = 2) ∨ (op = 15 ∧ T.ar op = 3) ∨ (16 ≤ op ∧ op ≤ 18 ∧ T.ar op = 1) ∨ (¬ op = 0 ∧ ¬ op = 33 ∧ ¬ (1 ≤ op ∧ op ≤ 14) ∧ ¬ op = 15 ∧ ¬ (16 ≤ op ∧ op ≤ 18) ∧ T.ar op = -1) := by
  unfold T.ar
  by_cases h0 : op = 0
  · exact .inl ⟨h0, by rw [if_pos (.inl h0)]⟩
  by_cases h33 : op = 33
  · exact .inr (.inl ⟨h33, by rw [if_pos (.inr h33)]⟩)
  rw [if_neg (by omega)]
  by_cases h14 : 1 ≤ op ∧ op ≤ 14
  · exact .inr (.inr (.inl ⟨h14.1, h14.2, by rw [if_pos h14]⟩))
  rw [if_neg h14]
  by_cases h15 : op = 15
  · exact .inr (.inr (.inr (.inl ⟨h15, by rw [if_pos h15]⟩)))
  rw [if_neg h15]
  by_cases h18 : 16 ≤ op ∧ op ≤ 18
  · exact .inr (.inr (.inr (.inr (.inl ⟨h18.1, h18.2, by rw [if_pos h18]⟩))))
  rw [if_neg h18]
  exact .inr (.inr (.inr (.inr (.inr ⟨h0, h33, h14, h15, h18, rfl⟩))))

set_option maxHeartbeats 1000000 in
theorem parity_any (op : Int) (W : World) : Calls Tryz.prog 166 #[.int .i64 op] W fun e w' => e = .returned (.tuple #[.int .i64 (if 0 ≤ T.ar op then T.ar op else 0), .bool (decide (0 ≤ T.ar op))]) ∧ W = w' := by
  rcases ar_cases op with ⟨rfl, h⟩ | ⟨rfl, h⟩ | ⟨h1, h2, h⟩ | ⟨rfl, h⟩ | ⟨h1, h2, h⟩ | ⟨a, b, c, d, e, h⟩
  · go_enter Tryz.func166, Tryz.ntmps166
    go_wp2
    go_ret2
    exact ⟨rfl, rfl⟩
  · go_enter Tryz.func166, Tryz.ntmps166
    go_wp2
    go_ret2
    exact ⟨rfl, rfl⟩
  · rw [h, show (if (0 : Int) ≤ 2 then (2 : Int) else 0) = 2 from rfl, show decide ((0 : Int) ≤ 2) = true from rfl]
    clear h
    have q0 : (op == 0) = false := by simp; omega
    have q1 : (op == 33) = false := by simp; omega
    have q2 : decide (1 ≤ op) = true := by simp; omega
    have q3 : decide (op ≤ 14) = true := by simp; omega
    go_enter Tryz.func166, Tryz.ntmps166
    go_wp2
    go_ret2
    exact ⟨rfl, rfl⟩
  · go_enter Tryz.func166, Tryz.ntmps166
    go_wp2
    go_ret2
    exact ⟨rfl, rfl⟩
  · rw [h, show (if (0 : Int) ≤ 1 then (1 : Int) else 0) = 1 from rfl, show decide ((0 : Int) ≤ 1) = true from rfl]
    clear h
    have hop : op = 16 ∨ op = 17 ∨ op = 18 := by omega
    clear h1 h2
    rcases hop with rfl | rfl | rfl
    all_goals
      go_enter Tryz.func166, Tryz.ntmps166
      go_wp2
      go_ret2
      exact ⟨rfl, rfl⟩
  · rw [h, show (if (0 : Int) ≤ -1 then (-1 : Int) else 0) = 0 from rfl, show decide ((0 : Int) ≤ -1) = false from rfl]
    clear h
    have q0 : (op == 0) = false := by simp; omega
    have q1 : (op == 33) = false := by simp; omega
    have q4 : (op == 15) = false := by simp; omega
    by_cases hn : op < 1
    · have q2 : decide (1 ≤ op) = false := by simp; omega
      have q5 : decide (16 ≤ op) = false := by simp; omega
      clear a b c d e hn
      go_enter Tryz.func166, Tryz.ntmps166
      go_wp2
      go_ret2
      exact ⟨rfl, rfl⟩
    · have q2 : decide (1 ≤ op) = true := by simp; omega
      have q3 : decide (op ≤ 14) = false := by simp; omega
      have q5 : decide (16 ≤ op) = true := by simp; omega
      have q6 : decide (op ≤ 18) = false := by simp; omega
      clear a b c d e hn
      go_enter Tryz.func166, Tryz.ntmps166
      go_wp2
      go_ret2
      exact ⟨rfl, rfl⟩

/-- the node as a value -/
def ndV (x : T.Nd) (A : Option Addr) (c : Nat) : Value := .agg #[.int .i64 x.op, .int .i64 x.w, .int .i64 x.fl, .slice A x.args.length c, .int .u32 x.imm]

set_option maxHeartbeats 1000000 in
theorem pisImm_any (op w fl imm : Int) (n : Nat) (A : Option Addr) (c : Nat) (args : List Int) (W : World) :
    Calls Tryz.prog 167 #[.agg #[.int .i64 op, .int .i64 w, .int .i64 fl, .slice A n c, .int .u32 imm]] W fun e w' => e = .returned (.bool (T.immOk ⟨op, w, fl, args, imm⟩)) ∧ Below W.heap.size W w' := by
  have HB1 := Lib.hid (show ∀ o, Below W.heap.size W (W.alloc o) from fun o => (Below.refl _ _).alloc (Nat.le_refl _) o)
  unfold T.immOk
  dsimp only
  by_cases h0 : op = 0
  · subst h0
    rw [if_pos rfl]
    have HM := Lib.hid (fun W' => Mask_any w W')
    unfold B.isW
    cases hw : B.isWd w
    · rw [hw] at HM
      rw [Bool.false_and]
      clear hw
      go_enter Tryz.func167, Tryz.ntmps167
      go_wp2_with fail
      refine (HM.out _).mono ?_
      rintro e w' ⟨rfl, rfl⟩
      go_wp2
      go_ret
      exact ⟨rfl, HB1.out _⟩
    · rw [hw] at HM
      rw [Bool.true_and]
      obtain ⟨P, hP⟩ : ∃ P, P = B.pw w := ⟨_, rfl⟩
      rw [← hP] at HM ⊢
      have hd : decide (imm < P) = decide (imm ≤ P - 1) := by by_cases h : imm < P <;> simp <;> omega
      rw [hd]
      clear hw hP hd
      go_enter Tryz.func167, Tryz.ntmps167
      go_wp2_with fail
      refine (HM.out _).mono ?_
      rintro e w' ⟨rfl, rfl⟩
      go_wp2
      go_ret
      exact ⟨rfl, HB1.out _⟩
  · rw [if_neg h0]
    have q0 : (op == 0) = false := by simpa using h0
    by_cases h33 : op = 33
    · subst h33
      rw [if_pos rfl]
      clear h0 q0
      go_enter Tryz.func167, Tryz.ntmps167
      go_wp2
      go_ret
      exact ⟨rfl, HB1.out _⟩
    · rw [if_neg h33]
      have q1 : (op == 33) = false := by simpa using h33
      by_cases h14 : op = 14
      · subst h14
        rw [if_pos rfl]
        clear h0 q0 h33 q1
        go_enter Tryz.func167, Tryz.ntmps167
        go_wp2
        go_ret
        exact ⟨rfl, HB1.out _⟩
      · rw [if_neg h14]
        have q2 : (op == 14) = false := by simpa using h14
        have hd : decide (imm = 0) = (imm == 0) := by by_cases h : imm = 0 <;> simp [h]
        rw [hd]
        clear h0 h33 h14 hd
        go_enter Tryz.func167, Tryz.ntmps167
        go_wp2
        go_ret
        exact ⟨rfl, HB1.out _⟩
end Go.Proofs.YtcmlmjbpdaecbaaGreat
end
