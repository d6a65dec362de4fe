/- Own law, for walks: a drawn region: n operations that read and call, m allocs that wait for nothing, and a tail in sequence. -/
import Derived.Test.YtcmlmjbpdaecbaaH12
import Derived.Test.YtcmlmjbpdaecbaaH16
set_option linter.unusedVariables false
set_option linter.unusedSimpArgs false
namespace Go.Proofs.Ytcmlmjbpdaecbaa
open Go.RowKit

namespace Fr
open Rg
def alF (n m : Nat) (obj : Obj) (k : Nat) : Option Obj := if n ≤ k ∧ k < n + m then some obj else none

def frB (md : Region.Mode) (ops : Array Oper) (n m : Nat) : Bool :=
  decide (ops.size = n + m) && Region.noSelect ops &&
  ((List.range ops.size).all fun i => (List.range ops.size).all fun j => i == j || (dst ops i).isNone || dst ops i != dst ops j) &&
  ((List.range ops.size).all fun i => match ops[i]? with
    | none => true
    | some o => (o.after.all fun e => !Region.binds md e || decide (e.on < i)) &&
      ((o.looksAt ops).all fun t => (List.range ops.size).all fun k => dst ops k != some t || (decide (k < n) && o.after.any fun e => Region.binds md e && e.on == k)))

theorem fineF_of {md : Region.Mode} {ops : Array Oper} {n m : Nat} {obj : Obj} (h : frB md ops n m = true) : FineF md ops (alF n m obj) := by
  unfold frB at h
  simp only [Bool.and_eq_true] at h
  obtain ⟨⟨⟨_, h1⟩, h2⟩, h3⟩ := h
  rw [List.all_eq_true] at h2 h3
  refine ⟨Region.noSelect_spec h1, ?_, ?_, ?_⟩
  · intro i j t hi hj hne hd e
    have := h2 i (List.mem_range.2 hi)
    rw [List.all_eq_true] at this
    have := this j (List.mem_range.2 hj)
    simp [hne, hd, e] at this
  · intro i o t k ho ht hd
    have := h3 i (List.mem_range.2 (at_lt ho))
    simp only [ho, Bool.and_eq_true] at this
    have := this.2
    rw [List.all_eq_true] at this
    have := this t ht
    rw [List.all_eq_true] at this
    have := this k (List.mem_range.2 (dst_lt hd))
    simp only [hd, bne_self_eq_false, Bool.false_or, Bool.and_eq_true, decide_eq_true_eq] at this
    obtain ⟨hk, this⟩ := this
    rw [Array.any_eq_true'] at this
    obtain ⟨e, he, hb⟩ := this
    simp at hb
    exact ⟨by unfold alF; rw [if_neg (by omega)], e, he, hb.1, hb.2⟩
  · intro i o e ho he hb
    have := h3 i (List.mem_range.2 (at_lt ho))
    simp only [ho, Bool.and_eq_true] at this
    have := this.1
    rw [Array.all_eq_true'] at this
    have := this e he
    simpa [hb] using this
theorem size_frB {md : Region.Mode} {ops : Array Oper} {n m : Nat} (h : frB md ops n m = true) : ops.size = n + m := by
  unfold frB at h
  simp only [Bool.and_eq_true, decide_eq_true_eq] at h
  exact h.1.1.1

/-- the slots of the first n operations are there -/
def slotsB (ops : Array Oper) (n sz : Nat) : Bool := (List.range n).all fun i => match dst ops i with | some t => decide (t < sz) | none => false

theorem any_fr {P : Program} {md : Region.Mode} {ops : Array Oper} {a af : Act} {W : World} {K : Act → World → Prop} (n m : Nat) (obj : Obj) (hB : frB md ops n m = true) (hS : slotsB ops n a.tmps.size = true)
    (ha : ∀ i, n ≤ i → i < n + m → ∃ o, ops[i]? = some o ∧ o.guard = none ∧ ∀ ρ w, (execOp ρ o).run P w = .ok (.value (.pointer (some ⟨w.heap.size, 0, none⟩))) (w.alloc obj))
    (hq : ∀ X, Below W.heap.size W X → ∀ ov : Ov X, wpQuiet P ops (fun w' => ∃ u, w' = ov.f u) (fun a' => a' = af) (ops.toList.take n) a)
    (hK : ∀ (g : Nat → Nat) w, Below W.heap.size W w → (∀ k, n ≤ k → k < n + m → W.heap.size ≤ g k ∧ w.heap[g k]? = some obj) → (∀ k k', n ≤ k → k < n + m → n ≤ k' → k' < n + m → k ≠ k' → g k ≠ g k') →
      K ((List.range m).foldl (fun a' j => a'.put (dst ops (n + j)) (.pointer (some ⟨g (n + j), 0, none⟩))) af) w) :
    wpAny P md ops (onlyK K) ops.size (Array.replicate ops.size false) a W.drew := by
  have hf := fineF_of (obj := obj) hB
  have hsz := size_frB hB
  have hvals : ∀ X, Below W.heap.size W X → ∃ vs : Nat → Value, (∀ j, j < n → ∃ o, ops[j]? = some o ∧ YieldsIn P ops (fun Y => Below X.heap.size X Y) o (vs j) (cp ops vs a (fun _ => true) j)) ∧ cp ops vs a (fun _ => true) n = af := by
    intro X hX
    obtain ⟨ov⟩ := ov_ex X
    obtain ⟨vs, h1, h2⟩ := lex_values (ops := ops) (ops.toList.take n) 0 a (fun j hj => by
      have : j < n := by simp at hj; omega
      simp [List.getElem?_take, this]) (hq X hX ov)
    have hlen : (ops.toList.take n).length = n := by simp; omega
    rw [hlen] at h1 h2
    rw [fold_cp] at h2
    refine ⟨vs, fun j hj => ?_, h2⟩
    obtain ⟨o, b, g1, g2, g3⟩ := h1 j hj
    rw [fold_cp] at g3
    rw [g3] at g2
    have hC : (fun w' => ∃ u, w' = ov.f u) = (fun Y => Below X.heap.size X Y) := by
      funext Y
      exact propext ⟨fun ⟨u, hu⟩ => hu ▸ ov.below u, fun h => ⟨Y, (ov.eq Y h).symm⟩⟩
    rw [hC] at g2
    exact ⟨o, by simpa using g1, g2⟩
  -- the values hang on the frame alone
  have hone : ∀ vs : Nat → Value, cp ops vs a (fun _ => true) n = af → ∀ j, j < n → vs j = (match dst ops j with | some t => af.eval (.tmp t) | none => undef) := by
    intro vs he j hj
    have hs := List.all_eq_true.1 hS j (List.mem_range.2 hj)
    cases hd : dst ops j with
    | none => rw [hd] at hs; cases hs
    | some t =>
      rw [hd] at hs
      have ht : t < a.tmps.size := by simpa using hs
      have := eval_hit (ops := ops) vs a (fun _ => true) t j hd rfl n hj (fun i hi hij => hf.apart j i t (by omega) (by omega) (fun e => hij e.symm) hd)
      rw [he, if_pos ht] at this
      exact this.symm
  obtain ⟨vs, h1, h2⟩ := hvals W (Below.refl _ _)
  have hcn : ∀ (vs' : Nat → Value) (c : Nat → Bool) (i : Nat), (∀ k, k < i → c k = true) → (∀ k, k < i → vs' k = vs k) → cp ops vs' a c i = cp ops vs a (fun _ => true) i := by
    intro vs' c i hc hv
    rw [cp_congr (ops := ops) vs' a (c' := fun _ => true) i hc]
    exact cp_vals a _ _ fun k hk _ => hv k hk
  refine any_free (al := alF n m obj) hf (W := W) (vs := vs) (a := a) ?_ ?_ ?_ _ _ (fun _ => 0) _ _ ?_ ?_
  · intro i hi hal
    have hin : i < n := by
      unfold alF at hal
      by_cases h : n ≤ i ∧ i < n + m
      · rw [if_pos h] at hal; cases hal
      · omega
    obtain ⟨o, ho, _⟩ := h1 i hin
    refine ⟨o, ho, fun X hX => ?_⟩
    obtain ⟨vs', g1, g2⟩ := hvals X hX
    obtain ⟨o', ho', hy⟩ := g1 i hin
    rw [ho] at ho'
    cases ho'
    have hv : ∀ k, k < n → vs' k = vs k := fun k hk => (hone vs' g2 k hk).trans (hone vs h2 k hk).symm
    rw [hv i hin, hcn vs' (fun _ => true) i (fun _ _ => rfl) (fun k hk => hv k (by omega))] at hy
    rw [hcn vs (fun k => (alF n m obj k).isNone) i (fun k hk => by unfold alF; rw [if_neg (by omega)]; rfl) (fun _ _ => rfl)]
    exact hy
  · intro i ob hal
    unfold alF at hal
    by_cases h : n ≤ i ∧ i < n + m
    · rw [if_pos h] at hal
      cases hal
      exact ha i h.1 h.2
    · rw [if_neg h] at hal; cases hal
  · intro g w hb hrow hne
    have hal : ∀ k, n ≤ k → k < n + m → alF n m obj k = some obj := fun k h1 h2 => by unfold alF; rw [if_pos ⟨h1, h2⟩]
    have h3 := hK g w hb (fun k hk hk2 => hrow k obj (hal k hk hk2) (by omega)) (fun k k' hk hk2 hk' hk2' hkk => hne k k' (by omega) (by omega) (by rw [hal k hk hk2]; rfl) (by rw [hal k' hk' hk2']; rfl) hkk)
    have hfold : ∀ q, q ≤ m → cp ops (vg (alF n m obj) vs g) a (fun _ => true) (n + q) = (List.range q).foldl (fun a' j => a'.put (dst ops (n + j)) (.pointer (some ⟨g (n + j), 0, none⟩))) af := by
      intro q
      induction q with
      | zero =>
        intro _
        rw [← h2]
        exact cp_vals a _ _ fun k hk _ => by
          have hk' : k < n := hk
          have hno : alF n m obj k = none := by unfold alF; rw [if_neg (by omega)]
          unfold vg
          rw [hno]
          rfl
      | succ q ih =>
        intro hqm
        rw [List.range_succ, List.foldl_append, ← ih (by omega)]
        show (if true then _ else _) = _
        rw [if_pos rfl]
        simp only [List.foldl_cons, List.foldl_nil]
        congr 1
        unfold vg
        show (if (alF n m obj (n + q)).isSome = true then Value.pointer (some ⟨g (n + q), 0, none⟩) else vs (n + q)) = _
        rw [hal (n + q) (by omega) (by omega)]
        rfl
    rw [hsz, hfold m (Nat.le_refl _)]
    exact h3
  · have : ∀ k, k ≤ ops.size → unl (Array.replicate ops.size false) k ≤ k := by
      intro k
      induction k with
      | zero => intro _; exact Nat.le_refl _
      | succ k ih => intro hm; have := ih (by omega); simp only [unl]; split <;> omega
    exact this _ (Nat.le_refl _)
  · have hz : ∀ k, (Array.replicate ops.size false).getD k false = false := fun k => by simp [Array.getElem?_replicate]; split <;> simp
    refine ⟨by simp, ?_, (Below.refl _ _).drew, fun k ob _ hl => (by rw [hz] at hl; cases hl), fun k k' _ _ hl => (by rw [hz] at hl; cases hl)⟩
    have : ∀ k, cp ops (vg (alF n m obj) vs fun _ => 0) a (fun k => (Array.replicate ops.size false).getD k false) k = a := by
      intro k
      induction k with
      | zero => rfl
      | succ k ih => simp only [cp, ih]; rw [hz]; simp
    exact (this _).symm
end Fr

/-- A drawn region: n operations that read and call (one walk over whatever world), m allocs that wait for nothing, a tail in sequence. -/
theorem wp_region_fr {P : Program} {id : Nat} {Q : Exit → Act → World → Prop} {a : Act} {W : World} {l : List Oper} (n m : Nat) (obj : Obj) (af : Act) (hm : P.follows .mixedOrders = true) (hsp : splitB l (n + m) = true)
    (hB : Fr.frB .any (l.take (n + m)).toArray n m = true) (hS : Fr.slotsB (l.take (n + m)).toArray n a.tmps.size = true)
    (ha : ∀ i, n ≤ i → i < n + m → ∃ o, (l.take (n + m)).toArray[i]? = some o ∧ o.guard = none ∧ ∀ ρ w, (execOp ρ o).run P w = .ok (.value (.pointer (some ⟨w.heap.size, 0, none⟩))) (w.alloc obj))
    (hq : ∀ X, Below W.heap.size W X → ∀ ov : Ov X, wpQuiet P (l.take (n + m)).toArray (fun w' => ∃ u, w' = ov.f u) (fun a' => a' = af) (l.take n) a)
    (hK : ∀ (g : Nat → Nat) w, Below W.heap.size W w → (∀ k, n ≤ k → k < n + m → W.heap.size ≤ g k ∧ w.heap[g k]? = some obj) → (∀ k k', n ≤ k → k < n + m → n ≤ k' → k' < n + m → k ≠ k' → g k ≠ g k') →
      wpList P l.toArray Q (l.drop (n + m)) ((List.range m).foldl (fun a' j => a'.put (Rg.dst (l.take (n + m)).toArray (n + j)) (.pointer (some ⟨g (n + j), 0, none⟩))) af) w) :
    (Code.region id l.toArray true).wp P Q a W := by
  refine wp_region_split (n + m) hm hsp ?_
  have hsz := Fr.size_frB hB
  have h := Fr.any_fr (P := P) (md := .any) (K := fun a w => wpList P l.toArray Q (l.drop (n + m)) a w) n m obj hB hS ha (fun X hX ov => by
    have e : ((l.take (n + m)).toArray.toList.take n) = l.take n := by
      rw [List.take_take]
      congr 1
      omega
    rw [e]
    exact hq X hX ov) hK
  rw [hsz] at h
  exact Rg.wpAny_out (fun _ _ h => h) _ _ _ _ h
end Go.Proofs.Ytcmlmjbpdaecbaa
