/- Own law: a drawn region of quiet operations and of allocs that wait for nothing: whatever the order, the frame is the one of the text but for the allocs' addresses. -/
import Derived.Test.YtmebpgggfppmhaaDoorGQ4
set_option linter.unusedVariables false
set_option linter.unusedSimpArgs false
section
namespace Go.Proofs.YtmebpgggfppmhaaDoor
open Go.RowKit

namespace Fr3
open Rg
section
variable {P : Program} {ops : Array Oper} {md : Region.Mode}

/-- values with the allocs' addresses -/
def vg (mk : Nat → Nat → Value) (al : Nat → Option Obj) (vs : Nat → Value) (g : Nat → Nat) (k : Nat) : Value := if (al k).isSome then mk k (g k) else vs k

structure FineF (md : Region.Mode) (ops : Array Oper) (al : Nat → Option Obj) : Prop where
  sel : ∀ (j : Nat) (o : Oper) cs b, ops[j]? = some o → o.op ≠ .select cs b
  apart : ∀ (i j : Nat) (t : Tmp), i < ops.size → j < ops.size → i ≠ j → dst ops i = some t → dst ops j ≠ some t
  dep : ∀ (i : Nat) (o : Oper) (t : Tmp) (k : Nat), ops[i]? = some o → t ∈ o.looksAt ops → dst ops k = some t → al k = none ∧ ∃ e ∈ o.after, Region.binds md e = true ∧ e.on = k
  lex : ∀ (i : Nat) (o : Oper) (e : Edge), ops[i]? = some o → e ∈ o.after → Region.binds md e = true → e.on < i

structure InvF (mk : Nat → Nat → Value) (md : Region.Mode) (ops : Array Oper) (al : Nat → Option Obj) (W : World) (vs : Nat → Value) (a : Act) (listed : Array Bool) (g : Nat → Nat) (act : Act) (w : World) : Prop where
  size : listed.size = ops.size
  act : act = cp ops (vg mk al vs g) a (fun k => listed.getD k false) ops.size
  below : Below W.heap.size W w
  row : ∀ k obj, al k = some obj → listed.getD k false = true → W.heap.size ≤ g k ∧ w.heap[g k]? = some obj
  ne : ∀ k k', (al k).isSome → (al k').isSome → listed.getD k false = true → listed.getD k' false = true → k ≠ k' → g k ≠ g k'

theorem cp_vals {vs vs' : Nat → Value} (a : Act) (c : Nat → Bool) (m : Nat) (h : ∀ k, k < m → c k = true → vs k = vs' k) : cp ops vs a c m = cp ops vs' a c m := by
  induction m with
  | zero => rfl
  | succ m ih =>
    simp only [cp, ih fun k hk => h k (by omega)]
    split
    · rename_i hc; rw [h m (by omega) hc]
    · rfl

theorem some_readyF {al : Nat → Option Obj} (hf : FineF md ops al) {listed : Array Bool} (hs : listed.size = ops.size) (m : Nat) (hm : m ≤ ops.size) (h : ∃ k, k < m ∧ listed.getD k true = false) : ∃ i, i ∈ Region.ready md ops listed := by
  induction m with
  | zero => obtain ⟨k, hk, _⟩ := h; omega
  | succ m ih =>
    by_cases h' : ∃ k, k < m ∧ listed.getD k true = false
    · exact ih (by omega) h'
    · obtain ⟨k, hk, hl⟩ := h
      have e : k = m := by
        rcases Nat.lt_or_ge k m with h1 | h1
        · exact absurd ⟨k, h1, hl⟩ h'
        · omega
      subst e
      have hks : k < ops.size := by omega
      refine ⟨k, mem_ready.2 ⟨hl, ops[k], Array.getElem?_eq_getElem hks, fun e he hb => ?_⟩⟩
      have hlt := hf.lex k _ e (Array.getElem?_eq_getElem hks) he hb
      have : ¬ listed.getD e.on true = false := fun h1 => h' ⟨e.on, hlt, h1⟩
      rw [two_getD (by omega) false true]
      simpa using this

theorem any_free {mk : Nat → Nat → Value} {al : Nat → Option Obj} (hf : FineF md ops al) {W : World} {vs : Nat → Value} {a : Act} {K : Act → World → Prop}
    (hq : ∀ i, i < ops.size → al i = none → ∃ o, ops[i]? = some o ∧ ∀ X, Below W.heap.size W X → YieldsIn P ops (fun Y => Below X.heap.size X Y) o (vs i) (cp ops vs a (fun k => (al k).isNone) i))
    (ha : ∀ i obj, al i = some obj → ∃ o, ops[i]? = some o ∧ o.guard = none ∧ ∀ (ρ : Act) w, (execOp ρ.eval o).run P w = .ok (.value (mk i w.heap.size)) (w.alloc obj))
    (hK : ∀ (g : Nat → Nat) w, Below W.heap.size W w → (∀ k obj, al k = some obj → k < ops.size → W.heap.size ≤ g k ∧ w.heap[g k]? = some obj) → (∀ k k', k < ops.size → k' < ops.size → (al k).isSome → (al k').isSome → k ≠ k' → g k ≠ g k') → K (cp ops (vg mk al vs g) a (fun _ => true) ops.size) w) :
    ∀ (fuel : Nat) (listed : Array Bool) (g : Nat → Nat) (act : Act) (w : World), unl listed ops.size ≤ fuel → InvF mk md ops al W vs a listed g act w → wpAny P md ops (onlyK K) fuel listed act w := by
  intro fuel
  have done : ∀ (listed : Array Bool) (g : Nat → Nat) (act : Act) (w : World), unl listed ops.size = 0 → InvF mk md ops al W vs a listed g act w → onlyK K .normal act w := by
    intro listed g act w h0 I
    have hall := unl_zero h0
    have hall' : ∀ k, k < ops.size → listed.getD k false = true := fun k hk => by rw [two_getD (by rw [I.size]; omega) false true]; exact hall k hk
    show K act w
    rw [I.act, cp_congr (ops := ops) (vg mk al vs g) a (c' := fun _ => true) ops.size fun k hk => hall' k hk]
    exact hK g w I.below (fun k obj hk hkl => I.row k obj hk (hall' k hkl)) (fun k k' hk hk' h1 h2 hne => I.ne k k' h1 h2 (hall' k hk) (hall' k' hk') hne)
  have noReady : ∀ (listed : Array Bool) (g : Nat → Nat) (act : Act) (w : World), InvF mk md ops al W vs a listed g act w → Region.ready md ops listed = [] → unl listed ops.size = 0 := by
    intro listed g act w I hr
    rcases Nat.eq_zero_or_pos (unl listed ops.size) with h | h
    · exact h
    · have hex : ∃ k, k < ops.size ∧ listed.getD k true = false := by
        apply Classical.byContradiction
        intro hno
        have : ∀ m, m ≤ ops.size → unl listed m = 0 := by
          intro m
          induction m with
          | zero => intro _; rfl
          | succ m ih =>
            intro hm
            simp only [unl, ih (by omega)]
            cases hl : listed.getD m true
            · exact absurd ⟨m, by omega, hl⟩ hno
            · simp
        have := this _ (Nat.le_refl _)
        omega
      obtain ⟨i, hi⟩ := some_readyF hf I.size ops.size (Nat.le_refl _) hex
      rw [hr] at hi
      cases hi
  induction fuel with
  | zero =>
    intro listed g act w hu I
    have h0 : unl listed ops.size = 0 := by omega
    refine ⟨?_, done listed g act w h0 I⟩
    have hall := unl_zero h0
    cases hr : Region.ready md ops listed with
    | nil => rfl
    | cons i r =>
      have hi : i ∈ Region.ready md ops listed := by rw [hr]; simp
      obtain ⟨h1, o, ho, _⟩ := mem_ready.1 hi
      rw [hall i (at_lt ho)] at h1
      cases h1
  | succ fuel ih =>
    intro listed g act w hu I
    refine ⟨fun hr => done listed g act w (noReady listed g act w I hr) I, fun i hi => ?_⟩
    obtain ⟨hun, o, ho, hedges⟩ := mem_ready.1 hi
    have hilt := at_lt ho
    have hun' : listed.getD i false = false := by rw [two_getD (by rw [I.size]; omega) false true]; exact hun
    have hcount := unl_set hun ops.size hilt
    have his : i < listed.size := by rw [I.size]; exact hilt
    have hset : (listed.setIfInBounds i true).getD i false = true := by simp [his]
    have hother : ∀ k, k ≠ i → (listed.setIfInBounds i true).getD k false = listed.getD k false := fun k hk => getD_set_ne false (fun e => hk e.symm)
    have hdi : dst ops i = o.dst := by simp [dst, ho]
    cases hal : al i with
    | none =>
      obtain ⟨o2, ho2, hy⟩ := hq i hilt hal
      rw [ho] at ho2
      cases ho2
      have evs : ∀ t, t ∈ o.looksAt ops → act.eval (.tmp t) = (cp ops vs a (fun k => (al k).isNone) i).eval (.tmp t) := by
        intro t ht
        rw [I.act]
        by_cases hex : ∃ k, k < ops.size ∧ dst ops k = some t
        · obtain ⟨k, hk, hd⟩ := hex
          obtain ⟨hak, e, he, hb, hon⟩ := hf.dep i o t k ho ht hd
          have hkl : listed.getD k false = true := by rw [← hon]; exact hedges e he hb
          have hki : k < i := by rw [← hon]; exact hf.lex i o e ho he hb
          rw [eval_hit (vg mk al vs g) a _ t k hd hkl ops.size hk fun j hj hjk => hf.apart k j t (dst_lt hd) (by omega) (fun e => hjk e.symm) hd,
            eval_hit vs a _ t k hd (by simp [hak]) i hki fun j hj hjk => hf.apart k j t (dst_lt hd) (by omega) (fun e => hjk e.symm) hd]
          unfold vg
          rw [hak]
          rfl
        · have hno : ∀ k, k < ops.size → dst ops k ≠ some t := fun k hk hd => hex ⟨k, hk, hd⟩
          rw [eval_none (vg mk al vs g) a _ t ops.size hno, eval_none vs a _ t i fun k hk => hno k (by omega)]
      obtain ⟨e1, e2⟩ := same_of_evals (hf.sel i o · · ho) evs
      have hy' := (hy w I.below).of_same e1 e2
      refine wpOp_of_qOp (C := fun Y => Below w.heap.size w Y) (K := fun a' => a' = act.put o.dst (vs i)) (Below.refl _ _) ?_ (hy'.qOp ho rfl)
      rintro a' w' hw' rfl
      refine ih _ g _ _ (by omega) ⟨by simp [I.size], ?_, I.below.trans (hw'.mono I.below.size), fun k obj hk hkl => ?_, fun k k' h1 h2 hk hk' hne => ?_⟩
      · have := cp_set (ops := ops) (vg mk al vs g) a (c := fun k => listed.getD k false) (c' := fun k => (listed.setIfInBounds i true).getD k false) i ops.size hilt hun' hset hother (fun k t hk hki hd => hf.apart k i t (dst_lt hd) hilt hki hd)
        rw [this, ← I.act, hdi]
        unfold vg
        rw [hal]
        rfl
      · have hki : k ≠ i := by rintro rfl; rw [hal] at hk; cases hk
        rw [hother k hki] at hkl
        obtain ⟨h1, h2⟩ := I.row k obj hk hkl
        exact ⟨h1, (hw'.block _ (Array.getElem?_eq_some_iff.1 h2).1).trans h2⟩
      · have hki : k ≠ i := by rintro rfl; rw [hal] at h1; cases h1
        have hki' : k' ≠ i := by rintro rfl; rw [hal] at h2; cases h2
        rw [hother k hki] at hk
        rw [hother k' hki'] at hk'
        exact I.ne k k' h1 h2 hk hk' hne
    | some obj =>
      obtain ⟨o2, ho2, hgd, hrun⟩ := ha i obj hal
      rw [ho] at ho2
      cases ho2
      have hwant : Region.wanted o (yielded ops act.tmps) = true := by unfold Region.wanted; rw [hgd]
      unfold wpOp
      simp only [ho]
      rw [if_pos hwant]
      left
      unfold Oper.wp
      rw [hrun]
      simp only [Oper.upon]
      have hg : ∀ k, k ≠ i → (fun k => if k = i then w.heap.size else g k) k = g k := fun k hk => if_neg hk
      refine ih _ (fun k => if k = i then w.heap.size else g k) _ _ (by omega) ⟨by simp [I.size], ?_, I.below.alloc I.below.size obj, fun k ob hk hkl => ?_, fun k k' h1 h2 hk hk' hne => ?_⟩
      · have := cp_set (ops := ops) (vg mk al vs (fun k => if k = i then w.heap.size else g k)) a (c := fun k => listed.getD k false) (c' := fun k => (listed.setIfInBounds i true).getD k false) i ops.size hilt hun' hset hother (fun k t hk hki hd => hf.apart k i t (dst_lt hd) hilt hki hd)
        rw [this, hdi, I.act]
        have e : cp ops (vg mk al vs g) a (fun k => listed.getD k false) ops.size = cp ops (vg mk al vs (fun k => if k = i then w.heap.size else g k)) a (fun k => listed.getD k false) ops.size := by
          refine cp_vals a _ _ fun k hk hkl => ?_
          have hki : k ≠ i := by rintro rfl; rw [hun'] at hkl; cases hkl
          unfold vg
          simp only [if_neg hki]
        rw [e]
        congr 1
        unfold vg
        simp [hal]
      · by_cases hki : k = i
        · subst hki
          rw [hal] at hk
          cases hk
          simp only [if_true]
          exact ⟨I.below.size, heap_alloc_new w obj⟩
        · rw [hother k hki] at hkl
          obtain ⟨h1, h2⟩ := I.row k ob hk hkl
          simp only [if_neg hki]
          exact ⟨h1, (Below.heap_alloc _ _ _ (Array.getElem?_eq_some_iff.1 h2).1).trans h2⟩
      · have lt : ∀ q, q ≠ i → (al q).isSome → (listed.setIfInBounds i true).getD q false = true → g q < w.heap.size := fun q hq h hl => by
          obtain ⟨ob, hob⟩ := Option.isSome_iff_exists.1 h
          rw [hother q hq] at hl
          exact (Array.getElem?_eq_some_iff.1 (I.row q ob hob hl).2).1
        by_cases hki : k = i
        · have hki' : k' ≠ i := fun e => hne (hki.trans e.symm)
          simp only [if_pos hki, if_neg hki']
          have := lt k' hki' h2 hk'
          omega
        · by_cases hki' : k' = i
          · simp only [if_neg hki, if_pos hki']
            have := lt k hki h1 hk
            omega
          · simp only [if_neg hki, if_neg hki']
            rw [hother k hki] at hk
            rw [hother k' hki'] at hk'
            exact I.ne k k' h1 h2 hk hk' hne
end
end Fr3
namespace Fr3
open Rg
def alF (n m : Nat) (obj : Nat → Obj) (k : Nat) : Option Obj := if n ≤ k ∧ k < n + m then some (obj k) else none

def frB (md : Region.Mode) (ops : Array Oper) (n m : Nat) : Bool :=
  decide (ops.size = n + m) && Region.noSelect ops &&
  ((List.range ops.size).all fun i => (List.range ops.size).all fun j => i == j || (dst ops i).isNone || dst ops i != dst ops j) &&
  ((List.range ops.size).all fun i => match ops[i]? with
    | none => true
    | some o => (o.after.all fun e => !Region.binds md e || decide (e.on < i)) &&
      ((o.looksAt ops).all fun t => (List.range ops.size).all fun k => dst ops k != some t || (decide (k < n) && o.after.any fun e => Region.binds md e && e.on == k)))

theorem fineF_of {md : Region.Mode} {ops : Array Oper} {n m : Nat} {obj : Nat → Obj} (h : frB md ops n m = true) : FineF md ops (alF n m obj) := by
  unfold frB at h
  simp only [Bool.and_eq_true] at h
  obtain ⟨⟨⟨_, h1⟩, h2⟩, h3⟩ := h
  rw [List.all_eq_true] at h2 h3
  refine ⟨Region.noSelect_spec h1, ?_, ?_, ?_⟩
  · intro i j t hi hj hne hd e
    have := h2 i (List.mem_range.2 hi)
    rw [List.all_eq_true] at this
    have := this j (List.mem_range.2 hj)
    simp [hne, hd, e] at this
  · intro i o t k ho ht hd
    have := h3 i (List.mem_range.2 (at_lt ho))
    simp only [ho, Bool.and_eq_true] at this
    have := this.2
    rw [List.all_eq_true] at this
    have := this t ht
    rw [List.all_eq_true] at this
    have := this k (List.mem_range.2 (dst_lt hd))
    simp only [hd, bne_self_eq_false, Bool.false_or, Bool.and_eq_true, decide_eq_true_eq] at this
    obtain ⟨hk, this⟩ := this
    rw [Array.any_eq_true'] at this
    obtain ⟨e, he, hb⟩ := this
    simp at hb
    exact ⟨by unfold alF; rw [if_neg (by omega)], e, he, hb.1, hb.2⟩
  · intro i o e ho he hb
    have := h3 i (List.mem_range.2 (at_lt ho))
    simp only [ho, Bool.and_eq_true] at this
    have := this.1
    rw [Array.all_eq_true'] at this
    have := this e he
    simpa [hb] using this
theorem size_frB {md : Region.Mode} {ops : Array Oper} {n m : Nat} (h : frB md ops n m = true) : ops.size = n + m := by
  unfold frB at h
  simp only [Bool.and_eq_true, decide_eq_true_eq] at h
  exact h.1.1.1

/-- the slots of the first n operations are there -/
def slotsB (ops : Array Oper) (n sz : Nat) : Bool := (List.range n).all fun i => match dst ops i with | some t => decide (t < sz) | none => false

theorem any_fr {mk : Nat → Nat → Value} {P : Program} {md : Region.Mode} {ops : Array Oper} {a af : Act} {W : World} {K : Act → World → Prop} (n m : Nat) (obj : Nat → Obj) (hB : frB md ops n m = true) (hS : slotsB ops n a.tmps.size = true)
    (ha : ∀ i, n ≤ i → i < n + m → ∃ o, ops[i]? = some o ∧ o.guard = none ∧ ∀ (ρ : Act) w, (execOp ρ.eval o).run P w = .ok (.value (mk i w.heap.size)) (w.alloc (obj i)))
    (hq : ∀ X, Below W.heap.size W X → ∀ ov : Ov X, wpQuiet P ops (fun w' => ∃ u, w' = ov.f u) (fun a' => a' = af) (ops.toList.take n) a)
    (hK : ∀ (g : Nat → Nat) w, Below W.heap.size W w → (∀ k, n ≤ k → k < n + m → W.heap.size ≤ g k ∧ w.heap[g k]? = some (obj k)) → (∀ k k', n ≤ k → k < n + m → n ≤ k' → k' < n + m → k ≠ k' → g k ≠ g k') →
      K ((List.range m).foldl (fun a' j => a'.put (dst ops (n + j)) (mk (n + j) (g (n + j)))) af) w) :
    wpAny P md ops (onlyK K) ops.size (Array.replicate ops.size false) a W.drew := by
  have hf := fineF_of (obj := obj) hB
  have hsz := size_frB hB
  have hvals : ∀ X, Below W.heap.size W X → ∃ vs : Nat → Value, (∀ j, j < n → ∃ o, ops[j]? = some o ∧ YieldsIn P ops (fun Y => Below X.heap.size X Y) o (vs j) (cp ops vs a (fun _ => true) j)) ∧ cp ops vs a (fun _ => true) n = af := by
    intro X hX
    obtain ⟨ov⟩ := ov_ex X
    obtain ⟨vs, h1, h2⟩ := lex_values (ops := ops) (ops.toList.take n) 0 a (fun j hj => by
      have : j < n := by simp at hj; omega
      simp [List.getElem?_take, this]) (hq X hX ov)
    have hlen : (ops.toList.take n).length = n := by simp; omega
    rw [hlen] at h1 h2
    rw [fold_cp] at h2
    refine ⟨vs, fun j hj => ?_, h2⟩
    obtain ⟨o, b, g1, g2, g3⟩ := h1 j hj
    rw [fold_cp] at g3
    rw [g3] at g2
    have hC : (fun w' => ∃ u, w' = ov.f u) = (fun Y => Below X.heap.size X Y) := by
      funext Y
      exact propext ⟨fun ⟨u, hu⟩ => hu ▸ ov.below u, fun h => ⟨Y, (ov.eq Y h).symm⟩⟩
    rw [hC] at g2
    exact ⟨o, by simpa using g1, g2⟩
  -- the values hang on the frame alone
  have hone : ∀ vs : Nat → Value, cp ops vs a (fun _ => true) n = af → ∀ j, j < n → vs j = (match dst ops j with | some t => af.eval (.tmp t) | none => undef) := by
    intro vs he j hj
    have hs := List.all_eq_true.1 hS j (List.mem_range.2 hj)
    cases hd : dst ops j with
    | none => rw [hd] at hs; cases hs
    | some t =>
      rw [hd] at hs
      have ht : t < a.tmps.size := by simpa using hs
      have := eval_hit (ops := ops) vs a (fun _ => true) t j hd rfl n hj (fun i hi hij => hf.apart j i t (by omega) (by omega) (fun e => hij e.symm) hd)
      rw [he, if_pos ht] at this
      exact this.symm
  obtain ⟨vs, h1, h2⟩ := hvals W (Below.refl _ _)
  have hcn : ∀ (vs' : Nat → Value) (c : Nat → Bool) (i : Nat), (∀ k, k < i → c k = true) → (∀ k, k < i → vs' k = vs k) → cp ops vs' a c i = cp ops vs a (fun _ => true) i := by
    intro vs' c i hc hv
    rw [cp_congr (ops := ops) vs' a (c' := fun _ => true) i hc]
    exact cp_vals a _ _ fun k hk _ => hv k hk
  refine any_free (mk := mk) (al := alF n m obj) hf (W := W) (vs := vs) (a := a) ?_ ?_ ?_ _ _ (fun _ => 0) _ _ ?_ ?_
  · intro i hi hal
    have hin : i < n := by
      unfold alF at hal
      by_cases h : n ≤ i ∧ i < n + m
      · rw [if_pos h] at hal; cases hal
      · omega
    obtain ⟨o, ho, _⟩ := h1 i hin
    refine ⟨o, ho, fun X hX => ?_⟩
    obtain ⟨vs', g1, g2⟩ := hvals X hX
    obtain ⟨o', ho', hy⟩ := g1 i hin
    rw [ho] at ho'
    cases ho'
    have hv : ∀ k, k < n → vs' k = vs k := fun k hk => (hone vs' g2 k hk).trans (hone vs h2 k hk).symm
    rw [hv i hin, hcn vs' (fun _ => true) i (fun _ _ => rfl) (fun k hk => hv k (by omega))] at hy
    rw [hcn vs (fun k => (alF n m obj k).isNone) i (fun k hk => by unfold alF; rw [if_neg (by omega)]; rfl) (fun _ _ => rfl)]
    exact hy
  · intro i ob hal
    unfold alF at hal
    by_cases h : n ≤ i ∧ i < n + m
    · rw [if_pos h] at hal
      cases hal
      exact ha i h.1 h.2
    · rw [if_neg h] at hal; cases hal
  · intro g w hb hrow hne
    have hal : ∀ k, n ≤ k → k < n + m → alF n m obj k = some (obj k) := fun k h1 h2 => by unfold alF; rw [if_pos ⟨h1, h2⟩]
    have h3 := hK g w hb (fun k hk hk2 => hrow k (obj k) (hal k hk hk2) (by omega)) (fun k k' hk hk2 hk' hk2' hkk => hne k k' (by omega) (by omega) (by rw [hal k hk hk2]; rfl) (by rw [hal k' hk' hk2']; rfl) hkk)
    have hfold : ∀ q, q ≤ m → cp ops (vg mk (alF n m obj) vs g) a (fun _ => true) (n + q) = (List.range q).foldl (fun a' j => a'.put (dst ops (n + j)) (mk (n + j) (g (n + j)))) af := by
      intro q
      induction q with
      | zero =>
        intro _
        rw [← h2]
        exact cp_vals a _ _ fun k hk _ => by
          have hk' : k < n := hk
          have hno : alF n m obj k = none := by unfold alF; rw [if_neg (by omega)]
          unfold vg
          rw [hno]
          rfl
      | succ q ih =>
        intro hqm
        rw [List.range_succ, List.foldl_append, ← ih (by omega)]
        show (if true then _ else _) = _
        rw [if_pos rfl]
        simp only [List.foldl_cons, List.foldl_nil]
        congr 1
        unfold vg
        show (if (alF n m obj (n + q)).isSome = true then mk (n + q) (g (n + q)) else vs (n + q)) = _
        rw [hal (n + q) (by omega) (by omega)]
        rfl
    rw [hsz, hfold m (Nat.le_refl _)]
    exact h3
  · have : ∀ k, k ≤ ops.size → unl (Array.replicate ops.size false) k ≤ k := by
      intro k
      induction k with
      | zero => intro _; exact Nat.le_refl _
      | succ k ih => intro hm; have := ih (by omega); simp only [unl]; split <;> omega
    exact this _ (Nat.le_refl _)
  · have hz : ∀ k, (Array.replicate ops.size false).getD k false = false := fun k => by simp [Array.getElem?_replicate]; split <;> simp
    refine ⟨by simp, ?_, (Below.refl _ _).drew, fun k ob _ hl => (by rw [hz] at hl; cases hl), fun k k' _ _ hl => (by rw [hz] at hl; cases hl)⟩
    have : ∀ k, cp ops (vg mk (alF n m obj) vs fun _ => 0) a (fun k => (Array.replicate ops.size false).getD k false) k = a := by
      intro k
      induction k with
      | zero => rfl
      | succ k ih => simp only [cp, ih]; rw [hz]; simp
    exact (this _).symm
end Fr3

/-- A drawn region: n operations that read and call (one walk over whatever world), m allocs that wait for nothing, a tail in sequence. -/
theorem wp_region_fr3 (mk : Nat → Nat → Value) {P : Program} {id : Nat} {Q : Exit → Act → World → Prop} {a : Act} {W : World} {l : List Oper} (n m : Nat) (obj : Nat → Obj) (af : Act) (hm : P.follows .mixedOrders = true) (hsp : splitB l (n + m) = true)
    (hB : Fr3.frB .any (l.take (n + m)).toArray n m = true) (hS : Fr3.slotsB (l.take (n + m)).toArray n a.tmps.size = true)
    (ha : ∀ i, n ≤ i → i < n + m → ∃ o, (l.take (n + m)).toArray[i]? = some o ∧ o.guard = none ∧ ∀ (ρ : Act) w, (execOp ρ.eval o).run P w = .ok (.value (mk i w.heap.size)) (w.alloc (obj i)))
    (hq : ∀ X, Below W.heap.size W X → ∀ ov : Ov X, wpQuiet P (l.take (n + m)).toArray (fun w' => ∃ u, w' = ov.f u) (fun a' => a' = af) (l.take n) a)
    (hK : ∀ (g : Nat → Nat) w, Below W.heap.size W w → (∀ k, n ≤ k → k < n + m → W.heap.size ≤ g k ∧ w.heap[g k]? = some (obj k)) → (∀ k k', n ≤ k → k < n + m → n ≤ k' → k' < n + m → k ≠ k' → g k ≠ g k') →
      wpList P l.toArray Q (l.drop (n + m)) ((List.range m).foldl (fun a' j => a'.put (Rg.dst (l.take (n + m)).toArray (n + j)) (mk (n + j) (g (n + j)))) af) w) :
    (Code.region id l.toArray true).wp P Q a W := by
  refine wp_region_split (n + m) hm hsp ?_
  have hsz := Fr3.size_frB hB
  have h := Fr3.any_fr (mk := mk) (P := P) (md := .any) (K := fun a w => wpList P l.toArray Q (l.drop (n + m)) a w) n m obj hB hS ha (fun X hX ov => by
    have e : ((l.take (n + m)).toArray.toList.take n) = l.take n := by
      rw [List.take_take]
      congr 1
      omega
    rw [e]
    exact hq X hX ov) hK
  rw [hsz] at h
  exact Rg.wpAny_out (fun _ _ h => h) _ _ _ _ h
end Go.Proofs.YtmebpgggfppmhaaDoor
end
section
namespace Go.Proofs.YtmebpgggfppmhaaDoor
set_option linter.unusedVariables false
set_option linter.unusedSimpArgs false
namespace R
open T (Nd F)

theorem mres_eq {r : Rl} {t : List Nd} (hb : Bare (T.root r.left)) : mres r t = if 0 < mw r t then ((prs (T.root r.left) (T.root t)).bind fun L => bnds (mw r t) L St.none).bind (fun s => if (r.pre.all (cond (mw r t) s.hs)) = true then some s else none) else none := by
  unfold mres mtch mfit
  rw [show mtw r t (T.root r.left) (T.root t) = mw r t from rfl]
  split
  · rw [fit_prs _ _ _ hb]
  · rfl

theorem hs_fit {r : Rl} {t : List Nd} (hr : ROk r) (ht : TOk t) (him : ∀ x ∈ t, 0 ≤ x.imm) {s : St} {L : List Pr} (h0 : 0 < mw r t) (hL : prs (T.root r.left) (T.root t) = some L) (h1 : bnds (mw r t) L St.none = some s) : B.isWd (mw r t) = true ∧ HsOk (mw r t) s.hs ∧ ∀ i f, s.v i = some f → T.One f := by
  have hfp := T.root_rep (pnode_ord hr.lp) hr.lpos
  have hft := T.root_rep ht.ord ht.pos
  have hbare := rep_bare (fun z hz => by
    obtain ⟨k, hk⟩ := List.mem_iff_getElem?.1 hz
    exact pnode_bare (hr.lp k z hk)) hfp
  have hr' : ROk ⟨r.left, r.right, []⟩ := ⟨hr.lpos, hr.llen, hr.rpos, hr.rlen, by simp, hr.lp, hr.rp, rfl, hr.lt, hr.rt, hr.root, hr.same, hr.occ, fun c hc => by simp at hc⟩
  have hm : mtch ⟨r.left, r.right, []⟩ cond t (T.root r.left) (T.root t) = some s := by
    unfold mtch mfit
    rw [show mtw ⟨r.left, r.right, []⟩ t (T.root r.left) (T.root t) = mw r t from rfl, if_pos h0, fit_prs _ _ _ hbare, hL]
    simp [h1]
  have := sok hr' ht him hfp hft hm
  exact ⟨this.wd, this.hs, fun i f hf => (this.inT i f hf).one⟩

theorem wd2_pos {l : List Pr} {j : Nat} (hw : ∀ x ∈ l, 0 < x.tw) (h : 0 < wd2 (l.take j)) : wd2 l = wd2 (l.take j) := by
  have e := wd2_app (l.take j) (l.drop j) (fun x hx => hw x (List.mem_of_mem_take hx))
  rw [List.take_append_drop, if_pos h] at e
  exact e
theorem wd2_next {l : List Pr} {j : Nat} {x : Pr} (hw : ∀ x ∈ l, 0 < x.tw) (hx : l[j]? = some x) (h : wd2 (l.take j) = 0) : wd2 (l.take (j + 1)) = if x.op = 33 ∨ x.op = 34 then x.tw else 0 := by
  rw [take_next hx, wd2_app _ _ (fun x hx => hw x (List.mem_of_mem_take hx)), h, if_neg (by omega)]
  simp [wd2]
theorem bnds_next {w : Int} {l : List Pr} {j : Nat} {x : Pr} {s : St} (hx : l[j]? = some x) (h : bnds w (l.take j) St.none = some s) : bnds w (l.take (j + 1)) St.none = bnd w s x := by
  rw [take_next hx, bnds_app, h]
  simp only [Option.bind_some, bnds]
  cases bnd w s x <;> rfl
theorem bnds_bad {w : Int} {l : List Pr} {j : Nat} (h : bnds w (l.take j) St.none = none) : bnds w l St.none = none := by
  have e := bnds_app w (l.take j) (l.drop j) St.none
  rw [List.take_append_drop, h] at e
  exact e
end R
end Go.Proofs.YtmebpgggfppmhaaDoor
end
section
namespace Go.Proofs.YtmebpgggfppmhaaDoor
open Go.RowKit
set_option linter.unusedVariables false
set_option linter.unusedSimpArgs false

theorem wd2_nonneg {l : List R.Pr} (hw : ∀ x ∈ l, 0 < x.tw) : 0 ≤ R.wd2 l := by
  induction l with
  | nil => simp [R.wd2]
  | cons x l ih =>
    unfold R.wd2
    split
    · have := hw x (by simp); omega
    · exact ih fun y hy => hw y (by simp [hy])
def mkB (k g : Nat) : Value := match k with
  | 0 => .slice (some ⟨g, 0, none⟩) 4 4
  | 1 => .slice (some ⟨g, 0, none⟩) 4 4
  | 2 => .slice (some ⟨g, 0, none⟩) 2 2
  | _ => .slice (some ⟨g, 0, none⟩) 2 2
def obB (k : Nat) : Obj := match k with
  | 0 => .cells #[.slice none 0 0, .slice none 0 0, .slice none 0 0, .slice none 0 0] 22
  | 1 => .cells #[.bool false, .bool false, .bool false, .bool false] 4
  | 2 => .cells #[.int .u32 0, .int .u32 0] 39
  | _ => .cells #[.bool false, .bool false] 4
theorem rbd_new {w : World} {g0 g1 g2 g3 : Nat} {B : Nat} (hb : B ≤ w.heap.size) (h0 : B ≤ g0 ∧ w.heap[g0]? = some (obB 0)) (h1 : B ≤ g1 ∧ w.heap[g1]? = some (obB 1)) (h2 : B ≤ g2 ∧ w.heap[g2]? = some (obB 2)) (h3 : B ≤ g3 ∧ w.heap[g3]? = some (obB 3)) (hne : g1 ≠ g3) :
    RBd B (w.alloc (.cells #[.slice (some ⟨g0, 0, none⟩) 4 4, .slice (some ⟨g1, 0, none⟩) 4 4, .slice (some ⟨g2, 0, none⟩) 2 2, .slice (some ⟨g3, 0, none⟩) 2 2] 81)) w.heap.size R.St.none := by
  refine ⟨g0, g1, g2, g3, _, _, _, _, ⟨heap_alloc_new w _, row_alloc h0.2 _, row_alloc h1.2 _, row_alloc h2.2 _, row_alloc h3.2 _⟩, hne, ⟨hb, h0.1, h1.1, h2.1, h3.1⟩, ⟨rfl, rfl, rfl, rfl⟩, fun i hi => ?_, fun i hi => ?_, fun _ _ => rfl⟩
  · rcases (show i = 0 ∨ i = 1 ∨ i = 2 ∨ i = 3 by omega) with rfl | rfl | rfl | rfl <;> exact ⟨_, _, rfl, rfl, rfl, rfl⟩
  · rcases (show i = 0 ∨ i = 1 by omega) with rfl | rfl <;> exact ⟨_, _, rfl, rfl, rfl, rfl⟩

def RMatchPost (W : World) (r : R.Rl) (t : List T.Nd) (e : Ending) (W' : World) : Prop :=
  Below W.heap.size W W' ∧ ((R.mres r t = none ∧ ∃ v i, e = .returned (.tuple #[v, .int .i64 i, .bool false])) ∨
    ∃ s gb, R.mres r t = some s ∧ e = .returned (.tuple #[.pointer (some ⟨gb, 0, none⟩), .int .i64 (R.mw r t), .bool true]) ∧ RBd W.heap.size W' gb s)
theorem RBd.weak {B B' gb : Nat} {w : World} {s : R.St} (h : RBd B' w gb s) (hb : B ≤ B') : RBd B w gb s := by
  obtain ⟨g0, g1, g2, g3, ts, hs, ns, gs, hp⟩ := h
  obtain ⟨a, b, c, d, e⟩ := hp.ge
  refine ⟨g0, g1, g2, g3, ts, hs, ns, gs, hp.rows, hp.ne, ⟨by omega, by omega, by omega, by omega, by omega⟩, hp.sz, fun i hi => ?_, hp.h, hp.hi⟩
  obtain ⟨v, bb, h1, h2, h3⟩ := hp.v i hi
  refine ⟨v, bb, h1, h2, ?_⟩
  cases hv : s.v (i : Int) with
  | none => rw [hv] at h3; exact h3
  | some f => rw [hv] at h3; exact ⟨h3.1, h3.2.1, h3.2.2.weak hb⟩
theorem RBd.below {B gb : Nat} {w w' : World} {s : R.St} (h : RBd B w gb s) (hb : Below w.heap.size w w') : RBd B w' gb s := by
  obtain ⟨g0, g1, g2, g3, ts, hs, ns, gs, hp⟩ := h
  exact ⟨g0, g1, g2, g3, ts, hs, ns, gs, hp.below hb⟩
/-- the numbers for holes -/
theorem RBp.holes {B : Nat} {w : World} {gb g0 g1 g2 g3 : Nat} {ts hs ns gs : Array Value} {s : R.St} (h : RBp B w gb g0 g1 g2 g3 ts hs ns gs s) : SlAt (IntR .u32) w (some ⟨g2, 0, none⟩) 2 s.hs := by
  have hget : ∀ k : Nat, k < 2 → ∀ z, s.hs[k]? = some z → ns[k]? = some (.int .u32 z) := fun k hk z hz => by
    obtain ⟨n, b, h1, h2, h3⟩ := h.h k hk
    have e : n = (s.h (k : Int)).getD 0 := by
      cases hv : s.h (k : Int) with
      | none => rw [hv] at h3; exact h3.2
      | some m => rw [hv] at h3; exact h3.2
    have e2 : z = (s.h (k : Int)).getD 0 := by
      unfold R.St.hs at hz
      rcases (show k = 0 ∨ k = 1 by omega) with rfl | rfl
      · simp at hz; exact hz.symm
      · simp at hz; exact hz.symm
    rw [h1, e, e2]
  refine ⟨rfl, by omega, fun k z hz => ?_⟩
  have hk : k < 2 := by have := (List.getElem?_eq_some_iff.1 hz).1; simpa [R.St.hs] using this
  refine ⟨g2, 0, .int .u32 z, rfl, (Array.getElem?_eq_some_iff.1 h.rows.r2).1, ?_, rfl⟩
  rw [Nat.zero_add]
  exact (row_at h.rows.r2 (hget k hk z hz)).1

set_option maxRecDepth 100000 in
set_option maxHeartbeats 8000000 in
theorem rmatch_any {r : R.Rl} {t : List T.Nd} {n cl nr cr np cp m ct : Nat} {AL AR AP At : Option Addr} {W : World} (hR : RlAt W r (n + 1) nr np AL AR AP) (hT : StAt 5 NdR W At (m + 1) t) (hr : R.ROk r) (ht : R.TOk t) :
    Calls Tryd.prog 44 #[.agg #[.slice AL (n + 1) cl, .slice AR nr cr, .slice AP np cp], .slice At (m + 1) ct] W (RMatchPost W r t) := by
  have hol := R.pnode_ord hr.lp
  have hot := ht.ord
  have hll := hR.sl.len
  have htl := hT.len
  have hleL := hR.sl.le
  have hleT := hT.le
  have hfp := T.root_rep hol hr.lpos
  have hft := T.root_rep hot ht.pos
  rw [hll, show ((n + 1 : Nat) : Int) - 1 = (n : Int) by omega] at hfp
  rw [htl, show ((m + 1 : Nat) : Int) - 1 = (m : Int) by omega] at hft
  have hsm : ∀ x ∈ r.left, x.args.length ≤ 3 := fun x hx => by
    obtain ⟨k, hk⟩ := List.mem_iff_getElem?.1 hx
    exact R.pnode_small (hr.lp k x hk)
  have hsz : (T.root r.left).size ≤ 300000 := by
    have h1 := T.size_bd hol hsm 12 hfp (fun a ha => by
      have := hr.llen
      simp at ha; omega)
    have h2 : T.cc 12 = 265720 := by decide
    rw [h2] at h1
    simp at h1; omega
  have hwide := R.rep_wide (fun x hx => by have := (ht.at_ hx).2.1.1; omega) hft
  have hbare := R.rep_bare (fun z hz => by
    obtain ⟨k, hk⟩ := List.mem_iff_getElem?.1 hz
    exact R.pnode_bare (hr.lp k z hk)) hfp
  have him := nd_imm hT
  have hmr := R.mres_eq (r := r) (t := t) hbare
  obtain ⟨W1, hW1⟩ : ∃ W1, W1 = W.alloc (.cells #[.slice AL (n + 1) cl, .slice AR nr cr, .slice AP np cp] 25) := ⟨_, rfl⟩
  have hb1 : Below W.heap.size W W1 := by rw [hW1]; exact (Below.refl _ _).alloc (Nat.le_refl _) _
  have hrow : W1.heap[W.heap.size]? = some (.cells #[.slice AL (n + 1) cl, .slice AR nr cr, .slice AP np cp] 25 (0, 0)) := by rw [hW1]; exact heap_alloc_new W _
  obtain ⟨c0, c1, c2, _⟩ := rl_cells hrow
  have Hrow := Lib.hid (fun (X : World) (h : Below W1.heap.size W1 X) => rl_cells ((h.block _ (Array.getElem?_eq_some_iff.1 hrow).1).trans hrow))
  have Hb1 := Lib.hid hb1
  have HR1 := Lib.hid (hR.below hb1)
  have HT1 := Lib.hid (hT.below monoNd hb1)
  have HW1 := Lib.hid hW1
  have Hps := Lib.hid (rpairs_any (cp := cl) (ct := ct) HR1.out.sl HT1.out hol hot hsm hfp hft hsz)
  have Hr := Lib.hid hr
  have Ht := Lib.hid ht
  have Hmr := Lib.hid hmr
  have Him := Lib.hid him
  have Hwide := Lib.hid hwide
  rw [hW1] at c0 c1 c2
  obtain ⟨x, bx, ox, Ax, cx, hx, hA, hbx, _, x1, _, _, _, _, _, _⟩ := nd_cells HR1.out.sl (show n < n + 1 by omega)
  subst hA
  obtain ⟨y, by_, oy, Ay, cy, hy, hAt, hby, _, y1, _, _, _, _, _, _⟩ := nd_cells HT1.out (show m < m + 1 by omega)
  subst hAt
  have Hx1 := Lib.hid (fun (X : World) (h : Below W1.heap.size W1 X) => (h.cell (p := ⟨bx, ox + n * 5 + 1, none⟩) hbx).trans x1)
  have Hy1 := Lib.hid (fun (X : World) (h : Below W1.heap.size W1 X) => (h.cell (p := ⟨by_, oy + m * 5 + 1, none⟩) hby).trans y1)
  have Hrx := Lib.hid (show R.rootW r.left = x.w from by unfold R.rootW; rw [hll, Nat.add_sub_cancel, List.getD_eq_getElem?_getD, hx]; rfl)
  have Hry := Lib.hid (show R.rootW t = y.w from by unfold R.rootW; rw [htl, Nat.add_sub_cancel, List.getD_eq_getElem?_getD, hy]; rfl)
  have Hyw := Lib.hid (show 1 ≤ y.w ∧ y.w ≤ 32 from (ht.at_ (List.mem_of_getElem? hy)).2.1)
  have Hw32 := Lib.hid (R.wd1_le (T.root r.left) (T.root t) (R.rep_w32 (fun z hz => (ht.at_ hz).2.1.2) hft))
  have Hll := Lib.hid hll
  have Htl := Lib.hid htl
  have Hol := Lib.hid hol
  have Hot := Lib.hid hot
  clear hR hT hr ht hol hot hll htl hfp hft hsm hsz hwide hbare him hmr hb1 hrow hW1 hx hy hbx hby x1 y1
  go_enter Tryd.func44, Tryd.ntmps44
  go_wp2_with fail
  rw [← HW1.out]
  (with_reducible refine Hps.out.mono ?_)
  rintro e w2 ⟨hb2, (⟨hn, rfl⟩ | ⟨A, c, O, L, hL, hOL, rfl, hown⟩)⟩
  · have Hb2 := Lib.hid (Hb1.out.trans (hb2.mono Hb1.out.size))
    have Hn := Lib.hid (show R.mres r t = none from by rw [Hmr.out, hn]; simp)
    clear hb2 hn c0 c1 c2
    go_wp2
    go_ret3
    exact ⟨Hb2.out, .inl ⟨Hn.out, _, _, rfl⟩⟩
  have Hb2 := Lib.hid hb2
  have HL := Lib.hid hL
  have HOL := Lib.hid hOL
  have Hown := Lib.hid hown
  obtain ⟨N, hN⟩ : ∃ N, O.length = N := ⟨_, rfl⟩
  have HN := Lib.hid hN
  have HNL := Lib.hid (show L.length = N from by rw [← hOL.1]; exact hN)
  have Htw := Lib.hid (R.prs_wide _ _ Hwide.out L hL)
  have Hle := Lib.hid hown.1.le
  rw [hN] at hown ⊢
  have HO2 := Lib.hid hown
  obtain ⟨d0, d1, d2, _⟩ := Hrow.out _ hb2
  have x1 := Hx1.out _ hb2
  have y1 := Hy1.out _ hb2
  have HPr := Lib.hid (show ∀ (j : Nat), j < N → ∃ q pr, O[j]? = some q ∧ L[j]? = some pr ∧ R.PrAt r.left t q pr from fun j hj => by
    have h1 : j < O.length := by omega
    have h2 : j < L.length := by rw [← hOL.1]; exact h1
    exact ⟨_, _, List.getElem?_eq_getElem h1, List.getElem?_eq_getElem h2, hOL.2 j _ _ (List.getElem?_eq_getElem h1) (List.getElem?_eq_getElem h2)⟩)
  have hle9 : N ≤ 9223372036854775807 := by have := Hle.out; omega
  clear hb2 hL hOL hown hN c0 c1 c2
  go_upto_if 39 with (fail)
  go_cut [9] (fun s9 wx => s9 = .int .i64 (R.mw r t) ∧ Hid (0 < R.mw r t) ∧ Hid (Below w2.heap.size w2 wx))
  case first =>
    by_cases hw1 : x.w = 1
    rotate_left
    · have q : (x.w == 1) = false := by simpa using hw1
      have e : R.mw r t = y.w := by unfold R.mw R.mtw; rw [Hrx.out, if_neg hw1]; exact Hry.out
      have He := Lib.hid e
      clear hw1 e
      go_wp2_with fail
      go_meet
      exact ⟨by rw [He.out], Lib.hid (by rw [He.out]; have := Hyw.out; omega), Lib.hid (Below.refl _ _)⟩
    · have q : (x.w == 1) = true := by simpa using hw1
      have e : R.mw r t = R.wd2 L := by unfold R.mw R.mtw; rw [Hrx.out, if_pos hw1]; exact R.wd_prs _ _ Hwide.out L HL.out
      have He := Lib.hid e
      clear hw1 e
      rw [q]
      clear q
      go_wp2_with fail
      clear d0 d1 d2 x1 y1
      go_loopg [9, 10] (N + 1) (fun gg v9 i wq => ∃ j : Nat, j ≤ N ∧ i = .int .i64 (j : Int) ∧ gg + j = N + 1 ∧ v9 = .int .i64 (R.wd2 (L.take j)) ∧ Hid (Below w2.heap.size w2 wq))
      case atStart => exact ⟨0, Nat.zero_le _, rfl, rfl, rfl, Lib.hid (Below.refl _ _)⟩
      case round =>
        obtain ⟨j, hj, rfl, hgk, rfl, Hbq⟩ := hrel
        obtain ⟨wq, rfl⟩ : ∃ w, w = wr := ⟨_, rfl⟩
        have Hgk := Lib.hid hgk; clear hgk
        by_cases hjn : j < N
        · by_cases hz : R.wd2 (L.take j) = 0
          · have qz : ((0 : Int) == 0) = true := rfl
            rw [hz]
            obtain ⟨q1, pr, hq1, hpr, x', y', hx', hy', tk, htk, epr⟩ := HPr.out j hjn
            obtain ⟨i, k⟩ := q1
            have HbW := Lib.hid (Hb2.out.trans (Hbq.out.mono Hb2.out.size))
            have hi : i < n + 1 := by have := (List.getElem?_eq_some_iff.1 hx').1; rw [Hll.out] at this; exact this
            have hk : k < m + 1 := by have := (List.getElem?_eq_some_iff.1 hy').1; rw [Htl.out] at this; exact this
            obtain ⟨x2, b2, o2, A2, c2, hx2, hA2, hb2, p0, _, _, _, _, _, _, _⟩ := nd_cells HR1.out.sl hi
            obtain rfl : x2 = x' := by rw [hx'] at hx2; exact (Option.some.inj hx2).symm
            injection hA2 with hA2
            injection hA2 with e1 e2 _
            subst e1 e2
            obtain ⟨y2, b3, o3, A3, c3, hy2, hA3, hb3, _, t1', _, _, _, _, _, _⟩ := nd_cells HT1.out hk
            obtain rfl : y2 = y' := by rw [hy'] at hy2; exact (Option.some.inj hy2).symm
            injection hA3 with hA3
            injection hA3 with e1 e2 _
            subst e1 e2
            obtain ⟨gp, op, hAp, s0, s1, hgp, _⟩ := HO2.out.at_ HN.out hq1
            subst hAp
            have d0 := (Hrow.out _ HbW.out).1
            have xx := (HbW.out.cell (p := ⟨bx, ox + i * 5, none⟩) hb2).trans p0
            have yy := (HbW.out.cell (p := ⟨by_, oy + k * 5 + 1, none⟩) hb3).trans t1'
            have ss0 := (Hbq.out.cell (p := ⟨gp, op + j * 2, none⟩) hgp).trans s0
            have ss1 := (Hbq.out.cell (p := ⟨gp, op + j * 2 + 1, none⟩) hgp).trans s1
            have Hnx := Lib.hid (R.wd2_next Htw.out hpr hz)
            rw [epr] at Hnx
            have HY := Lib.hid yy
            have HS1 := Lib.hid ss1
            clear hx2 hy2 hb2 hb3 p0 t1' s0 s1 hgp hpr hz hq1 htk epr hx' hy'
            go_wp2
            obtain ⟨ov⟩ := ov_ex wq
            have n0 := ov.cell d0
            have n1 := ov.cell xx
            have n2 := ov.cell ss0
            refine wp_region_ovq ov (by kernel_rfl) (by kernel_rfl) ?_
            repeat (go_big_quiet_step (fail))
            refine wpQuiet_nil ?_
            rintro _ ⟨u, rfl⟩
            have Hbo := Lib.hid (Hbq.out.trans ((ov.below u).mono Hbq.out.size))
            have yy2 := ((ov.below u).cell (p := ⟨by_, oy + k * 5 + 1, none⟩) (cell_below yy)).trans yy
            have ss2 := ((ov.below u).cell (p := ⟨gp, op + j * 2 + 1, none⟩) (cell_below ss1)).trans ss1
            clear n0 n1 n2 d0 xx yy ss0 ss1
            generalize ov.f u = w4 at *
            clear ov
            by_cases h33 : x2.op = 33
            · have q33 : (x2.op == 33) = true := by simpa using h33
              have e := Hnx.out
              rw [if_pos (.inl h33)] at e
              clear h33
              go_wp2
              go_roundg (gk - 1)
              case measure => have := Hgk.out; omega
              case rel => have := Hgk.out; exact ⟨j + 1, by omega, by go_num, by omega, by rw [e], Hbo⟩
            · have q33 : (x2.op == 33) = false := by simpa using h33
              by_cases h34 : x2.op = 34
              · have q34 : (x2.op == 34) = true := by simpa using h34
                have e := Hnx.out
                rw [if_pos (.inr h34)] at e
                clear h33 h34
                go_wp2
                go_roundg (gk - 1)
                case measure => have := Hgk.out; omega
                case rel => have := Hgk.out; exact ⟨j + 1, by omega, by go_num, by omega, by rw [e], Hbo⟩
              · have q34 : (x2.op == 34) = false := by simpa using h34
                have e := Hnx.out
                rw [if_neg (by omega)] at e
                clear h33 h34
                go_wp2
                go_roundg (gk - 1)
                case measure => have := Hgk.out; omega
                case rel => have := Hgk.out; exact ⟨j + 1, by omega, by go_num, by omega, by rw [e], Hbo⟩
          · have qz : (R.wd2 (L.take j) == 0) = false := by simpa using hz
            have hnn := wd2_nonneg (l := L.take j) (fun x hx => Htw.out x (List.mem_of_mem_take hx))
            have e := R.wd2_pos Htw.out (show 0 < R.wd2 (L.take j) by omega)
            have He2 := Lib.hid e
            have Hps2 := Lib.hid (show 0 < R.mw r t from by rw [He.out, e]; omega)
            clear hz hnn e
            go_wp2_with fail
            go_meet
            exact ⟨by rw [He.out, He2.out], Hps2, Hbq⟩
        · obtain rfl : j = N := by omega
          have e : L.take j = L := List.take_of_length_le (by rw [HNL.out]; exact Nat.le_refl _)
          rw [e]
          clear e
          by_cases hz : R.wd2 L = 0
          · have Hn := Lib.hid (show R.mres r t = none from by rw [Hmr.out, He.out, hz]; simp)
            have HbF := Lib.hid (Hb1.out.trans ((Hb2.out.trans (Hbq.out.mono Hb2.out.size)).mono Hb1.out.size))
            rw [hz]
            clear hz
            go_wp2
            go_ret3
            exact ⟨HbF.out, .inl ⟨Hn.out, _, _, rfl⟩⟩
          · have qz : (R.wd2 L == 0) = false := by simpa using hz
            have Hps2 := Lib.hid (show 0 < R.mw r t from by
              have := wd2_nonneg (l := L) Htw.out
              rw [He.out]; omega)
            clear hz
            go_wp2_with fail
            go_meet
            exact ⟨by rw [He.out], Hps2, Hbq⟩
  case rest =>
  obtain ⟨rfl, Hpos, Hb23⟩ := hcut
  obtain ⟨w3, hw3⟩ : ∃ w3, w3 = wc := ⟨_, rfl⟩
  rw [← hw3] at Hb23 ⊢
  clear hw3 d0 d1 d2 x1 y1
  obtain ⟨mw, hmw⟩ : ∃ mw, R.mw r t = mw := ⟨_, rfl⟩
  have Hmw := Lib.hid hmw
  rw [hmw] at Hmr Hpos ⊢
  have Hb3 := Lib.hid (Hb2.out.trans (Hb23.out.mono Hb2.out.size))
  clear hmw
  have hpos : 0 < mw := Hpos.out
  rw [if_pos hpos, HL.out, Option.bind_some] at Hmr
  have HO3 := Lib.hid (HO2.out.below Hb23.out)
  go_upto_region 15 with (fail)
  go_cut [12] (fun s12 wx => ∃ gb : Nat, s12 = .pointer (some ⟨gb, 0, none⟩) ∧ Hid (Below w3.heap.size w3 wx) ∧ Hid (RBd w3.heap.size wx gb R.St.none))
  case first =>
    refine wp_region_fr3 mkB 0 4 obB ?af (by kernel_rfl) (by kernel_rfl) (by kernel_rfl) (by kernel_rfl) ?_ ?_ ?_
    rotate_left
    · intro i h1 h2
      have : i = 0 ∨ i = 1 ∨ i = 2 ∨ i = 3 := by omega
      rcases this with rfl | rfl | rfl | rfl
      · exact ⟨_, rfl, rfl, fun ρ w => by
          have h := run_make_n 46 22 (.slice none 0 0) 24 Tryd.underlying46 infoNs rfl .i64 .i64 4 4 rfl (by decide) (by decide) w
          go_simp
          exact ⟨rfl, rfl⟩⟩
      · exact ⟨_, rfl, rfl, fun ρ w => by
          have h := run_make_n 79 4 (.bool false) 1 Tryd.underlying79 infoBool rfl .i64 .i64 4 4 rfl (by decide) (by decide) w
          go_simp
          exact ⟨rfl, rfl⟩⟩
      · exact ⟨_, rfl, rfl, fun ρ w => by
          have h := run_make_n 47 39 (.int .u32 0) 4 Tryd.underlying47 infoU32 rfl .i64 .i64 2 2 rfl (by decide) (by decide) w
          go_simp
          exact ⟨rfl, rfl⟩⟩
      · exact ⟨_, rfl, rfl, fun ρ w => by
          have h := run_make_n 79 4 (.bool false) 1 Tryd.underlying79 infoBool rfl .i64 .i64 2 2 rfl (by decide) (by decide) w
          go_simp
          exact ⟨rfl, rfl⟩⟩
    · intro X hX ov
      simp only [List.take_zero]
      refine wpQuiet_nil ?_
      rfl
    · intro g w5 hb5 hrow hne
      have r0 := hrow 0 (by omega) (by omega)
      have r1 := hrow 1 (by omega) (by omega)
      have r2 := hrow 2 (by omega) (by omega)
      have r3 := hrow 3 (by omega) (by omega)
      have hne2 := hne 1 3 (by omega) (by omega) (by omega) (by omega) (by omega)
      simp only [List.range, List.range.loop, List.foldl_cons, List.foldl_nil, Nat.reduceAdd]
      clear hrow hne
      have Hf := Lib.hid (rbd_new hb5.size r0 r1 r2 r3 hne2)
      have Hb5 := Lib.hid (hb5.alloc (hb5.size) (.cells #[.slice (some ⟨g 0, 0, none⟩) 4 4, .slice (some ⟨g 1, 0, none⟩) 4 4, .slice (some ⟨g 2, 0, none⟩) 2 2, .slice (some ⟨g 3, 0, none⟩) 2 2] 81))
      generalize g 0 = ga0 at *
      generalize g 1 = ga1 at *
      generalize g 2 = ga2 at *
      generalize g 3 = ga3 at *
      clear r0 r1 r2 r3 hne2 hb5
      simp only [mkB, Nat.reduceAdd, List.drop_succ_cons, List.drop_zero]
      simp only [Rg.dst, Act.put]
      go_wp2_with fail
      go_meet
      exact ⟨_, rfl, Hb5, Hf⟩
  case rest =>
  obtain ⟨gb, rfl, Hb4, Hbd4⟩ := hcut
  obtain ⟨w4, hw4⟩ : ∃ w4, w4 = wc := ⟨_, rfl⟩
  rw [← hw4] at Hb4 Hbd4 ⊢
  clear hw4
  have Hwd := Lib.hid (show Go.Proofs.YtmebpgggfppmhaaDoor.B.isWd mw = true from by
    refine Go.Proofs.YtmebpgggfppmhaaDoor.B.isWd_iff.2 ⟨by omega, ?_⟩
    rw [← Hmw.out]
    unfold R.mw R.mtw
    split
    · exact Hw32.out
    · rw [Hry.out]; exact Hyw.out.2)
  go_wp2
  go_loopg [13] (N + 1) (fun gg i wq => ∃ (j : Nat) (s : R.St), j ≤ N ∧ i = .int .i64 (j : Int) ∧ gg + j = N + 1 ∧ Hid (R.bnds mw (L.take j) R.St.none = some s) ∧ Hid (Below w3.heap.size w3 wq) ∧ Hid (RBd w3.heap.size wq gb s))
  case atStart => exact ⟨0, R.St.none, Nat.zero_le _, rfl, rfl, Lib.hid rfl, Hb4, Hbd4⟩
  case round =>
    obtain ⟨j, s, hj, rfl, hgk, Hbs, Hbq, Hbd⟩ := hrel
    obtain ⟨wq, rfl⟩ : ∃ w, w = wr := ⟨_, rfl⟩
    have Hgk := Lib.hid hgk; clear hgk
    have HbW := Lib.hid (Hb3.out.trans (Hbq.out.mono Hb3.out.size))
    by_cases hjn : j < N
    · obtain ⟨q1, pr, hq1, hpr, x', y', hx', hy', tk, htk, epr⟩ := HPr.out j hjn
      obtain ⟨i, k⟩ := q1
      have hi : i < n + 1 := by have := (List.getElem?_eq_some_iff.1 hx').1; rw [Hll.out] at this; exact this
      have hk : k < m + 1 := by have := (List.getElem?_eq_some_iff.1 hy').1; rw [Htl.out] at this; exact this
      obtain ⟨x2, b2, o2, A2, c2, hx2, hA2, hb2, p0, p1, p2, p3, p4, _, pi0, pi1⟩ := nd_cells HR1.out.sl hi
      obtain rfl : x2 = x' := by rw [hx'] at hx2; exact (Option.some.inj hx2).symm
      injection hA2 with hA2
      injection hA2 with e1 e2 _
      subst e1 e2
      obtain ⟨gp, op, hAp, s0, s1, hgp, _⟩ := HO3.out.at_ HN.out hq1
      subst hAp
      have HS := Lib.hid (show ∀ Y, Below w3.heap.size w3 Y → Y.cell? ⟨W.heap.size, 0, none⟩ = some (.slice (some ⟨bx, ox, none⟩) (n + 1) cl) ∧ Y.cell? ⟨gp, op + j * 2, none⟩ = some (.int .i64 (i : Int)) ∧ Y.cell? ⟨gp, op + j * 2 + 1, none⟩ = some (.int .i64 (k : Int)) ∧ Y.cell? ⟨bx, ox + i * 5, none⟩ = some (.int .i64 x2.op) ∧ Y.cell? ⟨bx, ox + i * 5 + 1, none⟩ = some (.int .i64 x2.w) ∧ Y.cell? ⟨bx, ox + i * 5 + 2, none⟩ = some (.int .i64 x2.fl) ∧ Y.cell? ⟨bx, ox + i * 5 + 3, none⟩ = some (.slice A2 x2.args.length c2) ∧ Y.cell? ⟨bx, ox + i * 5 + 4, none⟩ = some (.int .u32 x2.imm) from fun Y hY => by
        have hYW := Hb3.out.trans (hY.mono Hb3.out.size)
        exact ⟨(Hrow.out _ hYW).1, (hY.cell (p := ⟨gp, op + j * 2, none⟩) hgp).trans s0, (hY.cell (p := ⟨gp, op + j * 2 + 1, none⟩) hgp).trans s1, (hYW.cell (p := ⟨bx, ox + i * 5, none⟩) hb2).trans p0, (hYW.cell (p := ⟨bx, ox + i * 5 + 1, none⟩) hb2).trans p1, (hYW.cell (p := ⟨bx, ox + i * 5 + 2, none⟩) hb2).trans p2, (hYW.cell (p := ⟨bx, ox + i * 5 + 3, none⟩) hb2).trans p3, (hYW.cell (p := ⟨bx, ox + i * 5 + 4, none⟩) hb2).trans p4⟩)
      have hpn := Hr.out.lp i x2 hx'
      have hxw := R.pnode_w hpn
      have Hnx := Lib.hid (show R.bnds mw (L.take (j + 1)) R.St.none = R.bnd mw s ⟨x2.op, x2.w, x2.fl, x2.imm, y'.op, y'.w, y'.fl, y'.imm, tk⟩ from by rw [R.bnds_next hpr Hbs.out, epr])
      have Hbind := Lib.hid (show ∀ X, Below wq.heap.size wq X → Calls Tryd.prog 75 #[.pointer (some ⟨gb, 0, none⟩), .agg #[.int .i64 x2.op, .int .i64 x2.w, .int .i64 x2.fl, .slice A2 x2.args.length c2, .int .u32 x2.imm], .slice (some ⟨by_, oy, none⟩) (m + 1) ct, .int .i64 (k : Int), .int .i64 mw] X (BindPost w3.heap.size X gb (R.bnd mw s ⟨x2.op, x2.w, x2.fl, x2.imm, y'.op, y'.w, y'.fl, y'.imm, tk⟩)) from fun X hX =>
        rbind_any (Hbd.out.below hX) (fun ho => ⟨pi0, by
          rcases ho with ho | ho
          · exact R.pnode_imm hpn (.inl ho)
          · exact R.pnode_imm hpn (.inr ho)⟩) hxw ⟨pi0, pi1⟩ Hwd.out (HT1.out.below monoNd (HbW.out.trans (hX.mono HbW.out.size))) Hot.out (by have := Ht.out.len; have := Htl.out; omega) (fun y hy => (Ht.out.at_ hy).2.2.2.2.1) hk hy' htk (Nat.le_trans Hbq.out.size hX.size))
      have hi9 : (i : Int) < (n : Int) + 1 := by omega
      have hk9 : (k : Int) < (m : Int) + 1 := by omega
      have hj9 : (j : Int) < (N : Int) := by omega
      clear hx2 hb2 p0 p1 p2 p3 p4 pi0 pi1 s0 s1 hgp hpn hpr hq1 hx' hy' htk epr
      go_wp2
      refine wp_region_held_drew (S := fun Y => Y.cell? ⟨W.heap.size, 0, none⟩ = some (.slice (some ⟨bx, ox, none⟩) (n + 1) cl) ∧ Y.cell? ⟨gp, op + j * 2, none⟩ = some (.int .i64 (i : Int)) ∧ Y.cell? ⟨gp, op + j * 2 + 1, none⟩ = some (.int .i64 (k : Int)) ∧ Y.cell? ⟨bx, ox + i * 5, none⟩ = some (.int .i64 x2.op) ∧ Y.cell? ⟨bx, ox + i * 5 + 1, none⟩ = some (.int .i64 x2.w) ∧ Y.cell? ⟨bx, ox + i * 5 + 2, none⟩ = some (.int .i64 x2.fl) ∧ Y.cell? ⟨bx, ox + i * 5 + 3, none⟩ = some (.slice A2 x2.args.length c2) ∧ Y.cell? ⟨bx, ox + i * 5 + 4, none⟩ = some (.int .u32 x2.imm)) (by kernel_rfl) (HS.out wq.drew Hbq.out.drew) (fun hHeld => ?_)
      refine wpAnyH_take (i := 0) (oi := _) (v := ?_) rfl (by kernel_rfl) (by kernel_rfl) (by kernel_rfl) (fun _ _ _ h => h) (Or.inl ⟨by rfl, fun Y hY => ?_⟩) hHeld ?_
      rotate_left
      · (go_simp) <;> with_reducible rfl
      try simp only [Act.put, List.setIfInBounds_toArray, List.set_cons_zero, List.set_cons_succ, List.getElem_toArray, List.getElem_cons_succ, List.getElem_cons_zero]
      refine wpAnyH_take (i := 1) (oi := _) (v := ?_) rfl (by kernel_rfl) (by kernel_rfl) (by kernel_rfl) (fun _ _ _ h => h) (Or.inl ⟨by rfl, fun Y hY => ?_⟩) hHeld ?_
      rotate_left
      · (go_simp) <;> with_reducible rfl
      try simp only [Act.put, List.setIfInBounds_toArray, List.set_cons_zero, List.set_cons_succ, List.getElem_toArray, List.getElem_cons_succ, List.getElem_cons_zero]
      refine wpAnyH_take (i := 2) (oi := _) (v := ?_) rfl (by kernel_rfl) (by kernel_rfl) (by kernel_rfl) (fun _ _ _ h => h) (Or.inl ⟨by rfl, fun Y hY => ?_⟩) hHeld ?_
      rotate_left
      · obtain ⟨y0, y1, y2, y3, y4, y5, y6, y7⟩ := hY
        (go_simp) <;> with_reducible rfl
      try simp only [Act.put, List.setIfInBounds_toArray, List.set_cons_zero, List.set_cons_succ, List.getElem_toArray, List.getElem_cons_succ, List.getElem_cons_zero]
      refine wpAnyH_take (i := 3) (oi := _) (v := ?_) rfl (by kernel_rfl) (by kernel_rfl) (by kernel_rfl) (fun _ _ _ h => h) (Or.inl ⟨by rfl, fun Y hY => ?_⟩) hHeld ?_
      rotate_left
      · (go_simp) <;> with_reducible rfl
      try simp only [Act.put, List.setIfInBounds_toArray, List.set_cons_zero, List.set_cons_succ, List.getElem_toArray, List.getElem_cons_succ, List.getElem_cons_zero]
      refine wpAnyH_take (i := 4) (oi := _) (v := ?_) rfl (by kernel_rfl) (by kernel_rfl) (by kernel_rfl) (fun _ _ _ h => h) (Or.inl ⟨by rfl, fun Y hY => ?_⟩) hHeld ?_
      rotate_left
      · (go_simp) <;> with_reducible rfl
      try simp only [Act.put, List.setIfInBounds_toArray, List.set_cons_zero, List.set_cons_succ, List.getElem_toArray, List.getElem_cons_succ, List.getElem_cons_zero]
      refine wpAnyH_take (i := 5) (oi := _) (v := ?_) rfl (by kernel_rfl) (by kernel_rfl) (by kernel_rfl) (fun _ _ _ h => h) (Or.inl ⟨by rfl, fun Y hY => ?_⟩) hHeld ?_
      rotate_left
      · (go_simp) <;> with_reducible rfl
      try simp only [Act.put, List.setIfInBounds_toArray, List.set_cons_zero, List.set_cons_succ, List.getElem_toArray, List.getElem_cons_succ, List.getElem_cons_zero]
      refine wpAnyH_take (i := 6) (oi := _) (v := ?_) rfl (by kernel_rfl) (by kernel_rfl) (by kernel_rfl) (fun _ _ _ h => h) (Or.inl ⟨by rfl, fun Y hY => ?_⟩) hHeld ?_
      rotate_left
      · (go_simp) <;> with_reducible rfl
      try simp only [Act.put, List.setIfInBounds_toArray, List.set_cons_zero, List.set_cons_succ, List.getElem_toArray, List.getElem_cons_succ, List.getElem_cons_zero]
      refine wpAnyH_take (i := 7) (oi := _) (v := ?_) rfl (by kernel_rfl) (by kernel_rfl) (by kernel_rfl) (fun _ _ _ h => h) (Or.inl ⟨by rfl, fun Y hY => ?_⟩) hHeld ?_
      rotate_left
      · obtain ⟨y0, y1, y2, y3, y4, y5, y6, y7⟩ := hY
        (go_simp) <;> with_reducible rfl
      try simp only [Act.put, List.setIfInBounds_toArray, List.set_cons_zero, List.set_cons_succ, List.getElem_toArray, List.getElem_cons_succ, List.getElem_cons_zero]
      refine wpAnyH_take (i := 8) (oi := _) (v := ?_) rfl (by kernel_rfl) (by kernel_rfl) (by kernel_rfl) (fun _ _ _ h => h) (Or.inl ⟨by rfl, fun Y hY => ?_⟩) hHeld ?_
      rotate_left
      · (go_simp) <;> with_reducible rfl
      try simp only [Act.put, List.setIfInBounds_toArray, List.set_cons_zero, List.set_cons_succ, List.getElem_toArray, List.getElem_cons_succ, List.getElem_cons_zero]
      refine wpAnyH_take (i := 9) (oi := _) (v := ?_) rfl (by kernel_rfl) (by kernel_rfl) (by kernel_rfl) (fun _ _ _ h => h) (Or.inl ⟨by rfl, fun Y hY => ?_⟩) hHeld ?_
      rotate_left
      · obtain ⟨y0, y1, y2, y3, y4, y5, y6, y7⟩ := hY
        (go_simp) <;> with_reducible rfl
      try simp only [Act.put, List.setIfInBounds_toArray, List.set_cons_zero, List.set_cons_succ, List.getElem_toArray, List.getElem_cons_succ, List.getElem_cons_zero]
      refine wpAnyH_take (i := 10) (oi := _) (v := ?_) rfl (by kernel_rfl) (by kernel_rfl) (by kernel_rfl) (fun _ _ _ h => h) (Or.inl ⟨by rfl, fun Y hY => ?_⟩) hHeld ?_
      rotate_left
      · (go_simp) <;> with_reducible rfl
      try simp only [Act.put, List.setIfInBounds_toArray, List.set_cons_zero, List.set_cons_succ, List.getElem_toArray, List.getElem_cons_succ, List.getElem_cons_zero]
      refine wpAnyH_take (i := 11) (oi := _) (v := ?_) rfl (by kernel_rfl) (by kernel_rfl) (by kernel_rfl) (fun _ _ _ h => h) (Or.inl ⟨by rfl, fun Y hY => ?_⟩) hHeld ?_
      rotate_left
      · (go_simp) <;> with_reducible rfl
      try simp only [Act.put, List.setIfInBounds_toArray, List.set_cons_zero, List.set_cons_succ, List.getElem_toArray, List.getElem_cons_succ, List.getElem_cons_zero]
      refine wpAnyH_take (i := 12) (oi := _) (v := ?_) rfl (by kernel_rfl) (by kernel_rfl) (by kernel_rfl) (fun _ _ _ h => h) (Or.inl ⟨by rfl, fun Y hY => ?_⟩) hHeld ?_
      rotate_left
      · (go_simp) <;> with_reducible rfl
      try simp only [Act.put, List.setIfInBounds_toArray, List.set_cons_zero, List.set_cons_succ, List.getElem_toArray, List.getElem_cons_succ, List.getElem_cons_zero]
      refine wpAnyH_take (i := 13) (oi := _) (v := ?_) rfl (by kernel_rfl) (by kernel_rfl) (by kernel_rfl) (fun _ _ _ h => h) (Or.inl ⟨by rfl, fun Y hY => ?_⟩) hHeld ?_
      rotate_left
      · (go_simp) <;> with_reducible rfl
      try simp only [Act.put, List.setIfInBounds_toArray, List.set_cons_zero, List.set_cons_succ, List.getElem_toArray, List.getElem_cons_succ, List.getElem_cons_zero]
      refine wpAnyH_take (i := 14) (oi := _) (v := ?_) rfl (by kernel_rfl) (by kernel_rfl) (by kernel_rfl) (fun _ _ _ h => h) (Or.inl ⟨by rfl, fun Y hY => ?_⟩) hHeld ?_
      rotate_left
      · (go_simp) <;> with_reducible rfl
      try simp only [Act.put, List.setIfInBounds_toArray, List.set_cons_zero, List.set_cons_succ, List.getElem_toArray, List.getElem_cons_succ, List.getElem_cons_zero]
      refine wpAnyH_take (i := 15) (oi := _) (v := ?_) rfl (by kernel_rfl) (by kernel_rfl) (by kernel_rfl) (fun _ _ _ h => h) (Or.inl ⟨by rfl, fun Y hY => ?_⟩) hHeld ?_
      rotate_left
      · obtain ⟨y0, y1, y2, y3, y4, y5, y6, y7⟩ := hY
        (go_simp) <;> with_reducible rfl
      try simp only [Act.put, List.setIfInBounds_toArray, List.set_cons_zero, List.set_cons_succ, List.getElem_toArray, List.getElem_cons_succ, List.getElem_cons_zero]
      refine wpAnyH_take (i := 16) (oi := _) (v := ?_) rfl (by kernel_rfl) (by kernel_rfl) (by kernel_rfl) (fun _ _ _ h => h) (Or.inl ⟨by rfl, fun Y hY => ?_⟩) hHeld ?_
      rotate_left
      · (go_simp) <;> with_reducible rfl
      try simp only [Act.put, List.setIfInBounds_toArray, List.set_cons_zero, List.set_cons_succ, List.getElem_toArray, List.getElem_cons_succ, List.getElem_cons_zero]
      refine wpAnyH_ready (rs := [17]) (by kernel_rfl) (by simp) ?_
      refine AllReadyH.cons (o := _) rfl (fun KK hKK => ?_) AllReadyH.nil
      clear hHeld
      go_simp
      (with_reducible refine (Hbind.out _ ((Below.refl _ _).drew)).mono ?_)
      rintro e w5 ⟨hb5, (⟨hn, rfl⟩ | ⟨s', hs', rfl, hbd'⟩)⟩
      · have Hb5 := Lib.hid (Hbq.out.drew.trans hb5)
        refine hKK.out _ _ (HS.out _ Hb5.out) (fun hHeld => ?_)
        clear hKK KK hb5
        try simp only [Act.put, List.setIfInBounds_toArray, List.set_cons_zero, List.set_cons_succ, List.getElem_toArray, List.getElem_cons_succ, List.getElem_cons_zero]
        refine wpAnyH_take (i := 18) (oi := _) (v := ?_) rfl (by kernel_rfl) (by kernel_rfl) (by kernel_rfl) (fun _ _ _ h => h) (Or.inl ⟨by rfl, fun Y hY => ?_⟩) hHeld ?_
        rotate_left
        · (go_simp) <;> with_reducible rfl
        try simp only [Act.put, List.setIfInBounds_toArray, List.set_cons_zero, List.set_cons_succ, List.getElem_toArray, List.getElem_cons_succ, List.getElem_cons_zero]
        refine wpAnyH_done (by kernel_rfl) ?_ _
        have Hn := Lib.hid (show R.mres r t = none from by
          rw [Hmr.out, R.bnds_bad (j := j + 1) (by rw [Hnx.out]; exact hn)]
          rfl)
        have HbF := Lib.hid (Hb1.out.trans ((Hb3.out.trans (Hb5.out.mono Hb3.out.size)).mono Hb1.out.size))
        clear hn hHeld
        go_wp2
        go_ret3
        exact ⟨HbF.out, .inl ⟨Hn.out, _, _, rfl⟩⟩
      · have Hb5 := Lib.hid (Hbq.out.drew.trans hb5)
        refine hKK.out _ _ (HS.out _ Hb5.out) (fun hHeld => ?_)
        clear hKK KK hb5
        try simp only [Act.put, List.setIfInBounds_toArray, List.set_cons_zero, List.set_cons_succ, List.getElem_toArray, List.getElem_cons_succ, List.getElem_cons_zero]
        refine wpAnyH_take (i := 18) (oi := _) (v := ?_) rfl (by kernel_rfl) (by kernel_rfl) (by kernel_rfl) (fun _ _ _ h => h) (Or.inl ⟨by rfl, fun Y hY => ?_⟩) hHeld ?_
        rotate_left
        · (go_simp) <;> with_reducible rfl
        try simp only [Act.put, List.setIfInBounds_toArray, List.set_cons_zero, List.set_cons_succ, List.getElem_toArray, List.getElem_cons_succ, List.getElem_cons_zero]
        refine wpAnyH_done (by kernel_rfl) ?_ _
        have Hs' := Lib.hid (show R.bnds mw (L.take (j + 1)) R.St.none = some s' from by rw [Hnx.out]; exact hs')
        have Hbd' := Lib.hid hbd'
        clear hs' hbd' hHeld
        go_wp2
        go_roundg (gk - 1)
        case measure => have := Hgk.out; omega
        case rel => have := Hgk.out; exact ⟨j + 1, s', by omega, by go_num, by omega, Hs', Hb5, Hbd'⟩
    · obtain rfl : j = N := by omega
      have e : L.take j = L := List.take_of_length_le (by rw [HNL.out]; exact Nat.le_refl _)
      rw [e] at Hbs
      clear e
      obtain ⟨g0, g1, g2, g3, ts, hs, ns, gs, hp⟩ := Hbd.out
      have Hp := Lib.hid hp
      obtain ⟨hwd, hho, hone⟩ := R.hs_fit Hr.out Ht.out Him.out (by rw [Hmw.out]; exact hpos) HL.out (by rw [Hmw.out]; exact Hbs.out)
      rw [Hmw.out] at hwd hho
      obtain ⟨mN, rfl⟩ : ∃ mN : Nat, mw = mN := ⟨mw.toNat, by omega⟩
      obtain ⟨cnd, hcnd⟩ : ∃ b, r.pre.all (R.cond (mN : Int) s.hs) = b := ⟨_, rfl⟩
      have Hmr2 := Lib.hid (show R.mres r t = if cnd = true then some s else none from by rw [Hmr.out, Hbs.out, Option.bind_some, hcnd])
      obtain ⟨ov⟩ := ov_ex wq
      have Hmt := Lib.hid (show ∀ u, Calls Tryd.prog 69 #[.agg #[.slice (some ⟨bx, ox, none⟩) (n + 1) cl, .slice AR nr cr, .slice AP np cp], .int .i64 (mN : Int), .slice (some ⟨g2, 0, none⟩) 2 2] (ov.f u) fun e w' => e = .returned (.bool cnd) ∧ Below (ov.f u).heap.size (ov.f u) w' from fun u => by
        have hbu := HbW.out.trans ((ov.below u).mono HbW.out.size)
        have := rmeets_any (r := r) (AL := some ⟨bx, ox, none⟩) (AR := AR) (nl := n + 1) (cl := cl) (nr := nr) (cr := cr) (cp := cp) (ch := 2) (w := mN) (HR1.out.sp.below monoCd hbu) ((Hp.out.holes).below (monoInt _) (ov.below u)) Hr.out.cd hwd hho
        rw [hcnd] at this
        exact this)
      have Hmt2 := Lib.hid (fun u => calls_over (Hmt.out u))
      obtain ⟨d0, d1, d2, _⟩ := Hrow.out _ HbW.out
      have n0 := ov.cell d0
      have n1 := ov.cell d1
      have n2 := ov.cell d2
      have n3 := ov.cell hp.rows.cells.2.2.1
      clear d0 d1 d2 hp hwd hho hone hcnd
      go_wp2
      refine wp_region_ovq ov (by kernel_rfl) (by kernel_rfl) ?_
      repeat (go_big_quiet_step ((go_at_call 69; with_reducible exact Hmt2.out _)))
      refine wpQuiet_nil ?_
      rintro _ ⟨u, rfl⟩
      have Hbu := Lib.hid (Hb1.out.trans ((HbW.out.trans ((ov.below u).mono HbW.out.size)).mono Hb1.out.size))
      have HbdF := Lib.hid ((Hbd.out.below (ov.below u)).weak (B := W.heap.size) (Nat.le_trans Hb1.out.size Hb3.out.size))
      clear n0 n1 n2 n3 Hmt Hmt2
      generalize ov.f u = w9 at *
      clear ov
      go_wp2
      go_ret3
      cases cnd with
      | false => exact ⟨Hbu.out, .inl ⟨Hmr2.out, _, _, rfl⟩⟩
      | true => exact ⟨Hbu.out, .inr ⟨s, gb, Hmr2.out, by rw [Hmw.out]; rfl, HbdF.out⟩⟩
end Go.Proofs.YtmebpgggfppmhaaDoor
end
section
namespace Go.Proofs.YtmebpgggfppmhaaDoor
open Go.RowKit
set_option linter.unusedVariables false
set_option linter.unusedSimpArgs false

set_option maxRecDepth 100000 in
theorem rmatched_any {r : R.Rl} {t : List T.Nd} {nl cl nr cr np cp nt ct : Nat} {AL AR AP At : Option Addr} {W : World} (hR : RlAt W r nl nr np AL AR AP) (hT : StAt 5 NdR W At nt t) :
    Calls Tryd.prog 43 #[.agg #[.slice AL nl cl, .slice AR nr cr, .slice AP np cp], .slice At nt ct] W fun e W' => e = .returned (.int .i64 (R.rerr r t)) ∧ Below W.heap.size W W' := by
  obtain ⟨W1, hW1⟩ : ∃ W1, W1 = W.alloc (.cells #[.slice AL nl cl, .slice AR nr cr, .slice AP np cp] 25) := ⟨_, rfl⟩
  have hb1 : Below W.heap.size W W1 := by rw [hW1]; exact (Below.refl _ _).alloc (Nat.le_refl _) _
  have hrow : W1.heap[W.heap.size]? = some (.cells #[.slice AL nl cl, .slice AR nr cr, .slice AP np cp] 25 (0, 0)) := by rw [hW1]; exact heap_alloc_new W _
  obtain ⟨c0, c1, c2, _⟩ := rl_cells hrow
  have Hb1 := Lib.hid hb1
  have Hval := Lib.hid (rValidate_rule (cl := cl) (cr := cr) (cp := cp) (hR.below hb1))
  have Hfl := Lib.hid (fun X (h : Below W1.heap.size W1 X) => rValidateFlagged_any t nt ct At X ((hT.below monoNd hb1).below monoNd h))
  have HW1 := Lib.hid hW1
  obtain ⟨e1, he1⟩ : ∃ e, R.rvalid r = e := ⟨_, rfl⟩
  rw [he1] at Hval
  have He := Lib.hid he1
  rw [hW1] at c0 c1 c2
  clear hR hT hb1 hrow hW1 he1
  by_cases h0 : e1 = 0
  · subst h0
    have q : ((0 : Int) != 0) = false := rfl
    have Hr := Lib.hid (show R.rerr r t = R.fvalid t from by unfold R.rerr; rw [He.out]; rfl)
    go_enter Tryd.func43, Tryd.ntmps43
    go_wp2_with fail
    rw [← HW1.out]
    (with_reducible refine Hval.out.mono ?_)
    rintro e w2 ⟨rfl, hb2⟩
    have Hb2 := Lib.hid hb2
    clear hb2 c0 c1 c2
    go_wp2_with fail
    (with_reducible refine (Hfl.out _ Hb2.out).mono ?_)
    rintro e w3 ⟨rfl, hb3⟩
    have Hb3 := Lib.hid (Hb1.out.trans ((Hb2.out.trans (hb3.mono Hb2.out.size)).mono Hb1.out.size))
    clear hb3
    go_wp2
    go_ret
    exact ⟨by rw [Hr.out]; rfl, Hb3.out⟩
  · have q : (e1 != 0) = true := by simpa using h0
    have Hr := Lib.hid (show R.rerr r t = e1 from by unfold R.rerr; rw [He.out, if_pos h0])
    clear h0
    go_enter Tryd.func43, Tryd.ntmps43
    go_wp2_with fail
    rw [← HW1.out]
    (with_reducible refine Hval.out.mono ?_)
    rintro e w2 ⟨rfl, hb2⟩
    have Hb2 := Lib.hid (Hb1.out.trans (hb2.mono Hb1.out.size))
    clear hb2 c0 c1 c2
    go_wp2
    go_ret
    exact ⟨by rw [Hr.out]; rfl, Hb2.out⟩

/-- the lists that are bound -/
theorem RBp.terms {B : Nat} {w : World} {gb g0 g1 g2 g3 : Nat} {ts hs ns gs : Array Value} {s : R.St} (h : RBp B w gb g0 g1 g2 g3 ts hs ns gs s) : OwnNs B w (.slice (some ⟨g0, 0, none⟩) 4 4) [R.mvl s 0, R.mvl s 1, R.mvl s 2, R.mvl s 3] := by
  obtain ⟨z1, z2, z3, z4⟩ := h.sz
  refine ⟨⟨ts.toList, ⟨by simp [z1], .inr ⟨g0, 0, 4, ts, rfl, h.rows.r0, Nat.le_refl _, by decide, by rw [z1]; decide, fun j u hu => by rw [Nat.zero_add]; simpa using hu⟩⟩, fun k l hl => ?_, fun g hg => by simp [Value.ownBlock] at hg; subst hg; exact h.ge.2.1⟩⟩
  have hk : k < 4 := by have := (List.getElem?_eq_some_iff.1 hl).1; simpa using this
  have hl' : l = R.mvl s k := by
    rcases (show k = 0 ∨ k = 1 ∨ k = 2 ∨ k = 3 by omega) with rfl | rfl | rfl | rfl <;> (simp at hl; exact hl.symm)
  obtain ⟨v, b, h1, h2, h3⟩ := h.v k hk
  refine ⟨v, by simpa using h1, ?_⟩
  rw [hl']
  unfold R.mvl
  by_cases hk2 : k < 2
  · rw [if_pos hk2]
    cases e : s.v (k : Int) with
    | none => rw [e] at h3; rw [h3.2]; exact OwnR.nil_ _ _ _
    | some f => rw [e] at h3; exact h3.2.2
  · rw [if_neg hk2]
    rw [h.hi (k : Int) (by omega)] at h3
    rw [h3.2]
    exact OwnR.nil_ _ _ _

end Go.Proofs.YtmebpgggfppmhaaDoor
end
