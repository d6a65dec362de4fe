/- Merged: RFr, RFr2. -/
import Derived.Test.YtbiopedpceddeaaGreatDoorL07
import Derived.Test.YtbiopedpceddeaaGreatDoorL13
set_option linter.unusedVariables false
set_option linter.unusedSimpArgs false
section
namespace Go.Proofs.YtbiopedpceddeaaGreatDoor
open Go.RowKit

namespace Fr
open Rg
section
variable {P : Program} {ops : Array Oper} {md : Region.Mode}

/-- values with the allocs' addresses -/
def vg (al : Nat → Option Obj) (vs : Nat → Value) (g : Nat → Nat) (k : Nat) : Value := if (al k).isSome then .pointer (some ⟨g k, 0, none⟩) else vs k

structure FineF (md : Region.Mode) (ops : Array Oper) (al : Nat → Option Obj) : Prop where
  sel : ∀ (j : Nat) (o : Oper) cs b, ops[j]? = some o → o.op ≠ .select cs b
  apart : ∀ (i j : Nat) (t : Tmp), i < ops.size → j < ops.size → i ≠ j → dst ops i = some t → dst ops j ≠ some t
  dep : ∀ (i : Nat) (o : Oper) (t : Tmp) (k : Nat), ops[i]? = some o → t ∈ o.looksAt ops → dst ops k = some t → al k = none ∧ ∃ e ∈ o.after, Region.binds md e = true ∧ e.on = k
  lex : ∀ (i : Nat) (o : Oper) (e : Edge), ops[i]? = some o → e ∈ o.after → Region.binds md e = true → e.on < i

structure InvF (md : Region.Mode) (ops : Array Oper) (al : Nat → Option Obj) (W : World) (vs : Nat → Value) (a : Act) (listed : Array Bool) (g : Nat → Nat) (act : Act) (w : World) : Prop where
  size : listed.size = ops.size
  act : act = cp ops (vg al vs g) a (fun k => listed.getD k false) ops.size
  below : Below W.heap.size W w
  row : ∀ k obj, al k = some obj → listed.getD k false = true → W.heap.size ≤ g k ∧ w.heap[g k]? = some obj
  ne : ∀ k k', (al k).isSome → (al k').isSome → listed.getD k false = true → listed.getD k' false = true → k ≠ k' → g k ≠ g k'

theorem cp_vals {vs vs' : Nat → Value} (a : Act) (c : Nat → Bool) (m : Nat) (h : ∀ k, k < m → c k = true → vs k = vs' k) : cp ops vs a c m = cp ops vs' a c m := by
  induction m with
  | zero => rfl
  | succ m ih =>
    simp only [cp, ih fun k hk => h k (by omega)]
    split
    · rename_i hc; rw [h m (by omega) hc]
    · rfl

theorem some_readyF {al : Nat → Option Obj} (hf : FineF md ops al) {listed : Array Bool} (hs : listed.size = ops.size) (m : Nat) (hm : m ≤ ops.size) (h : ∃ k, k < m ∧ listed.getD k true = false) : ∃ i, i ∈ Region.ready md ops listed := by
  induction m with
  | zero => obtain ⟨k, hk, _⟩ := h; omega
  | succ m ih =>
    by_cases h' : ∃ k, k < m ∧ listed.getD k true = false
    · exact ih (by omega) h'
    · obtain ⟨k, hk, hl⟩ := h
      have e : k = m := by
        rcases Nat.lt_or_ge k m with h1 | h1
        · exact absurd ⟨k, h1, hl⟩ h'
        · omega
      subst e
      have hks : k < ops.size := by omega
      refine ⟨k, mem_ready.2 ⟨hl, ops[k], Array.getElem?_eq_getElem hks, fun e he hb => ?_⟩⟩
      have hlt := hf.lex k _ e (Array.getElem?_eq_getElem hks) he hb
      have : ¬ listed.getD e.on true = false := fun h1 => h' ⟨e.on, hlt, h1⟩
      rw [two_getD (by omega) false true]
      simpa using this

theorem any_free {al : Nat → Option Obj} (hf : FineF md ops al) {W : World} {vs : Nat → Value} {a : Act} {K : Act → World → Prop}
    (hq : ∀ i, i < ops.size → al i = none → ∃ o, ops[i]? = some o ∧ ∀ X, Below W.heap.size W X → YieldsIn P ops (fun Y => Below X.heap.size X Y) o (vs i) (cp ops vs a (fun k => (al k).isNone) i))
    (ha : ∀ i obj, al i = some obj → ∃ o, ops[i]? = some o ∧ o.guard = none ∧ ∀ ρ w, (execOp ρ o).run P w = .ok (.value (.pointer (some ⟨w.heap.size, 0, none⟩))) (w.alloc obj))
    (hK : ∀ (g : Nat → Nat) w, Below W.heap.size W w → (∀ k obj, al k = some obj → k < ops.size → W.heap.size ≤ g k ∧ w.heap[g k]? = some obj) → (∀ k k', k < ops.size → k' < ops.size → (al k).isSome → (al k').isSome → k ≠ k' → g k ≠ g k') → K (cp ops (vg al vs g) a (fun _ => true) ops.size) w) :
    ∀ (fuel : Nat) (listed : Array Bool) (g : Nat → Nat) (act : Act) (w : World), unl listed ops.size ≤ fuel → InvF md ops al W vs a listed g act w → wpAny P md ops (onlyK K) fuel listed act w := by
  intro fuel
  have done : ∀ (listed : Array Bool) (g : Nat → Nat) (act : Act) (w : World), unl listed ops.size = 0 → InvF md ops al W vs a listed g act w → onlyK K .normal act w := by
    intro listed g act w h0 I
    have hall := unl_zero h0
    have hall' : ∀ k, k < ops.size → listed.getD k false = true := fun k hk => by rw [two_getD (by rw [I.size]; omega) false true]; exact hall k hk
    show K act w
    rw [I.act, cp_congr (ops := ops) (vg al vs g) a (c' := fun _ => true) ops.size fun k hk => hall' k hk]
    exact hK g w I.below (fun k obj hk hkl => I.row k obj hk (hall' k hkl)) (fun k k' hk hk' h1 h2 hne => I.ne k k' h1 h2 (hall' k hk) (hall' k' hk') hne)
  have noReady : ∀ (listed : Array Bool) (g : Nat → Nat) (act : Act) (w : World), InvF md ops al W vs a listed g act w → Region.ready md ops listed = [] → unl listed ops.size = 0 := by
    intro listed g act w I hr
    rcases Nat.eq_zero_or_pos (unl listed ops.size) with h | h
    · exact h
    · have hex : ∃ k, k < ops.size ∧ listed.getD k true = false := by
        apply Classical.byContradiction
        intro hno
        have : ∀ m, m ≤ ops.size → unl listed m = 0 := by
          intro m
          induction m with
          | zero => intro _; rfl
          | succ m ih =>
            intro hm
            simp only [unl, ih (by omega)]
            cases hl : listed.getD m true
            · exact absurd ⟨m, by omega, hl⟩ hno
            · simp
        have := this _ (Nat.le_refl _)
        omega
      obtain ⟨i, hi⟩ := some_readyF hf I.size ops.size (Nat.le_refl _) hex
      rw [hr] at hi
      cases hi
  induction fuel with
  | zero =>
    intro listed g act w hu I
    have h0 : unl listed ops.size = 0 := by omega
    refine ⟨?_, done listed g act w h0 I⟩
    have hall := unl_zero h0
    cases hr : Region.ready md ops listed with
    | nil => rfl
    | cons i r =>
      have hi : i ∈ Region.ready md ops listed := by rw [hr]; simp
      obtain ⟨h1, o, ho, _⟩ := mem_ready.1 hi
      rw [hall i (at_lt ho)] at h1
      cases h1
  | succ fuel ih =>
    intro listed g act w hu I
    refine ⟨fun hr => done listed g act w (noReady listed g act w I hr) I, fun i hi => ?_⟩
    obtain ⟨hun, o, ho, hedges⟩ := mem_ready.1 hi
    have hilt := at_lt ho
    have hun' : listed.getD i false = false := by rw [two_getD (by rw [I.size]; omega) false true]; exact hun
    have hcount := unl_set hun ops.size hilt
    have his : i < listed.size := by rw [I.size]; exact hilt
    have hset : (listed.setIfInBounds i true).getD i false = true := by simp [his]
    have hother : ∀ k, k ≠ i → (listed.setIfInBounds i true).getD k false = listed.getD k false := fun k hk => getD_set_ne false (fun e => hk e.symm)
    have hdi : dst ops i = o.dst := by simp [dst, ho]
    cases hal : al i with
    | none =>
      obtain ⟨o2, ho2, hy⟩ := hq i hilt hal
      rw [ho] at ho2
      cases ho2
      have evs : ∀ t, t ∈ o.looksAt ops → act.eval (.tmp t) = (cp ops vs a (fun k => (al k).isNone) i).eval (.tmp t) := by
        intro t ht
        rw [I.act]
        by_cases hex : ∃ k, k < ops.size ∧ dst ops k = some t
        · obtain ⟨k, hk, hd⟩ := hex
          obtain ⟨hak, e, he, hb, hon⟩ := hf.dep i o t k ho ht hd
          have hkl : listed.getD k false = true := by rw [← hon]; exact hedges e he hb
          have hki : k < i := by rw [← hon]; exact hf.lex i o e ho he hb
          rw [eval_hit (vg al vs g) a _ t k hd hkl ops.size hk fun j hj hjk => hf.apart k j t (dst_lt hd) (by omega) (fun e => hjk e.symm) hd,
            eval_hit vs a _ t k hd (by simp [hak]) i hki fun j hj hjk => hf.apart k j t (dst_lt hd) (by omega) (fun e => hjk e.symm) hd]
          unfold vg
          rw [hak]
          rfl
        · have hno : ∀ k, k < ops.size → dst ops k ≠ some t := fun k hk hd => hex ⟨k, hk, hd⟩
          rw [eval_none (vg al vs g) a _ t ops.size hno, eval_none vs a _ t i fun k hk => hno k (by omega)]
      obtain ⟨e1, e2⟩ := same_of_evals (hf.sel i o · · ho) evs
      have hy' := (hy w I.below).of_same e1 e2
      refine wpOp_of_qOp (C := fun Y => Below w.heap.size w Y) (K := fun a' => a' = act.put o.dst (vs i)) (Below.refl _ _) ?_ (hy'.qOp ho rfl)
      rintro a' w' hw' rfl
      refine ih _ g _ _ (by omega) ⟨by simp [I.size], ?_, I.below.trans (hw'.mono I.below.size), fun k obj hk hkl => ?_, fun k k' h1 h2 hk hk' hne => ?_⟩
      · have := cp_set (ops := ops) (vg al vs g) a (c := fun k => listed.getD k false) (c' := fun k => (listed.setIfInBounds i true).getD k false) i ops.size hilt hun' hset hother (fun k t hk hki hd => hf.apart k i t (dst_lt hd) hilt hki hd)
        rw [this, ← I.act, hdi]
        unfold vg
        rw [hal]
        rfl
      · have hki : k ≠ i := by rintro rfl; rw [hal] at hk; cases hk
        rw [hother k hki] at hkl
        obtain ⟨h1, h2⟩ := I.row k obj hk hkl
        exact ⟨h1, (hw'.block _ (Array.getElem?_eq_some_iff.1 h2).1).trans h2⟩
      · have hki : k ≠ i := by rintro rfl; rw [hal] at h1; cases h1
        have hki' : k' ≠ i := by rintro rfl; rw [hal] at h2; cases h2
        rw [hother k hki] at hk
        rw [hother k' hki'] at hk'
        exact I.ne k k' h1 h2 hk hk' hne
    | some obj =>
      obtain ⟨o2, ho2, hgd, hrun⟩ := ha i obj hal
      rw [ho] at ho2
      cases ho2
      have hwant : Region.wanted o (yielded ops act.tmps) = true := by unfold Region.wanted; rw [hgd]
      unfold wpOp
      simp only [ho]
      rw [if_pos hwant]
      left
      unfold Oper.wp
      rw [hrun]
      simp only [Oper.upon]
      have hg : ∀ k, k ≠ i → (fun k => if k = i then w.heap.size else g k) k = g k := fun k hk => if_neg hk
      refine ih _ (fun k => if k = i then w.heap.size else g k) _ _ (by omega) ⟨by simp [I.size], ?_, I.below.alloc I.below.size obj, fun k ob hk hkl => ?_, fun k k' h1 h2 hk hk' hne => ?_⟩
      · have := cp_set (ops := ops) (vg al vs (fun k => if k = i then w.heap.size else g k)) a (c := fun k => listed.getD k false) (c' := fun k => (listed.setIfInBounds i true).getD k false) i ops.size hilt hun' hset hother (fun k t hk hki hd => hf.apart k i t (dst_lt hd) hilt hki hd)
        rw [this, hdi, I.act]
        have e : cp ops (vg al vs g) a (fun k => listed.getD k false) ops.size = cp ops (vg al vs (fun k => if k = i then w.heap.size else g k)) a (fun k => listed.getD k false) ops.size := by
          refine cp_vals a _ _ fun k hk hkl => ?_
          have hki : k ≠ i := by rintro rfl; rw [hun'] at hkl; cases hkl
          unfold vg
          simp only [if_neg hki]
        rw [e]
        congr 1
        unfold vg
        simp [hal]
      · by_cases hki : k = i
        · subst hki
          rw [hal] at hk
          cases hk
          simp only [if_true]
          exact ⟨I.below.size, heap_alloc_new w obj⟩
        · rw [hother k hki] at hkl
          obtain ⟨h1, h2⟩ := I.row k ob hk hkl
          simp only [if_neg hki]
          exact ⟨h1, (Below.heap_alloc _ _ _ (Array.getElem?_eq_some_iff.1 h2).1).trans h2⟩
      · have lt : ∀ q, q ≠ i → (al q).isSome → (listed.setIfInBounds i true).getD q false = true → g q < w.heap.size := fun q hq h hl => by
          obtain ⟨ob, hob⟩ := Option.isSome_iff_exists.1 h
          rw [hother q hq] at hl
          exact (Array.getElem?_eq_some_iff.1 (I.row q ob hob hl).2).1
        by_cases hki : k = i
        · have hki' : k' ≠ i := fun e => hne (hki.trans e.symm)
          simp only [if_pos hki, if_neg hki']
          have := lt k' hki' h2 hk'
          omega
        · by_cases hki' : k' = i
          · simp only [if_neg hki, if_pos hki']
            have := lt k hki h1 hk
            omega
          · simp only [if_neg hki, if_neg hki']
            rw [hother k hki] at hk
            rw [hother k' hki'] at hk'
            exact I.ne k k' h1 h2 hk hk' hne
end
end Fr
end Go.Proofs.YtbiopedpceddeaaGreatDoor
end
section
namespace Go.Proofs.YtbiopedpceddeaaGreatDoor
open Go.RowKit

namespace Fr
open Rg
def alF (n m : Nat) (obj : Obj) (k : Nat) : Option Obj := if n ≤ k ∧ k < n + m then some obj else none

def frB (md : Region.Mode) (ops : Array Oper) (n m : Nat) : Bool :=
  decide (ops.size = n + m) && Region.noSelect ops &&
  ((List.range ops.size).all fun i => (List.range ops.size).all fun j => i == j || (dst ops i).isNone || dst ops i != dst ops j) &&
  ((List.range ops.size).all fun i => match ops[i]? with
    | none => true
    | some o => (o.after.all fun e => !Region.binds md e || decide (e.on < i)) &&
      ((o.looksAt ops).all fun t => (List.range ops.size).all fun k => dst ops k != some t || (decide (k < n) && o.after.any fun e => Region.binds md e && e.on == k)))

theorem fineF_of {md : Region.Mode} {ops : Array Oper} {n m : Nat} {obj : Obj} (h : frB md ops n m = true) : FineF md ops (alF n m obj) := by
  unfold frB at h
  simp only [Bool.and_eq_true] at h
  obtain ⟨⟨⟨_, h1⟩, h2⟩, h3⟩ := h
  rw [List.all_eq_true] at h2 h3
  refine ⟨Region.noSelect_spec h1, ?_, ?_, ?_⟩
  · intro i j t hi hj hne hd e
    have := h2 i (List.mem_range.2 hi)
    rw [List.all_eq_true] at this
    have := this j (List.mem_range.2 hj)
    simp [hne, hd, e] at this
  · intro i o t k ho ht hd
    have := h3 i (List.mem_range.2 (at_lt ho))
    simp only [ho, Bool.and_eq_true] at this
    have := this.2
    rw [List.all_eq_true] at this
    have := this t ht
    rw [List.all_eq_true] at this
    have := this k (List.mem_range.2 (dst_lt hd))
    simp only [hd, bne_self_eq_false, Bool.false_or, Bool.and_eq_true, decide_eq_true_eq] at this
    obtain ⟨hk, this⟩ := this
    rw [Array.any_eq_true'] at this
    obtain ⟨e, he, hb⟩ := this
    simp at hb
    exact ⟨by unfold alF; rw [if_neg (by omega)], e, he, hb.1, hb.2⟩
  · intro i o e ho he hb
    have := h3 i (List.mem_range.2 (at_lt ho))
    simp only [ho, Bool.and_eq_true] at this
    have := this.1
    rw [Array.all_eq_true'] at this
    have := this e he
    simpa [hb] using this
theorem size_frB {md : Region.Mode} {ops : Array Oper} {n m : Nat} (h : frB md ops n m = true) : ops.size = n + m := by
  unfold frB at h
  simp only [Bool.and_eq_true, decide_eq_true_eq] at h
  exact h.1.1.1

/-- the slots of the first n operations are there -/
def slotsB (ops : Array Oper) (n sz : Nat) : Bool := (List.range n).all fun i => match dst ops i with | some t => decide (t < sz) | none => false

theorem any_fr {P : Program} {md : Region.Mode} {ops : Array Oper} {a af : Act} {W : World} {K : Act → World → Prop} (n m : Nat) (obj : Obj) (hB : frB md ops n m = true) (hS : slotsB ops n a.tmps.size = true)
    (ha : ∀ i, n ≤ i → i < n + m → ∃ o, ops[i]? = some o ∧ o.guard = none ∧ ∀ ρ w, (execOp ρ o).run P w = .ok (.value (.pointer (some ⟨w.heap.size, 0, none⟩))) (w.alloc obj))
    (hq : ∀ X, Below W.heap.size W X → ∀ ov : Ov X, wpQuiet P ops (fun w' => ∃ u, w' = ov.f u) (fun a' => a' = af) (ops.toList.take n) a)
    (hK : ∀ (g : Nat → Nat) w, Below W.heap.size W w → (∀ k, n ≤ k → k < n + m → W.heap.size ≤ g k ∧ w.heap[g k]? = some obj) → (∀ k k', n ≤ k → k < n + m → n ≤ k' → k' < n + m → k ≠ k' → g k ≠ g k') →
      K ((List.range m).foldl (fun a' j => a'.put (dst ops (n + j)) (.pointer (some ⟨g (n + j), 0, none⟩))) af) w) :
    wpAny P md ops (onlyK K) ops.size (Array.replicate ops.size false) a W.drew := by
  have hf := fineF_of (obj := obj) hB
  have hsz := size_frB hB
  have hvals : ∀ X, Below W.heap.size W X → ∃ vs : Nat → Value, (∀ j, j < n → ∃ o, ops[j]? = some o ∧ YieldsIn P ops (fun Y => Below X.heap.size X Y) o (vs j) (cp ops vs a (fun _ => true) j)) ∧ cp ops vs a (fun _ => true) n = af := by
    intro X hX
    obtain ⟨ov⟩ := ov_ex X
    obtain ⟨vs, h1, h2⟩ := lex_values (ops := ops) (ops.toList.take n) 0 a (fun j hj => by
      have : j < n := by simp at hj; omega
      simp [List.getElem?_take, this]) (hq X hX ov)
    have hlen : (ops.toList.take n).length = n := by simp; omega
    rw [hlen] at h1 h2
    rw [fold_cp] at h2
    refine ⟨vs, fun j hj => ?_, h2⟩
    obtain ⟨o, b, g1, g2, g3⟩ := h1 j hj
    rw [fold_cp] at g3
    rw [g3] at g2
    have hC : (fun w' => ∃ u, w' = ov.f u) = (fun Y => Below X.heap.size X Y) := by
      funext Y
      exact propext ⟨fun ⟨u, hu⟩ => hu ▸ ov.below u, fun h => ⟨Y, (ov.eq Y h).symm⟩⟩
    rw [hC] at g2
    exact ⟨o, by simpa using g1, g2⟩
  -- the values hang on the frame alone
  have hone : ∀ vs : Nat → Value, cp ops vs a (fun _ => true) n = af → ∀ j, j < n → vs j = (match dst ops j with | some t => af.eval (.tmp t) | none => undef) := by
    intro vs he j hj
    have hs := List.all_eq_true.1 hS j (List.mem_range.2 hj)
    cases hd : dst ops j with
    | none => rw [hd] at hs; cases hs
    | some t =>
      rw [hd] at hs
      have ht : t < a.tmps.size := by simpa using hs
      have := eval_hit (ops := ops) vs a (fun _ => true) t j hd rfl n hj (fun i hi hij => hf.apart j i t (by omega) (by omega) (fun e => hij e.symm) hd)
      rw [he, if_pos ht] at this
      exact this.symm
  obtain ⟨vs, h1, h2⟩ := hvals W (Below.refl _ _)
  have hcn : ∀ (vs' : Nat → Value) (c : Nat → Bool) (i : Nat), (∀ k, k < i → c k = true) → (∀ k, k < i → vs' k = vs k) → cp ops vs' a c i = cp ops vs a (fun _ => true) i := by
    intro vs' c i hc hv
    rw [cp_congr (ops := ops) vs' a (c' := fun _ => true) i hc]
    exact cp_vals a _ _ fun k hk _ => hv k hk
  refine any_free (al := alF n m obj) hf (W := W) (vs := vs) (a := a) ?_ ?_ ?_ _ _ (fun _ => 0) _ _ ?_ ?_
  · intro i hi hal
    have hin : i < n := by
      unfold alF at hal
      by_cases h : n ≤ i ∧ i < n + m
      · rw [if_pos h] at hal; cases hal
      · omega
    obtain ⟨o, ho, _⟩ := h1 i hin
    refine ⟨o, ho, fun X hX => ?_⟩
    obtain ⟨vs', g1, g2⟩ := hvals X hX
    obtain ⟨o', ho', hy⟩ := g1 i hin
    rw [ho] at ho'
    cases ho'
    have hv : ∀ k, k < n → vs' k = vs k := fun k hk => (hone vs' g2 k hk).trans (hone vs h2 k hk).symm
    rw [hv i hin, hcn vs' (fun _ => true) i (fun _ _ => rfl) (fun k hk => hv k (by omega))] at hy
    rw [hcn vs (fun k => (alF n m obj k).isNone) i (fun k hk => by unfold alF; rw [if_neg (by omega)]; rfl) (fun _ _ => rfl)]
    exact hy
  · intro i ob hal
    unfold alF at hal
    by_cases h : n ≤ i ∧ i < n + m
    · rw [if_pos h] at hal
      cases hal
      exact ha i h.1 h.2
    · rw [if_neg h] at hal; cases hal
  · intro g w hb hrow hne
    have hal : ∀ k, n ≤ k → k < n + m → alF n m obj k = some obj := fun k h1 h2 => by unfold alF; rw [if_pos ⟨h1, h2⟩]
    have h3 := hK g w hb (fun k hk hk2 => hrow k obj (hal k hk hk2) (by omega)) (fun k k' hk hk2 hk' hk2' hkk => hne k k' (by omega) (by omega) (by rw [hal k hk hk2]; rfl) (by rw [hal k' hk' hk2']; rfl) hkk)
    have hfold : ∀ q, q ≤ m → cp ops (vg (alF n m obj) vs g) a (fun _ => true) (n + q) = (List.range q).foldl (fun a' j => a'.put (dst ops (n + j)) (.pointer (some ⟨g (n + j), 0, none⟩))) af := by
      intro q
      induction q with
      | zero =>
        intro _
        rw [← h2]
        exact cp_vals a _ _ fun k hk _ => by
          have hk' : k < n := hk
          have hno : alF n m obj k = none := by unfold alF; rw [if_neg (by omega)]
          unfold vg
          rw [hno]
          rfl
      | succ q ih =>
        intro hqm
        rw [List.range_succ, List.foldl_append, ← ih (by omega)]
        show (if true then _ else _) = _
        rw [if_pos rfl]
        simp only [List.foldl_cons, List.foldl_nil]
        congr 1
        unfold vg
        show (if (alF n m obj (n + q)).isSome = true then Value.pointer (some ⟨g (n + q), 0, none⟩) else vs (n + q)) = _
        rw [hal (n + q) (by omega) (by omega)]
        rfl
    rw [hsz, hfold m (Nat.le_refl _)]
    exact h3
  · have : ∀ k, k ≤ ops.size → unl (Array.replicate ops.size false) k ≤ k := by
      intro k
      induction k with
      | zero => intro _; exact Nat.le_refl _
      | succ k ih => intro hm; have := ih (by omega); simp only [unl]; split <;> omega
    exact this _ (Nat.le_refl _)
  · have hz : ∀ k, (Array.replicate ops.size false).getD k false = false := fun k => by simp [Array.getElem?_replicate]; split <;> simp
    refine ⟨by simp, ?_, (Below.refl _ _).drew, fun k ob _ hl => (by rw [hz] at hl; cases hl), fun k k' _ _ hl => (by rw [hz] at hl; cases hl)⟩
    have : ∀ k, cp ops (vg (alF n m obj) vs fun _ => 0) a (fun k => (Array.replicate ops.size false).getD k false) k = a := by
      intro k
      induction k with
      | zero => rfl
      | succ k ih => simp only [cp, ih]; rw [hz]; simp
    exact (this _).symm
end Fr

/-- A drawn region: n operations that read and call (one walk over whatever world), m allocs that wait for nothing, a tail in sequence. -/
theorem wp_region_fr {P : Program} {id : Nat} {Q : Exit → Act → World → Prop} {a : Act} {W : World} {l : List Oper} (n m : Nat) (obj : Obj) (af : Act) (hm : P.follows .mixedOrders = true) (hsp : splitB l (n + m) = true)
    (hB : Fr.frB .any (l.take (n + m)).toArray n m = true) (hS : Fr.slotsB (l.take (n + m)).toArray n a.tmps.size = true)
    (ha : ∀ i, n ≤ i → i < n + m → ∃ o, (l.take (n + m)).toArray[i]? = some o ∧ o.guard = none ∧ ∀ ρ w, (execOp ρ o).run P w = .ok (.value (.pointer (some ⟨w.heap.size, 0, none⟩))) (w.alloc obj))
    (hq : ∀ X, Below W.heap.size W X → ∀ ov : Ov X, wpQuiet P (l.take (n + m)).toArray (fun w' => ∃ u, w' = ov.f u) (fun a' => a' = af) (l.take n) a)
    (hK : ∀ (g : Nat → Nat) w, Below W.heap.size W w → (∀ k, n ≤ k → k < n + m → W.heap.size ≤ g k ∧ w.heap[g k]? = some obj) → (∀ k k', n ≤ k → k < n + m → n ≤ k' → k' < n + m → k ≠ k' → g k ≠ g k') →
      wpList P l.toArray Q (l.drop (n + m)) ((List.range m).foldl (fun a' j => a'.put (Rg.dst (l.take (n + m)).toArray (n + j)) (.pointer (some ⟨g (n + j), 0, none⟩))) af) w) :
    (Code.region id l.toArray true).wp P Q a W := by
  refine wp_region_split (n + m) hm hsp ?_
  have hsz := Fr.size_frB hB
  have h := Fr.any_fr (P := P) (md := .any) (K := fun a w => wpList P l.toArray Q (l.drop (n + m)) a w) n m obj hB hS ha (fun X hX ov => by
    have e : ((l.take (n + m)).toArray.toList.take n) = l.take n := by
      rw [List.take_take]
      congr 1
      omega
    rw [e]
    exact hq X hX ov) hK
  rw [hsz] at h
  exact Rg.wpAny_out (fun _ _ h => h) _ _ _ _ h
end Go.Proofs.YtbiopedpceddeaaGreatDoor
end
