/- Part. -/
import Derived.Test.YtbiopedpceddeaaGreatDoorQz03
import Derived.DeepKeys4
set_option linter.unusedVariables false
set_option linter.unusedSimpArgs false
set_option maxRecDepth 100000
set_option maxHeartbeats 16000000
namespace Go.Proofs.YtbiopedpceddeaaGreatDoor
section
open Go.RowKit
namespace Fr
open Rg
section
variable {P : Program} {ops : Array Oper} {md : Region.Mode}
def vg (al : Nat → Option Obj) (vs : Nat → Value) (g : Nat → Nat) (k : Nat) : Value := if (al k).isSome then .pointer (some ⟨g k, 0, none⟩) else vs k
structure FineF (md : Region.Mode) (ops : Array Oper) (al : Nat → Option Obj) : Prop where
 sel : ∀ (j : Nat) (o : Oper) cs b, ops[j]? = some o → o.op ≠ .select cs b
 apart : ∀ (i j : Nat) (t : Tmp), i < ops.size → j < ops.size → i ≠ j → dst ops i = some t → dst ops j ≠ some t
 dep : ∀ (i : Nat) (o : Oper) (t : Tmp) (k : Nat), ops[i]? = some o → t ∈ o.looksAt ops → dst ops k = some t → al k = none ∧ ∃ e ∈ o.after, Region.binds md e = true ∧ e.on = k
 lex : ∀ (i : Nat) (o : Oper) (e : Edge), ops[i]? = some o → e ∈ o.after → Region.binds md e = true → e.on < i
structure InvF (md : Region.Mode) (ops : Array Oper) (al : Nat → Option Obj) (W : World) (vs : Nat → Value) (a : Act) (listed : Array Bool) (g : Nat → Nat) (act : Act) (w : World) : Prop where
 size : listed.size = ops.size
 act : act = cp ops (vg al vs g) a (fun k => listed.getD k false) ops.size
 below : Below W.heap.size W w
 row : ∀ k obj, al k = some obj → listed.getD k false = true → W.heap.size ≤ g k ∧ w.heap[g k]? = some obj
 ne : ∀ k k', (al k).isSome → (al k').isSome → listed.getD k false = true → listed.getD k' false = true → k ≠ k' → g k ≠ g k'
theorem cp_vals {vs vs' : Nat → Value} (a : Act) (c : Nat → Bool) (m : Nat) (h : ∀ k, k < m → c k = true → vs k = vs' k) : cp ops vs a c m = cp ops vs' a c m := by
 induction m with
 | zero => rfl
 | succ m ih =>
  simp only [cp, ih fun k hk => h k (by omega)]
  split
  · rename_i hc; rw [h m (by omega) hc]
  · rfl
theorem some_readyF {al : Nat → Option Obj} (hf : FineF md ops al) {listed : Array Bool} (hs : listed.size = ops.size) (m : Nat) (hm : m ≤ ops.size) (h : ∃ k, k < m ∧ listed.getD k true = false) : ∃ i, i ∈ Region.ready md ops listed := by
 induction m with
 | zero => obtain ⟨k, hk, _⟩ := h; omega
 | succ m ih =>
  by_cases h' : ∃ k, k < m ∧ listed.getD k true = false
  · exact ih (by omega) h'
  · obtain ⟨k, hk, hl⟩ := h
    have e : k = m := by
     rcases Nat.lt_or_ge k m with h1 | h1
     · exact absurd ⟨k, h1, hl⟩ h'
     · omega
    subst e
    have hks : k < ops.size := by omega
    refine ⟨k, mem_ready.2 ⟨hl, ops[k], Array.getElem?_eq_getElem hks, fun e he hb => ?_⟩⟩
    have hlt := hf.lex k _ e (Array.getElem?_eq_getElem hks) he hb
    have : ¬ listed.getD e.on true = false := fun h1 => h' ⟨e.on, hlt, h1⟩
    rw [two_getD (by omega) false true]
    simpa using this
theorem any_free {al : Nat → Option Obj} (hf : FineF md ops al) {W : World} {vs : Nat → Value} {a : Act} {K : Act → World → Prop}
 (hq : ∀ i, i < ops.size → al i = none → ∃ o, ops[i]? = some o ∧ ∀ X, Below W.heap.size W X → YieldsIn P ops (fun Y => Below X.heap.size X Y) o (vs i) (cp ops vs a (fun k => (al k).isNone) i))
 (ha : ∀ i obj, al i = some obj → ∃ o, ops[i]? = some o ∧ o.guard = none ∧ ∀ ρ w, (execOp ρ o).run P w = .ok (.value (.pointer (some ⟨w.heap.size, 0, none⟩))) (w.alloc obj))
 (hK : ∀ (g : Nat → Nat) w, Below W.heap.size W w → (∀ k obj, al k = some obj → k < ops.size → W.heap.size ≤ g k ∧ w.heap[g k]? = some obj) → (∀ k k', k < ops.size → k' < ops.size → (al k).isSome → (al k').isSome → k ≠ k' → g k ≠ g k') → K (cp ops (vg al vs g) a (fun _ => true) ops.size) w) :
 ∀ (fuel : Nat) (listed : Array Bool) (g : Nat → Nat) (act : Act) (w : World), unl listed ops.size ≤ fuel → InvF md ops al W vs a listed g act w → wpAny P md ops (onlyK K) fuel listed act w := by
 intro fuel
 have done : ∀ (listed : Array Bool) (g : Nat → Nat) (act : Act) (w : World), unl listed ops.size = 0 → InvF md ops al W vs a listed g act w → onlyK K .normal act w := by
  intro listed g act w h0 I
  have hall := unl_zero h0
  have hall' : ∀ k, k < ops.size → listed.getD k false = true := fun k hk => by rw [two_getD (by rw [I.size]; omega) false true]; exact hall k hk
  show K act w
  rw [I.act, cp_congr (ops := ops) (vg al vs g) a (c' := fun _ => true) ops.size fun k hk => hall' k hk]
  exact hK g w I.below (fun k obj hk hkl => I.row k obj hk (hall' k hkl)) (fun k k' hk hk' h1 h2 hne => I.ne k k' h1 h2 (hall' k hk) (hall' k' hk') hne)
 have noReady : ∀ (listed : Array Bool) (g : Nat → Nat) (act : Act) (w : World), InvF md ops al W vs a listed g act w → Region.ready md ops listed = [] → unl listed ops.size = 0 := by
  intro listed g act w I hr
  rcases Nat.eq_zero_or_pos (unl listed ops.size) with h | h
  · exact h
  · have hex : ∃ k, k < ops.size ∧ listed.getD k true = false := by
     apply Classical.byContradiction
     intro hno
     have : ∀ m, m ≤ ops.size → unl listed m = 0 := by
      intro m
      induction m with
      | zero => intro _; rfl
      | succ m ih =>
       intro hm
       simp only [unl, ih (by omega)]
       cases hl : listed.getD m true
       · exact absurd ⟨m, by omega, hl⟩ hno
       · simp
     have := this _ (Nat.le_refl _)
     omega
    obtain ⟨i, hi⟩ := some_readyF hf I.size ops.size (Nat.le_refl _) hex
    rw [hr] at hi
    cases hi
 induction fuel with
 | zero =>
  intro listed g act w hu I
  have h0 : unl listed ops.size = 0 := by omega
  refine ⟨?_, done listed g act w h0 I⟩
  have hall := unl_zero h0
  cases hr : Region.ready md ops listed with
  | nil => rfl
  | cons i r =>
   have hi : i ∈ Region.ready md ops listed := by rw [hr]; simp
   obtain ⟨h1, o, ho, _⟩ := mem_ready.1 hi
   rw [hall i (at_lt ho)] at h1
   cases h1
 | succ fuel ih =>
  intro listed g act w hu I
  refine ⟨fun hr => done listed g act w (noReady listed g act w I hr) I, fun i hi => ?_⟩
  obtain ⟨hun, o, ho, hedges⟩ := mem_ready.1 hi
  have hilt := at_lt ho
  have hun' : listed.getD i false = false := by rw [two_getD (by rw [I.size]; omega) false true]; exact hun
  have hcount := unl_set hun ops.size hilt
  have his : i < listed.size := by rw [I.size]; exact hilt
  have hset : (listed.setIfInBounds i true).getD i false = true := by simp [his]
  have hother : ∀ k, k ≠ i → (listed.setIfInBounds i true).getD k false = listed.getD k false := fun k hk => getD_set_ne false (fun e => hk e.symm)
  have hdi : dst ops i = o.dst := by simp [dst, ho]
  cases hal : al i with
  | none =>
   obtain ⟨o2, ho2, hy⟩ := hq i hilt hal
   rw [ho] at ho2
   cases ho2
   have evs : ∀ t, t ∈ o.looksAt ops → act.eval (.tmp t) = (cp ops vs a (fun k => (al k).isNone) i).eval (.tmp t) := by
    intro t ht
    rw [I.act]
    by_cases hex : ∃ k, k < ops.size ∧ dst ops k = some t
    · obtain ⟨k, hk, hd⟩ := hex
      obtain ⟨hak, e, he, hb, hon⟩ := hf.dep i o t k ho ht hd
      have hkl : listed.getD k false = true := by rw [← hon]; exact hedges e he hb
      have hki : k < i := by rw [← hon]; exact hf.lex i o e ho he hb
      rw [eval_hit (vg al vs g) a _ t k hd hkl ops.size hk fun j hj hjk => hf.apart k j t (dst_lt hd) (by omega) (fun e => hjk e.symm) hd,
       eval_hit vs a _ t k hd (by simp [hak]) i hki fun j hj hjk => hf.apart k j t (dst_lt hd) (by omega) (fun e => hjk e.symm) hd]
      unfold vg
      rw [hak]
      rfl
    · have hno : ∀ k, k < ops.size → dst ops k ≠ some t := fun k hk hd => hex ⟨k, hk, hd⟩
      rw [eval_none (vg al vs g) a _ t ops.size hno, eval_none vs a _ t i fun k hk => hno k (by omega)]
   obtain ⟨e1, e2⟩ := same_of_evals (hf.sel i o · · ho) evs
   have hy' := (hy w I.below).of_same e1 e2
   refine wpOp_of_qOp (C := fun Y => Below w.heap.size w Y) (K := fun a' => a' = act.put o.dst (vs i)) (Below.refl _ _) ?_ (hy'.qOp ho rfl)
   rintro a' w' hw' rfl
   refine ih _ g _ _ (by omega) ⟨by simp [I.size], ?_, I.below.trans (hw'.mono I.below.size), fun k obj hk hkl => ?_, fun k k' h1 h2 hk hk' hne => ?_⟩
   · have := cp_set (ops := ops) (vg al vs g) a (c := fun k => listed.getD k false) (c' := fun k => (listed.setIfInBounds i true).getD k false) i ops.size hilt hun' hset hother (fun k t hk hki hd => hf.apart k i t (dst_lt hd) hilt hki hd)
     rw [this, ← I.act, hdi]
     unfold vg
     rw [hal]
     rfl
   · have hki : k ≠ i := by rintro rfl; rw [hal] at hk; cases hk
     rw [hother k hki] at hkl
     obtain ⟨h1, h2⟩ := I.row k obj hk hkl
     exact ⟨h1, (hw'.block _ (gA h2).1).trans h2⟩
   · have hki : k ≠ i := by rintro rfl; rw [hal] at h1; cases h1
     have hki' : k' ≠ i := by rintro rfl; rw [hal] at h2; cases h2
     rw [hother k hki] at hk
     rw [hother k' hki'] at hk'
     exact I.ne k k' h1 h2 hk hk' hne
  | some obj =>
   obtain ⟨o2, ho2, hgd, hrun⟩ := ha i obj hal
   rw [ho] at ho2
   cases ho2
   have hwant : Region.wanted o (yielded ops act.tmps) = true := by unfold Region.wanted; rw [hgd]
   unfold wpOp
   simp only [ho]
   rw [if_pos hwant]
   left
   unfold Oper.wp
   rw [hrun]
   simp only [Oper.upon]
   have hg : ∀ k, k ≠ i → (fun k => if k = i then w.heap.size else g k) k = g k := fun k hk => if_neg hk
   refine ih _ (fun k => if k = i then w.heap.size else g k) _ _ (by omega) ⟨by simp [I.size], ?_, I.below.alloc I.below.size obj, fun k ob hk hkl => ?_, fun k k' h1 h2 hk hk' hne => ?_⟩
   · have := cp_set (ops := ops) (vg al vs (fun k => if k = i then w.heap.size else g k)) a (c := fun k => listed.getD k false) (c' := fun k => (listed.setIfInBounds i true).getD k false) i ops.size hilt hun' hset hother (fun k t hk hki hd => hf.apart k i t (dst_lt hd) hilt hki hd)
     rw [this, hdi, I.act]
     have e : cp ops (vg al vs g) a (fun k => listed.getD k false) ops.size = cp ops (vg al vs (fun k => if k = i then w.heap.size else g k)) a (fun k => listed.getD k false) ops.size := by
      refine cp_vals a _ _ fun k hk hkl => ?_
      have hki : k ≠ i := by rintro rfl; rw [hun'] at hkl; cases hkl
      unfold vg
      simp only [if_neg hki]
     rw [e]
     congr 1
     unfold vg
     simp [hal]
   · by_cases hki : k = i
     · subst hki
       rw [hal] at hk
       cases hk
       simp only [if_true]
       exact ⟨I.below.size, heap_alloc_new w obj⟩
     · rw [hother k hki] at hkl
       obtain ⟨h1, h2⟩ := I.row k ob hk hkl
       simp only [if_neg hki]
       exact ⟨h1, (Below.heap_alloc _ _ _ (gA h2).1).trans h2⟩
   · have lt : ∀ q, q ≠ i → (al q).isSome → (listed.setIfInBounds i true).getD q false = true → g q < w.heap.size := fun q hq h hl => by
      obtain ⟨ob, hob⟩ := Option.isSome_iff_exists.1 h
      rw [hother q hq] at hl
      exact (gA (I.row q ob hob hl).2).1
     by_cases hki : k = i
     · have hki' : k' ≠ i := fun e => hne (hki.trans e.symm)
       simp only [if_pos hki, if_neg hki']
       have := lt k' hki' h2 hk'
       omega
     · by_cases hki' : k' = i
       · simp only [if_neg hki, if_pos hki']
         have := lt k hki h1 hk
         omega
       · simp only [if_neg hki, if_neg hki']
         rw [hother k hki] at hk
         rw [hother k' hki'] at hk'
         exact I.ne k k' h1 h2 hk hk' hne
end
end Fr
end
section
open Go.RowKit
namespace Fr
open Rg
def alF (n m : Nat) (obj : Obj) (k : Nat) : Option Obj := if n ≤ k ∧ k < n + m then some obj else none
def frB (md : Region.Mode) (ops : Array Oper) (n m : Nat) : Bool :=
 decide (ops.size = n + m) && Region.noSelect ops &&
 ((List.range ops.size).all fun i => (List.range ops.size).all fun j => i == j || (dst ops i).isNone || dst ops i != dst ops j) &&
 ((List.range ops.size).all fun i => match ops[i]? with
   | none => true
   | some o => (o.after.all fun e => !Region.binds md e || decide (e.on < i)) &&
    ((o.looksAt ops).all fun t => (List.range ops.size).all fun k => dst ops k != some t || (decide (k < n) && o.after.any fun e => Region.binds md e && e.on == k)))
theorem fineF_of {md : Region.Mode} {ops : Array Oper} {n m : Nat} {obj : Obj} (h : frB md ops n m = true) : FineF md ops (alF n m obj) := by
 unfold frB at h
 simp only [Bool.and_eq_true] at h
 obtain ⟨⟨⟨_, h1⟩, h2⟩, h3⟩ := h
 rw [List.all_eq_true] at h2 h3
 refine ⟨Region.noSelect_spec h1, ?_, ?_, ?_⟩
 · intro i j t hi hj hne hd e
   have := h2 i (List.mem_range.2 hi)
   rw [List.all_eq_true] at this
   have := this j (List.mem_range.2 hj)
   simp [hne, hd, e] at this
 · intro i o t k ho ht hd
   have := h3 i (List.mem_range.2 (at_lt ho))
   simp only [ho, Bool.and_eq_true] at this
   have := this.2
   rw [List.all_eq_true] at this
   have := this t ht
   rw [List.all_eq_true] at this
   have := this k (List.mem_range.2 (dst_lt hd))
   simp only [hd, bne_self_eq_false, Bool.false_or, Bool.and_eq_true, decide_eq_true_eq] at this
   obtain ⟨hk, this⟩ := this
   rw [Array.any_eq_true'] at this
   obtain ⟨e, he, hb⟩ := this
   simp at hb
   exact ⟨by unfold alF; rw [if_neg (by omega)], e, he, hb.1, hb.2⟩
 · intro i o e ho he hb
   have := h3 i (List.mem_range.2 (at_lt ho))
   simp only [ho, Bool.and_eq_true] at this
   have := this.1
   rw [Array.all_eq_true'] at this
   have := this e he
   simpa [hb] using this
theorem size_frB {md : Region.Mode} {ops : Array Oper} {n m : Nat} (h : frB md ops n m = true) : ops.size = n + m := by
 unfold frB at h
 simp only [Bool.and_eq_true, decide_eq_true_eq] at h
 exact h.1.1.1
def slotsB (ops : Array Oper) (n sz : Nat) : Bool := (List.range n).all fun i => match dst ops i with | some t => decide (t < sz) | none => false
theorem any_fr {P : Program} {md : Region.Mode} {ops : Array Oper} {a af : Act} {W : World} {K : Act → World → Prop} (n m : Nat) (obj : Obj) (hB : frB md ops n m = true) (hS : slotsB ops n a.tmps.size = true)
 (ha : ∀ i, n ≤ i → i < n + m → ∃ o, ops[i]? = some o ∧ o.guard = none ∧ ∀ ρ w, (execOp ρ o).run P w = .ok (.value (.pointer (some ⟨w.heap.size, 0, none⟩))) (w.alloc obj))
 (hq : ∀ X, Below W.heap.size W X → ∀ ov : Ov X, wpQuiet P ops (fun w' => ∃ u, w' = ov.f u) (fun a' => a' = af) (ops.toList.take n) a)
 (hK : ∀ (g : Nat → Nat) w, Below W.heap.size W w → (∀ k, n ≤ k → k < n + m → W.heap.size ≤ g k ∧ w.heap[g k]? = some obj) → (∀ k k', n ≤ k → k < n + m → n ≤ k' → k' < n + m → k ≠ k' → g k ≠ g k') →
  K ((List.range m).foldl (fun a' j => a'.put (dst ops (n + j)) (.pointer (some ⟨g (n + j), 0, none⟩))) af) w) :
 wpAny P md ops (onlyK K) ops.size (Array.replicate ops.size false) a W.drew := by
 have hf := fineF_of (obj := obj) hB
 have hsz := size_frB hB
 have hvals : ∀ X, Below W.heap.size W X → ∃ vs : Nat → Value, (∀ j, j < n → ∃ o, ops[j]? = some o ∧ YieldsIn P ops (fun Y => Below X.heap.size X Y) o (vs j) (cp ops vs a (fun _ => true) j)) ∧ cp ops vs a (fun _ => true) n = af := by
  intro X hX
  obtain ⟨ov⟩ := ov_ex X
  obtain ⟨vs, h1, h2⟩ := lex_values (ops := ops) (ops.toList.take n) 0 a (fun j hj => by
   have : j < n := by simp at hj; omega
   simp [List.getElem?_take, this]) (hq X hX ov)
  have hlen : (ops.toList.take n).length = n := by simp; omega
  rw [hlen] at h1 h2
  rw [fold_cp] at h2
  refine ⟨vs, fun j hj => ?_, h2⟩
  obtain ⟨o, b, g1, g2, g3⟩ := h1 j hj
  rw [fold_cp] at g3
  rw [g3] at g2
  have hC : (fun w' => ∃ u, w' = ov.f u) = (fun Y => Below X.heap.size X Y) := by
   funext Y
   exact propext ⟨fun ⟨u, hu⟩ => hu ▸ ov.below u, fun h => ⟨Y, (ov.eq Y h).symm⟩⟩
  rw [hC] at g2
  exact ⟨o, by simpa using g1, g2⟩
 have hone : ∀ vs : Nat → Value, cp ops vs a (fun _ => true) n = af → ∀ j, j < n → vs j = (match dst ops j with | some t => af.eval (.tmp t) | none => undef) := by
  intro vs he j hj
  have hs := List.all_eq_true.1 hS j (List.mem_range.2 hj)
  cases hd : dst ops j with
  | none => rw [hd] at hs; cases hs
  | some t =>
   rw [hd] at hs
   have ht : t < a.tmps.size := by simpa using hs
   have := eval_hit (ops := ops) vs a (fun _ => true) t j hd rfl n hj (fun i hi hij => hf.apart j i t (by omega) (by omega) (fun e => hij e.symm) hd)
   rw [he, if_pos ht] at this
   exact this.symm
 obtain ⟨vs, h1, h2⟩ := hvals W (Below.refl _ _)
 have hcn : ∀ (vs' : Nat → Value) (c : Nat → Bool) (i : Nat), (∀ k, k < i → c k = true) → (∀ k, k < i → vs' k = vs k) → cp ops vs' a c i = cp ops vs a (fun _ => true) i := by
  intro vs' c i hc hv
  rw [cp_congr (ops := ops) vs' a (c' := fun _ => true) i hc]
  exact cp_vals a _ _ fun k hk _ => hv k hk
 refine any_free (al := alF n m obj) hf (W := W) (vs := vs) (a := a) ?_ ?_ ?_ _ _ (fun _ => 0) _ _ ?_ ?_
 · intro i hi hal
   have hin : i < n := by
    unfold alF at hal
    by_cases h : n ≤ i ∧ i < n + m
    · rw [if_pos h] at hal; cases hal
    · omega
   obtain ⟨o, ho, _⟩ := h1 i hin
   refine ⟨o, ho, fun X hX => ?_⟩
   obtain ⟨vs', g1, g2⟩ := hvals X hX
   obtain ⟨o', ho', hy⟩ := g1 i hin
   rw [ho] at ho'
   cases ho'
   have hv : ∀ k, k < n → vs' k = vs k := fun k hk => (hone vs' g2 k hk).trans (hone vs h2 k hk).symm
   rw [hv i hin, hcn vs' (fun _ => true) i (fun _ _ => rfl) (fun k hk => hv k (by omega))] at hy
   rw [hcn vs (fun k => (alF n m obj k).isNone) i (fun k hk => by unfold alF; rw [if_neg (by omega)]; rfl) (fun _ _ => rfl)]
   exact hy
 · intro i ob hal
   unfold alF at hal
   by_cases h : n ≤ i ∧ i < n + m
   · rw [if_pos h] at hal
     cases hal
     exact ha i h.1 h.2
   · rw [if_neg h] at hal; cases hal
 · intro g w hb hrow hne
   have hal : ∀ k, n ≤ k → k < n + m → alF n m obj k = some obj := fun k h1 h2 => by unfold alF; rw [if_pos ⟨h1, h2⟩]
   have h3 := hK g w hb (fun k hk hk2 => hrow k obj (hal k hk hk2) (by omega)) (fun k k' hk hk2 hk' hk2' hkk => hne k k' (by omega) (by omega) (by rw [hal k hk hk2]; rfl) (by rw [hal k' hk' hk2']; rfl) hkk)
   have hfold : ∀ q, q ≤ m → cp ops (vg (alF n m obj) vs g) a (fun _ => true) (n + q) = (List.range q).foldl (fun a' j => a'.put (dst ops (n + j)) (.pointer (some ⟨g (n + j), 0, none⟩))) af := by
    intro q
    induction q with
    | zero =>
     intro _
     rw [← h2]
     exact cp_vals a _ _ fun k hk _ => by
      have hk' : k < n := hk
      have hno : alF n m obj k = none := by unfold alF; rw [if_neg (by omega)]
      unfold vg
      rw [hno]
      rfl
    | succ q ih =>
     intro hqm
     rw [List.range_succ, List.foldl_append, ← ih (by omega)]
     show (if true then _ else _) = _
     rw [if_pos rfl]
     simp only [List.foldl_cons, List.foldl_nil]
     congr 1
     unfold vg
     show (if (alF n m obj (n + q)).isSome = true then Value.pointer (some ⟨g (n + q), 0, none⟩) else vs (n + q)) = _
     rw [hal (n + q) (by omega) (by omega)]
     rfl
   rw [hsz, hfold m (Nat.le_refl _)]
   exact h3
 · have : ∀ k, k ≤ ops.size → unl (Array.replicate ops.size false) k ≤ k := by
    intro k
    induction k with
    | zero => intro _; exact Nat.le_refl _
    | succ k ih => intro hm; have := ih (by omega); simp only [unl]; split <;> omega
   exact this _ (Nat.le_refl _)
 · have hz : ∀ k, (Array.replicate ops.size false).getD k false = false := fun k => by simp [Array.getElem?_replicate]; split <;> simp
   refine ⟨by simp, ?_, (Below.refl _ _).drew, fun k ob _ hl => (by rw [hz] at hl; cases hl), fun k k' _ _ hl => (by rw [hz] at hl; cases hl)⟩
   have : ∀ k, cp ops (vg (alF n m obj) vs fun _ => 0) a (fun k => (Array.replicate ops.size false).getD k false) k = a := by
    intro k
    induction k with
    | zero => rfl
    | succ k ih => simp only [cp, ih]; rw [hz]; simp
   exact (this _).symm
end Fr
theorem wp_region_fr {P : Program} {id : Nat} {Q : Exit → Act → World → Prop} {a : Act} {W : World} {l : List Oper} (n m : Nat) (obj : Obj) (af : Act) (hm : P.follows .mixedOrders = true) (hsp : splitB l (n + m) = true)
 (hB : Fr.frB .any (l.take (n + m)).toArray n m = true) (hS : Fr.slotsB (l.take (n + m)).toArray n a.tmps.size = true)
 (ha : ∀ i, n ≤ i → i < n + m → ∃ o, (l.take (n + m)).toArray[i]? = some o ∧ o.guard = none ∧ ∀ ρ w, (execOp ρ o).run P w = .ok (.value (.pointer (some ⟨w.heap.size, 0, none⟩))) (w.alloc obj))
 (hq : ∀ X, Below W.heap.size W X → ∀ ov : Ov X, wpQuiet P (l.take (n + m)).toArray (fun w' => ∃ u, w' = ov.f u) (fun a' => a' = af) (l.take n) a)
 (hK : ∀ (g : Nat → Nat) w, Below W.heap.size W w → (∀ k, n ≤ k → k < n + m → W.heap.size ≤ g k ∧ w.heap[g k]? = some obj) → (∀ k k', n ≤ k → k < n + m → n ≤ k' → k' < n + m → k ≠ k' → g k ≠ g k') →
  wpList P l.toArray Q (l.drop (n + m)) ((List.range m).foldl (fun a' j => a'.put (Rg.dst (l.take (n + m)).toArray (n + j)) (.pointer (some ⟨g (n + j), 0, none⟩))) af) w) :
 (Code.region id l.toArray true).wp P Q a W := by
 refine wp_region_split (n + m) hm hsp ?_
 have hsz := Fr.size_frB hB
 have h := Fr.any_fr (P := P) (md := .any) (K := fun a w => wpList P l.toArray Q (l.drop (n + m)) a w) n m obj hB hS ha (fun X hX ov => by
  have e : ((l.take (n + m)).toArray.toList.take n) = l.take n := by
   rw [List.take_take]
   congr 1
   omega
  rw [e]
  exact hq X hX ov) hK
 rw [hsz] at h
 exact Rg.wpAny_out (fun _ _ h => h) _ _ _ _ h
end
section
open Go.RowKit
section
end
section
end
theorem infoNode : (Tryz.prog.info? 62).map (fun i => (i.zero, i.size, i.bytes)) = some (some (.agg #[.int .i64 0, .int .i64 0, .int .i64 0, .slice none 0 0, .int .u32 0]), 5, 56) := by kernel_rfl
theorem ndC_len (x : T.Nd) (A : Option Addr) (c : Nat) : (ndC x A c).length = 5 := rfl
theorem ndC_one (x : T.Nd) (A : Option Addr) (c : Nat) : ∀ u ∈ ndC x A c, u.oneCell' = true := by
 intro u hu
 simp [ndC] at hu
 rcases hu with rfl | rfl | rfl | rfl | rfl <;> rfl
theorem src_new (w : World) (us : List Value) (T : TypeId) : ∀ j u, us[j]? = some u → ∃ ad : Addr, (some (⟨w.heap.size, 0, none⟩ : Addr)) = some ad ∧ (w.alloc (.cells us.toArray T)).cell? (ad.add j) = some u := by
 intro j u hu
 refine ⟨_, rfl, ?_⟩
 unfold Addr.add
 split
 · rename_i e
   subst e
   rw [cell_of_row _ _ _ _ _ (0, 0) (heap_alloc_new w _)]
   simpa using hu
 · simp only [Nat.zero_add]
   rw [cell_of_row _ _ _ _ _ (0, 0) (heap_alloc_new w _)]
   simpa using hu
theorem StAt.take {α : Type} {s : Nat} {R : World → List Value → α → Prop} {w : World} {A : Option Addr} {n : Nat} {xs : List α} (h : StAt s R w A n xs) {k : Nat} (hk : k ≤ n) : StAt s R w A k (xs.take k) := by
 have hl := h.len
 refine ⟨by rw [List.length_take]; omega, by have := h.le; omega, fun i x hx => ?_⟩
 rw [List.getElem?_take] at hx
 split at hx
 · exact h.2.2 i x hx
 · cases hx
end
section
open Go.RowKit Go.MapKept Go.Maps Go.WideMaps
structure Kpm (M : Nat → Prop) (w w' : World) : Prop where
 os : w'.os = w.os
 tape : w'.tape = w.tape
 output : w'.output = w.output
 size : w.heap.size ≤ w'.heap.size
 block : ∀ k, k < w.heap.size → ¬ M k → w'.heap[k]? = w.heap[k]?
section
variable {M N : Nat → Prop} {a b c w w' : World} {B : Nat}
theorem Kpm.refl (M : Nat → Prop) (w : World) : Kpm M w w := ⟨rfl, rfl, rfl, Nat.le_refl _, fun _ _ _ => rfl⟩
theorem Kpm.trans (h : Kpm M a b) (k : Kpm N b c) (hN : ∀ i, i < a.heap.size → N i → M i) : Kpm M a c :=
 ⟨k.os.trans h.os, k.tape.trans h.tape, k.output.trans h.output, Nat.le_trans h.size k.size, fun i hi hm => (k.block i (Nat.lt_of_lt_of_le hi h.size) (fun hn => hm (hN i hi hn))).trans (h.block i hi hm)⟩
theorem Kpm.weak (h : Kpm M a b) (hi : ∀ i, i < a.heap.size → M i → N i) : Kpm N a b :=
 ⟨h.os, h.tape, h.output, h.size, fun i hl hn => h.block i hl fun hm => hn (hi i hl hm)⟩
theorem Kpm.below (h : Kpm M a b) (hB : B ≤ a.heap.size) (hM : ∀ i, M i → B ≤ i) : Below B a b :=
 ⟨h.os, h.tape, h.output, h.size, fun i hi => h.block i (by omega) fun hm => by have := hM i hm; omega⟩
theorem Kpm.of_below (h : Below a.heap.size a b) (M : Nat → Prop) : Kpm M a b :=
 ⟨h.os, h.tape, h.output, h.size, fun i hi _ => h.block i hi⟩
theorem Kpm.grown {row : Option Nat} (h : a.grownBy b row) (hr : ∀ g, row = some g → M g) : Kpm M a b :=
 ⟨h.os, h.tape, h.output, h.size, fun i hi hm => h.block i hi fun e => hm (hr i e.symm)⟩
theorem Kpm.drew (h : Kpm M a b) : Kpm M a b.drew := ⟨h.os, h.tape, h.output, h.size, h.block⟩
theorem Kpm.alloc (h : Kpm M a b) (o : Obj) : Kpm M a (b.alloc o) :=
 h.trans (Kpm.of_below ((Below.refl _ _).alloc (Nat.le_refl _) o) (fun _ => False)) (fun _ _ h => h.elim)
theorem Kpm.setCell (h : Kpm M a b) {p : Addr} (hp : p.block < a.heap.size → M p.block) (u : Value) : Kpm M a (b.setCell p u) :=
 ⟨h.os, h.tape, h.output, by simpa using h.size, fun i hi hm => (Below.heap_setCell b p u i (fun e => hm (by rw [e]; exact hp (by rw [← e]; exact hi)))).trans (h.block i hi hm)⟩
theorem SlAt.kpm {q : IntKind} {A : Option Addr} {n : Nat} {xs : List Int} (h : SlAt (IntR q) w A n xs) (k : Kpm M w w') (hA : xs ≠ [] → ∀ b off, A = some ⟨b, off, none⟩ → ¬ M b) : SlAt (IntR q) w' A n xs := by
 refine ⟨h.1, h.2.1, fun j x hx => ?_⟩
 obtain ⟨b, off, u, e, hlt, hc, hr⟩ := h.2.2 j x hx
 have hn : xs ≠ [] := fun e => by rw [e] at hx; simp at hx
 have hb := k.block b hlt (hA hn b off e)
 refine ⟨b, off, u, e, Nat.lt_of_lt_of_le hlt k.size, ?_, hr⟩
 unfold World.cell? at hc ⊢
 rw [hb]
 exact hc
end
structure Ky where
 op : Int
 w : Int
 fl : Int
 imm : Int
 a0 : Int
 a1 : Int
 a2 : Int
deriving DecidableEq
def kyV (k : Ky) : Value := .agg #[.int .i64 k.op, .int .i64 k.w, .int .i64 k.fl, .int .u32 k.imm, .int .i64 k.a0, .int .i64 k.a1, .int .i64 k.a2]
theorem kyV_inj : ∀ a b, kyV a = kyV b → a = b := by
 rintro ⟨⟩ ⟨⟩ h
 simp [kyV] at h
 simpa using h
def I64 (n : Int) : Prop := -9223372036854775808 ≤ n ∧ n ≤ 9223372036854775807
def Ky.Wf (k : Ky) : Prop := I64 k.op ∧ I64 k.w ∧ I64 k.fl ∧ (0 ≤ k.imm ∧ k.imm < 4294967296) ∧ I64 k.a0 ∧ I64 k.a1 ∧ I64 k.a2
theorem lit_i64 {n : Int} (h : I64 n) : (Lit.int .i64 n).wf = true := by
 have e1 : IntKind.i64.min = -9223372036854775808 := by decide
 have e2 : IntKind.i64.max = 9223372036854775807 := by decide
 unfold Lit.wf
 rw [Bool.and_eq_true, decide_eq_true_eq, decide_eq_true_eq, e1, e2]
 exact h
theorem lit_u32 {n : Int} (h : 0 ≤ n ∧ n < 4294967296) : (Lit.int .u32 n).wf = true := by
 have e1 : IntKind.u32.min = 0 := by decide
 have e2 : IntKind.u32.max = 4294967295 := by decide
 unfold Lit.wf
 rw [Bool.and_eq_true, decide_eq_true_eq, decide_eq_true_eq, e1, e2]
 omega
theorem keyKeyed : Keyed Tryz.prog 213 := Keyed.of_law (deep_law_laid (by kernel_rfl) (m := 3) (by omega) (of_decide_eq_true (by kernel_rfl)) (by kernel_rfl) (by kernel_rfl))
theorem intKeyed : Keyed Tryz.prog 3 := int_keyed Tryz.underlying3
theorem keyLits_int {P : Program} {t : TypeId} {q : IntKind} (h : P.underlying t = some (.int q)) (d : Nat) {n : Int} (hn : (Lit.int q n).wf = true) : P.keyLits (d + 1) t [.int q n] = some [.int q n] := by
 simp [Program.keyLits, h, hn]
theorem keyLits_three {P : Program} {t e : TypeId} {q : IntKind} (h : P.underlying t = some (.array 3 e)) (he : P.underlying e = some (.int q)) (hc : P.cellsOf t = 3) (hce : P.cellsOf e = 1) (d : Nat) {a b c : Int} (ha : (Lit.int q a).wf = true) (hb : (Lit.int q b).wf = true) (hcw : (Lit.int q c).wf = true) :
 P.keyLits (d + 2) t [.int q a, .int q b, .int q c] = some [.int q a, .int q b, .int q c] := by
 unfold Program.keyLits
 simp only [h, hc, hce]
 refine (if_pos rfl).trans ?_
 simp only [List.range, List.range.loop, List.mapM_cons, List.mapM_nil, Nat.zero_mul, Nat.one_mul, Nat.reduceMul, List.drop_zero, List.drop_succ_cons, List.take_succ_cons, List.take_zero, keyLits_int he _ ha, keyLits_int he _ hb, keyLits_int he _ hcw]
 rfl
theorem keyOf_ky {k : Ky} (h : k.Wf) : ∃ l, keyOf Tryz.prog 213 (kyV k) = some l := by
 obtain ⟨h1, h2, h3, h4, h5, h6, h7⟩ := h
 have f1 : Tryz.prog.keyType 213 = true := by kernel_rfl
 have f2 : Tryz.prog.cellsOf 213 = 7 := by kernel_rfl
 have f3 : Tryz.prog.cellsOf 211 = 3 := by kernel_rfl
 have f4 : Tryz.prog.cellsOf 3 = 1 := by kernel_rfl
 have f5 : Tryz.prog.cellsOf 26 = 1 := by kernel_rfl
 obtain ⟨d, hd⟩ : ∃ d, Tryz.prog.types.size + 1 = d + 4 := ⟨Tryz.prog.types.size - 3, by have : 3 ≤ Tryz.prog.types.size := of_decide_eq_true (by kernel_rfl); omega⟩
 have hL : Tryz.prog.keyLits (Tryz.prog.types.size + 1) 213 (kyV k).cells.toList = some [.int .i64 k.op, .int .i64 k.w, .int .i64 k.fl, .int .u32 k.imm, .int .i64 k.a0, .int .i64 k.a1, .int .i64 k.a2] := by
  rw [hd]
  unfold Program.keyLits
  simp only [Tryz.underlying213, f2]
  simp only [kyV, Value.cells]
  refine (if_pos ⟨rfl, by kernel_rfl⟩).trans ?_
  simp only [List.mapM_cons, List.mapM_nil, f3, f4, f5, List.drop_zero, List.drop_succ_cons, List.take_succ_cons, List.take_zero]
  rw [keyLits_int Tryz.underlying3 (d + 2) (lit_i64 h1), keyLits_int Tryz.underlying3 (d + 2) (lit_i64 h2), keyLits_int Tryz.underlying3 (d + 2) (lit_i64 h3), keyLits_int Tryz.underlying26 (d + 2) (lit_u32 h4), keyLits_three Tryz.underlying211 Tryz.underlying3 f3 f4 (d + 1) (lit_i64 h5) (lit_i64 h6) (lit_i64 h7)]
  rfl
 have hf : (kyV k).formed Tryz.prog 213 = true := by simp [Value.formed, Tryz.underlying213, f2, kyV]
 unfold keyOf
 simp only [Tryz.underlying213, f1, hf, hL, Bool.and_self, if_true, Option.map_some]
 exact ⟨_, rfl⟩
end
section
open Go.RowKit Go.MapKept Go.Maps Go.WideMaps
def kyOf (x : T.Nd) : Ky := ⟨x.op, x.w, x.fl, x.imm, x.args.getD 0 (-1), x.args.getD 1 (-1), x.args.getD 2 (-1)⟩
structure NWf (x : T.Nd) : Prop where
 op : I64 x.op
 w : I64 x.w
 fl : I64 x.fl
 imm : 0 ≤ x.imm ∧ x.imm < 4294967296
 len : x.args.length ≤ 3
 args : ∀ a ∈ x.args, 0 ≤ a ∧ a < 4611686018427387904
theorem args_pad {l m : List Int} (hl : l.length ≤ 3) (hm : m.length ≤ 3) (al : ∀ a ∈ l, 0 ≤ a) (am : ∀ a ∈ m, 0 ≤ a) (h0 : l.getD 0 (-1) = m.getD 0 (-1)) (h1 : l.getD 1 (-1) = m.getD 1 (-1)) (h2 : l.getD 2 (-1) = m.getD 2 (-1)) : l = m := by
 rcases l with _ | ⟨a, _ | ⟨b, _ | ⟨c, _ | ⟨d, l⟩⟩⟩⟩ <;> rcases m with _ | ⟨a', _ | ⟨b', _ | ⟨c', _ | ⟨d', m⟩⟩⟩⟩ <;> simp at * <;> omega
theorem kyOf_inj {x y : T.Nd} (hx : NWf x) (hy : NWf y) (h : kyOf x = kyOf y) : x = y := by
 obtain ⟨op, w, fl, args, imm⟩ := x
 obtain ⟨op', w', fl', args', imm'⟩ := y
 simp only [kyOf, Ky.mk.injEq] at h
 obtain ⟨rfl, rfl, rfl, rfl, h0, h1, h2⟩ := h
 obtain rfl := args_pad hx.len hy.len (fun a ha => (hx.args a ha).1) (fun a ha => (hy.args a ha).1) h0 h1 h2
 rfl
theorem NWf.ky {x : T.Nd} (h : NWf x) : (kyOf x).Wf := by
 have ha : ∀ i, I64 (x.args.getD i (-1)) := fun i => by
  rw [List.getD_eq_getElem?_getD]
  cases e : x.args[i]? with
  | none => exact ⟨by decide, by decide⟩
  | some a =>
   have := h.args a (List.mem_of_getElem? e)
   exact ⟨by simp; omega, by simp; omega⟩
 exact ⟨h.op, h.w, h.fl, h.imm, ha 0, ha 1, ha 2⟩
def IntE (_ : World) (_ : Ky) (u : Value) (n : Int) : Prop := u = .int .i64 n
def entsF : Nat → List T.Nd → List (Ky × Int)
 | _, [] => []
 | k, x :: l => (kyOf x, (k : Int)) :: entsF (k + 1) l
def ents (out : List T.Nd) : List (Ky × Int) := entsF 0 out
theorem entsF_app (l m : List T.Nd) : ∀ k, entsF k (l ++ m) = entsF k l ++ entsF (k + l.length) m := by
 induction l with
 | nil => intro k; simp [entsF]
 | cons x l ih => intro k; simp only [List.cons_append, entsF, ih, List.length_cons]; rw [show k + 1 + l.length = k + (l.length + 1) by omega]
theorem entsF_get {x : T.Nd} (hx : NWf x) : ∀ (l : List T.Nd) (k : Nat), (∀ y ∈ l, NWf y) → AL.get (entsF k l) (kyOf x) = if x ∈ l then some ((k + l.idxOf x : Nat) : Int) else none := by
 intro l
 induction l with
 | nil => intro k _; rfl
 | cons y l ih =>
  intro k h
  unfold entsF AL.get
  by_cases e : kyOf y = kyOf x
  · have e' := kyOf_inj (h y (by simp)) hx e
    subst e'
    simp
  · rw [if_neg e, ih (k + 1) (fun z hz => h z (by simp [hz]))]
    have hne : x ≠ y := fun h' => e (by rw [h'])
    have hne' : (y == x) = false := by simp; exact fun h' => hne h'.symm
    by_cases hm : x ∈ l
    · rw [if_pos hm, if_pos (by simp [hm]), List.idxOf_cons, hne']
      simp; omega
    · rw [if_neg hm, if_neg (by simp [hm, hne])]
theorem ents_get {out : List T.Nd} {x : T.Nd} (hx : NWf x) (ho : ∀ y ∈ out, NWf y) : AL.get (ents out) (kyOf x) = if x ∈ out then some ((out.idxOf x : Nat) : Int) else none := by
 have := entsF_get hx out 0 ho
 unfold ents
 simpa using this
theorem AL_get_none {κ α : Type} [DecidableEq κ] {l : List (κ × α)} {k : κ} (h : AL.get l k = none) : ∀ p ∈ l, p.1 ≠ k := by
 induction l with
 | nil => intro p hp; simp at hp
 | cons q l ih =>
  intro p hp
  unfold AL.get at h
  split at h
  · cases h
  · rename_i e
    rcases List.mem_cons.1 hp with rfl | hp
    · exact e
    · exact ih h p hp
theorem ents_put {out : List T.Nd} {x : T.Nd} (hx : NWf x) (ho : ∀ y ∈ out, NWf y) (hn : x ∉ out) : AL.put (ents out) (kyOf x) (out.length : Int) = ents (out ++ [x]) := by
 have hg := ents_get hx ho
 rw [if_neg hn] at hg
 rw [AL.put_none (AL_get_none hg)]
 unfold ents
 rw [entsF_app]
 simp [entsF]
def NdM (M : Nat → Prop) (w : World) (us : List Value) (x : T.Nd) : Prop :=
 ∃ A c, us = ndC x A c ∧ SlAt (IntR .i64) w A x.args.length x.args ∧ 0 ≤ x.imm ∧ x.imm < 4294967296 ∧ (x.args ≠ [] → ∀ b off, A = some ⟨b, off, none⟩ → M b ∧ ∃ cur fr, w.heap[b]? = some (.cells cur 3 fr))
def OwnM (M : Nat → Prop) (w : World) (v : Value) (nds : List T.Nd) : Prop :=
 ∃ cells, OwnAt w 62 5 v nds.length cells ∧ (∀ (k : Nat) (x : T.Nd), nds[k]? = some x → NdM M w ((cells.drop (k * 5)).take 5) x) ∧ ∀ g, v.ownBlock = some g → M g
structure BuAt (w : World) (B bb : Nat) (out : List T.Nd) (M : Nat → Prop) : Prop where
 in_ : ∀ i, M i → B ≤ i ∧ i < w.heap.size
 self : M bb
 wf : ∀ x ∈ out, NWf x
 cells : ∃ v fm, w.heap[bb]? = some (.cells #[v, .map fm] 148 (0, 0)) ∧ OwnM M w v out ∧
  ((fm = none ∧ out = []) ∨ ∃ fb, fm = some fb ∧ M fb ∧ MapAt Tryz.prog 213 kyV IntE w fb (ents out))
section
variable {M M' : Nat → Prop} {w w' : World} {us : List Value} {x : T.Nd} {v : Value} {nds out : List T.Nd} {B bb : Nat}
theorem NdM.ndR (h : NdM M w us x) : NdR w us x := by
 obtain ⟨A, c, h1, h2, h3, h4, _⟩ := h
 exact ⟨A, c, h1, h2, h3, h4⟩
theorem NdM.same (h : NdM M w us x) (hs : ∀ i, M i → w'.heap[i]? = w.heap[i]?) : NdM M w' us x := by
 obtain ⟨A, c, h1, h2, h3, h4, h5⟩ := h
 refine ⟨A, c, h1, ⟨h2.1, h2.2.1, fun k y hy => ?_⟩, h3, h4, fun hn b off hA => ?_⟩
 · obtain ⟨b, off, u, hA, hlt, hc, hu⟩ := h2.2.2 k y hy
   have hn : x.args ≠ [] := fun e => by rw [e] at hy; simp at hy
   obtain ⟨hm, cur, fr, hcur⟩ := h5 hn b off hA
   have e := hs b hm
   rw [hcur] at e
   refine ⟨b, off, u, hA, (gA e).1, ?_, hu⟩
   unfold World.cell? at hc ⊢
   rw [e, ← hcur]
   exact hc
 · obtain ⟨hm, cur, fr, hcur⟩ := h5 hn b off hA
   exact ⟨hm, cur, fr, (hs b hm).trans hcur⟩
theorem NdM.weak (h : NdM M w us x) (hs : ∀ i, M i → M' i) : NdM M' w us x := by
 obtain ⟨A, c, h1, h2, h3, h4, h5⟩ := h
 exact ⟨A, c, h1, h2, h3, h4, fun hn b off hA => ⟨hs b (h5 hn b off hA).1, (h5 hn b off hA).2⟩⟩
theorem NdM.grown {row : Option Nat} (h : NdM M w us x) (hg : w.grownBy w' row) (hr : ∀ g cur fr, row = some g → w.heap[g]? ≠ some (.cells cur 3 fr)) : NdM M w' us x := by
 obtain ⟨A, c, h1, h2, h3, h4, h5⟩ := h
 have key : x.args ≠ [] → ∀ b off, A = some ⟨b, off, none⟩ → w'.heap[b]? = w.heap[b]? := fun hn b off hA => by
  obtain ⟨hm, cur, fr, hcur⟩ := h5 hn b off hA
  exact hg.block b (gA hcur).1 (fun e => hr b cur fr e.symm hcur)
 refine ⟨A, c, h1, ⟨h2.1, h2.2.1, fun k y hy => ?_⟩, h3, h4, fun hn b off hA => ?_⟩
 · obtain ⟨b, off, u, hA, hlt, hc, hu⟩ := h2.2.2 k y hy
   have hn : x.args ≠ [] := fun e => by rw [e] at hy; simp at hy
   refine ⟨b, off, u, hA, Nat.lt_of_lt_of_le hlt hg.size, ?_, hu⟩
   unfold World.cell? at hc ⊢
   rw [key hn b off hA]
   exact hc
 · obtain ⟨hm, cur, fr, hcur⟩ := h5 hn b off hA
   exact ⟨hm, cur, fr, (key hn b off hA).trans hcur⟩
theorem NdM.below (h : NdM M w us x) (hk : Below w.heap.size w w') : NdM M w' us x := by
 obtain ⟨A, c, h1, h2, h3, h4, h5⟩ := h
 refine ⟨A, c, h1, h2.below (monoInt _) hk, h3, h4, fun hn b off hA => ?_⟩
 obtain ⟨hm, cur, fr, hc⟩ := h5 hn b off hA
 exact ⟨hm, cur, fr, (hk.block _ (gA hc).1).trans hc⟩
theorem OwnM.nil_ (M : Nat → Prop) (w : World) : OwnM M w (.slice none 0 0) [] := ⟨[], OwnAt.nil_ _ _ _, fun k x h => by simp at h, fun g h => by simp [Value.ownBlock] at h⟩
theorem OwnM.form (h : OwnM M w v nds) : ∃ A c, v = .slice A nds.length c := by
 obtain ⟨cells, h1, _⟩ := h
 exact h1.form
theorem OwnM.same (h : OwnM M w v nds) (hs : ∀ i, M i → w'.heap[i]? = w.heap[i]?) : OwnM M w' v nds := by
 obtain ⟨cells, h1, h2, h3⟩ := h
 exact ⟨cells, h1.same fun g hg => hs g (h3 g hg), fun k x hx => (h2 k x hx).same hs, h3⟩
theorem OwnM.grown {row : Option Nat} (h : OwnM M w v nds) (hg : w.grownBy w' row) (hr : ∀ g cur T fr, row = some g → w.heap[g]? = some (.cells cur T fr) → T ≠ 3 ∧ T ≠ 62) : OwnM M w' v nds := by
 obtain ⟨cells, h1, h2, h3⟩ := h
 refine ⟨cells, h1.same fun g hg' => ?_, fun k x hx => (h2 k x hx).grown hg fun g cur fr e hc => (hr g cur _ fr e hc).1 rfl, h3⟩
 rcases h1.2 with ⟨rfl, _⟩ | ⟨g', off, cap, cur, rfl, hcur, _⟩
 · simp [Value.ownBlock] at hg'
 · simp [Value.ownBlock] at hg'
   subst hg'
   exact hg.block _ (gA hcur).1 (fun e => (hr _ cur _ _ e.symm hcur).2 rfl)
theorem OwnM.stAt {A : Option Addr} {n c : Nat} (h : OwnM M w (.slice A n c) nds) (hn : nds.length = n) : StAt 5 NdR w A n nds := by
 obtain ⟨cells, h1, h2, h3⟩ := h
 rw [hn] at h1
 exact h1.stAt hn fun k x hx => (h2 k x hx).ndR
theorem OwnM.row (h : OwnM M w v nds) : ∀ g, v.ownBlock = some g → ∃ cur fr, w.heap[g]? = some (.cells cur 62 fr) := by
 obtain ⟨cells, h1, h2, h3⟩ := h
 intro g hg
 rcases h1.2 with ⟨rfl, _⟩ | ⟨g', off, cap, cur, rfl, hcur, _⟩
 · simp [Value.ownBlock] at hg
 · simp [Value.ownBlock] at hg
   subst hg
   exact ⟨cur, _, hcur⟩
theorem BuAt.same (h : BuAt w B bb out M) (hs : ∀ i, M i → w'.heap[i]? = w.heap[i]?) (hz : w.heap.size ≤ w'.heap.size) : BuAt w' B bb out M := by
 obtain ⟨v, fm, h1, h2, h3⟩ := h.cells
 refine ⟨fun i hi => ⟨(h.in_ i hi).1, Nat.lt_of_lt_of_le (h.in_ i hi).2 hz⟩, h.self, h.wf, v, fm, (hs bb h.self).trans h1, h2.same hs, ?_⟩
 rcases h3 with h3 | ⟨fb, e, hm, hM⟩
 · exact .inl h3
 · exact .inr ⟨fb, e, hm, hM.keep (hs fb hm) fun _ _ _ h => h⟩
theorem BuAt.below (h : BuAt w B bb out M) (k : Below w.heap.size w w') : BuAt w' B bb out M :=
 h.same (fun i hi => k.block i (h.in_ i hi).2) k.size
end
def ArgAt (B : Nat) (M : Nat → Prop) (w : World) (A : Option Addr) (l : List Int) : Prop :=
 SlAt (IntR .i64) w A l.length l ∧ (l ≠ [] → ∀ b off, A = some ⟨b, off, none⟩ → B ≤ b ∧ ¬ M b ∧ ∃ cur fr, w.heap[b]? = some (.cells cur 3 fr))
def InA (A : Option Addr) (l : List Int) (i : Nat) : Prop := l ≠ [] ∧ ∃ off, A = some ⟨i, off, none⟩
end
section
open Go.RowKit Go.MapKept Go.Maps Go.WideMaps
theorem infoInt1 : (Tryz.prog.info? 3).map (·.size) = some 1 := by kernel_rfl
theorem copy_args {x : T.Nd} (hx : NWf x) {A : Option Addr} {c : Nat} {w : World} {g : Nat} (hA : SlAt (IntR .i64) w A x.args.length x.args)
 (hg : w.heap[g]? = some (.cells #[.int .i64 x.op, .int .i64 x.w, .int .i64 x.fl, .int .u32 x.imm, .int .i64 (-1), .int .i64 (-1), .int .i64 (-1)] 213 (0, 0))) (o : TypeId) :
 ∃ w', (Builtin.copy_ #[60, 60] o #[.slice (some ⟨g, 4, none⟩) 3 3, .slice A x.args.length c]).run Tryz.prog w = .ok (.int .i64 (x.args.length : Int)) w' ∧
  w.grownBy w' (some g) ∧ w'.heap.size = w.heap.size ∧ w'.heap[g]? = some (.cells #[.int .i64 x.op, .int .i64 x.w, .int .i64 x.fl, .int .u32 x.imm, .int .i64 (kyOf x).a0, .int .i64 (kyOf x).a1, .int .i64 (kyOf x).a2] 213 (0, 0)) := by
 have hlen := hx.len
 cases A with
 | none =>
  have hn : x.args = [] := by
   cases h : x.args with
   | nil => rfl
   | cons a l =>
    obtain ⟨b, off, u, e, _⟩ := hA.2.2 0 a (by rw [h]; rfl)
    cases e
  refine ⟨w, ?_, ⟨rfl, rfl, rfl, Nat.le_refl _, fun _ _ _ => rfl⟩, rfl, ?_⟩
  · rw [hn]
    simp [Builtin.copy_, run_underlying Tryz.underlying60, Builtin.lenOf, Builtin.firstCells, storeCells]
    rfl
  · rw [hg]; simp [kyOf, hn]
 | some a =>
  obtain ⟨us, hul, husrc, hur⟩ := hA.cells
  have huc : ∀ j v, us[j]? = some v → w.cell? (a.add j) = some v := fun j v hv => by
   obtain ⟨ad, e, hc⟩ := husrc j v hv
   cases e
   exact hc
  have hus : us = x.args.map (Value.int .i64) := by
   apply List.ext_getElem?
   intro i
   rw [List.getElem?_map]
   cases h : us[i]? with
   | none =>
    rw [List.getElem?_eq_none_iff] at h
    rw [List.getElem?_eq_none (by omega)]; rfl
   | some u =>
    have hi : i < x.args.length := by rw [← hul]; exact (List.getElem?_eq_some_iff.1 h).1
    rw [List.getElem?_eq_getElem hi]
    exact congrArg some (hur i _ u (List.getElem?_eq_getElem hi) h)
  have hrun := run_copy_row (P := Tryz.prog) w 60 60 o 3 g 4 3 3 a x.args.length c _ _ us Tryz.underlying60 infoInt1 hg (by rw [hul]; exact (Nat.min_eq_left hlen).symm) huc (by simp; omega) (by
   rw [hus]; intro u hu; obtain ⟨n, _, rfl⟩ := List.mem_map.1 hu; rfl)
  rw [hul] at hrun
  refine ⟨_, hrun, ⟨rfl, rfl, rfl, by simp, fun k _ hk => setRow_other w g k _ (fun e => hk (by rw [e]))⟩, by simp, ?_⟩
  rw [setRow_heap w g _ _ _ _ hg, hus]
  rcases x with ⟨op, wd, fl, args, imm⟩
  simp only at *
  rcases args with _ | ⟨a0, _ | ⟨a1, _ | ⟨a2, _ | ⟨a3, l⟩⟩⟩⟩
  · rfl
  · rfl
  · rfl
  · rfl
  · simp at hlen
theorem look_found {w : World} {out : List T.Nd} {fm : Option Nat} {M : Nat → Prop} (hfm : (fm = none ∧ out = []) ∨ ∃ fb, fm = some fb ∧ M fb ∧ MapAt Tryz.prog 213 kyV IntE w fb (ents out)) {x : T.Nd} (hx : NWf x) (ho : ∀ y ∈ out, NWf y)
 (w' : World) (hw : ∀ fb, fm = some fb → w'.heap[fb]? = w.heap[fb]?) :
 (Instr.lookup 146 (.map fm) (kyV (kyOf x)) true).run Tryz.prog w' = .ok (.tuple #[.int .i64 (if x ∈ out then ((out.idxOf x : Nat) : Int) else 0), .bool (decide (x ∈ out))]) w' := by
 obtain ⟨kl, hkl⟩ := keyOf_ky hx.ky
 have hz : ∀ w, (zeroValue 3).run Tryz.prog w = .ok (.int .i64 0) w := fun w => by go_simp
 rcases hfm with ⟨rfl, rfl⟩ | ⟨fb, rfl, _, hM⟩
 · have hf : (Instr.findKey 213 (kyV (kyOf x)) []).run Tryz.prog w' = .ok none w' := by
    rcases keyKeyed.find w' hkl [] (fun e he => by simp at he) with ⟨h1, _⟩ | ⟨j, e, _, h2, _⟩
    · exact h1
    · simp at h2
   have hc := keyKeyed.check w' true hkl
   simp [Instr.lookup, run_underlying Tryz.underlying146, hc, hz, Result.andThen, hf]
 · obtain ⟨u, _, h2, h3⟩ := (hM.keep (R' := IntE) (hw fb rfl) (fun _ _ _ h => h)).lookup keyKeyed kyV_inj Tryz.underlying146 (hz w') hkl
   rw [ents_get hx ho] at h2 h3
   rw [h2]
   by_cases hm : x ∈ out
   · rw [if_pos hm] at h2 h3 ⊢
     rcases h3 with ⟨h3, _⟩ | ⟨a, h3, h4⟩
     · cases h3
     · cases h3
       rw [show u = _ from h4]
       simp [hm]
   · rw [if_neg hm] at h2 h3 ⊢
     rcases h3 with ⟨_, h3⟩ | ⟨a, h3, h4⟩
     · rw [h3]; simp [hm]
     · cases h3
theorem map_nil_equalIn (m : Option Nat) (w : World) (d : Nat) : (Op.equalIn (d + 1) 146 (Value.map m) (Value.map none)).run Tryz.prog w = .ok m.isNone w := by
 cases m <;> simp [Op.equalIn, run_underlying Tryz.underlying146]
theorem map_nil_eq (m : Option Nat) (w : World) : (binOp BinOp.eql 146 (Value.map m) (Value.map none)).run Tryz.prog w = .ok (.bool m.isNone) w := by
 have h := map_nil_equalIn m w 9999
 simp only [binOp]
 simp [Op.equal, show (Op.equalIn Op.maxDepth 146 (Value.map m) (Value.map none)).run Tryz.prog w = _ from h]
theorem run_makeMap_any {P : Program} {t k e : TypeId} (ht : P.underlying t = some (.map k e)) (w : World) : (Instr.makeMap t none).run P w = .ok (.map (some w.heap.size)) (w.alloc (.map #[] 0)) := by
 simp [Instr.makeMap]
structure AddSt (W : World) (bb : Nat) (out : List T.Nd) (M : Nat → Prop) (x : T.Nd) (A : Option Addr) (c : Nat) (Av : Option Addr) (cv fb : Nat) (w : World) : Prop where
 kp : Kpm M W w
 row : w.heap[bb]? = some (.cells #[.slice Av out.length cv, .map (some fb)] 148 (0, 0))
 map_ : MapAt Tryz.prog 213 kyV IntE w fb (ents out)
 fb : M fb ∨ W.heap.size ≤ fb
 own : OwnM M w (.slice Av out.length cv) out
 nd : w.heap[W.heap.size]? = some (.cells #[.int .i64 x.op, .int .i64 x.w, .int .i64 x.fl, .slice A x.args.length c, .int .u32 x.imm] 62 (0, 0))
 key : w.heap[W.heap.size + 1]? = some (.cells #[.int .i64 x.op, .int .i64 x.w, .int .i64 x.fl, .int .u32 x.imm, .int .i64 (kyOf x).a0, .int .i64 (kyOf x).a1, .int .i64 (kyOf x).a2] 213 (0, 0))
theorem key_cells {w : World} {g : Nat} {T : TypeId} {a0 a1 a2 a3 a4 a5 a6 : Value} (h : w.heap[g]? = some (.cells #[a0, a1, a2, a3, a4, a5, a6] T (0, 0))) :
 w.cell? ⟨g, 0, none⟩ = some a0 ∧ w.cell? ⟨g, 1, none⟩ = some a1 ∧ w.cell? ⟨g, 2, none⟩ = some a2 ∧ w.cell? ⟨g, 3, none⟩ = some a3 ∧ w.cell? ⟨g, 4, none⟩ = some a4 ∧ w.cell? ⟨g, 5, none⟩ = some a5 ∧ w.cell? ⟨g, 6, none⟩ = some a6 := by
 refine ⟨?_, ?_, ?_, ?_, ?_, ?_, ?_⟩
 all_goals rw [cell_of_row _ _ _ _ _ (0, 0) h]; rfl
theorem AddSt.drew {W : World} {bb : Nat} {out : List T.Nd} {M : Nat → Prop} {x : T.Nd} {A : Option Addr} {c : Nat} {Av : Option Addr} {cv fb : Nat} {w : World} (h : AddSt W bb out M x A c Av cv fb w) : AddSt W bb out M x A c Av cv fb w.drew :=
 ⟨h.kp.drew, h.row, h.map_.keep rfl (fun _ _ _ h => h), h.fb, h.own.same (fun _ _ => rfl), h.nd, h.key⟩
structure PutSt (W : World) (bb : Nat) (out : List T.Nd) (M : Nat → Prop) (x : T.Nd) (A : Option Addr) (c : Nat) (Av : Option Addr) (cv fb : Nat) (w : World) : Prop where
 kp : Kpm M W w
 row : w.heap[bb]? = some (.cells #[.slice Av out.length cv, .map (some fb)] 148 (0, 0))
 map_ : MapAt Tryz.prog 213 kyV IntE w fb (ents (out ++ [x]))
 fb : M fb ∨ W.heap.size ≤ fb
 own : OwnM M w (.slice Av out.length cv) out
 nd : w.heap[W.heap.size]? = some (.cells #[.int .i64 x.op, .int .i64 x.w, .int .i64 x.fl, .slice A x.args.length c, .int .u32 x.imm] 62 (0, 0))
theorem AddSt.put {W : World} {B bb : Nat} {out : List T.Nd} {M : Nat → Prop} {x : T.Nd} {A : Option Addr} {c : Nat} {Av : Option Addr} {cv fb : Nat} {w : World} (h : AddSt W bb out M x A c Av cv fb w) (hb : BuAt W B bb out M) (hx : NWf x) (hn : x ∉ out) :
 ∃ w', (Instr.mapUpdate 146 (.map (some fb)) (.agg #[.int .i64 x.op, .int .i64 x.w, .int .i64 x.fl, .int .u32 x.imm, .int .i64 (kyOf x).a0, .int .i64 (kyOf x).a1, .int .i64 (kyOf x).a2]) (.int .i64 (out.length : Int))).run Tryz.prog w = .ok () w' ∧ PutSt W bb out M x A c Av cv fb w' := by
 obtain ⟨kl, hkl⟩ := keyOf_ky hx.ky
 obtain ⟨w', h1, h2, h3, h4⟩ := h.map_.update keyKeyed kyV_inj Tryz.underlying146 hkl (.int .i64 (out.length : Int))
 have hmap : ∀ cur T fr, w.heap[fb]? ≠ some (.cells cur T fr) := by
  obtain ⟨es, clock, he, _⟩ := h.map_
  intro cur T fr hc
  rw [he] at hc
  cases hc
 have hlt : ∀ {g : Nat} {o : Obj}, w.heap[g]? = some o → g < w.heap.size := fun hg => (gA hg).1
 refine ⟨w', h1, ?_, ?_, ?_, h.fb, ?_, ?_⟩
 · refine ⟨h2.os.trans h.kp.os, h2.tape.trans h.kp.tape, h2.output.trans h.kp.output, Nat.le_trans h.kp.size h2.size, fun i hi hm => ?_⟩
   refine (h2.block i (Nat.lt_of_lt_of_le hi h.kp.size) (fun e => ?_)).trans (h.kp.block i hi hm)
   injection e with e
   rcases h.fb with hf | hf
   · exact hm (e ▸ hf)
   · omega
 · exact (h2.block bb (hlt h.row) (fun e => by cases e; exact hmap _ _ _ h.row)).trans h.row
 · have := h4 IntE (out.length : Int) (fun _ _ _ _ h => h) rfl
   rwa [ents_put hx hb.wf hn] at this
 · exact h.own.grown h2 fun g cur T fr e hc => by cases e; exact absurd hc (hmap _ _ _)
 · exact (h2.block _ (hlt h.nd) (fun e => by cases e; exact hmap _ _ _ h.nd)).trans h.nd
theorem PutSt.below {W : World} {bb : Nat} {out : List T.Nd} {M : Nat → Prop} {x : T.Nd} {A : Option Addr} {c : Nat} {Av : Option Addr} {cv fb : Nat} {w w' : World} (h : PutSt W bb out M x A c Av cv fb w) (hk : Below w.heap.size w w') : PutSt W bb out M x A c Av cv fb w' := by
 have hlt : ∀ {g : Nat} {o : Obj}, w.heap[g]? = some o → g < w.heap.size := fun hg => (gA hg).1
 refine ⟨h.kp.trans (Kpm.of_below hk (fun _ => False)) (fun _ _ h => h.elim), (hk.block _ (hlt h.row)).trans h.row, h.map_.keep (hk.block _ h.map_.lt) (fun _ _ _ h => h), h.fb, ?_, (hk.block _ (hlt h.nd)).trans h.nd⟩
 obtain ⟨cells, h1, h2, h3⟩ := h.own
 refine ⟨cells, h1.below hk h1.lt, fun k y hy => ?_, h3⟩
 obtain ⟨A', c', e1, e2, e3, e4, e5⟩ := h2 k y hy
 refine ⟨A', c', e1, e2.below (monoInt _) hk, e3, e4, fun hn b off hA => ?_⟩
 obtain ⟨hm, cur, fr, hc⟩ := e5 hn b off hA
 exact ⟨hm, cur, fr, (hk.block _ (hlt hc)).trans hc⟩
def NewM (W : World) (M : Nat → Prop) (A : Option Addr) (l : List Int) (w : World) (i : Nat) : Prop := M i ∨ (W.heap.size ≤ i ∧ i < w.heap.size) ∨ InA A l i
theorem PutSt.fin {W : World} {B bb : Nat} {out : List T.Nd} {M : Nat → Prop} {x : T.Nd} {A : Option Addr} {c : Nat} {Av : Option Addr} {cv fb : Nat} {w w7 : World} {cells : List Value} {v' : Value} (h : PutSt W bb out M x A c Av cv fb w) (hb : BuAt W B bb out M) (hB : B ≤ W.heap.size) (hA : ArgAt B M W A x.args) (hx : NWf x) (hn : x ∉ out)
 (h1 : OwnAt w 62 5 (.slice Av out.length cv) out.length cells) (h2 : ∀ (k : Nat) (x : T.Nd), out[k]? = some x → NdM M w ((cells.drop (k * 5)).take 5) x) (h3 : ∀ g, (Value.slice Av out.length cv).ownBlock = some g → M g)
 (hown : OwnAt w7 62 5 v' (out.length + 1) (cells ++ ndC x A c)) (hgr : w.grownBy w7 (Value.slice Av out.length cv).ownBlock) (hat : v'.ownBlock = (Value.slice Av out.length cv).ownBlock ∨ v'.ownBlock = some w.heap.size) :
 w7.heap[bb]? = some (.cells #[.slice Av out.length cv, .map (some fb)] 148 (0, 0)) ∧
 BuAt (w7.setCell ⟨bb, 0, none⟩ v') B bb (out ++ [x]) (NewM W M A x.args w7) ∧ Kpm M W (w7.setCell ⟨bb, 0, none⟩ v') := by
 have hlt : ∀ {g : Nat} {o : Obj}, w.heap[g]? = some o → g < w.heap.size := fun hg => (gA hg).1
 have hrow : ∀ g, (Value.slice Av out.length cv).ownBlock = some g → ∃ cur fr, w.heap[g]? = some (.cells cur 62 fr) := OwnM.row ⟨cells, h1, h2, h3⟩
 have hrb : w7.heap[bb]? = some (.cells #[.slice Av out.length cv, .map (some fb)] 148 (0, 0)) := by
  refine (hgr.block bb (hlt h.row) fun e => ?_).trans h.row
  obtain ⟨cur, fr, hc⟩ := hrow bb e.symm
  rw [h.row] at hc
  injection hc with hc
  injection hc with _ hc _
  exact absurd hc (by decide)
 have hkp : Kpm M W w7 := ⟨hgr.os.trans h.kp.os, hgr.tape.trans h.kp.tape, hgr.output.trans h.kp.output, Nat.le_trans h.kp.size hgr.size, fun i hi hm =>
  (hgr.block i (Nat.lt_of_lt_of_le hi h.kp.size) (fun e => hm (h3 i e.symm))).trans (h.kp.block i hi hm)⟩
 have hkp2 : Kpm M W (w7.setCell ⟨bb, 0, none⟩ v') := hkp.setCell (fun _ => hb.self) _
 refine ⟨hrb, ⟨?_, .inl hb.self, ?_, v', some fb, heap_setCell_same _ bb 0 _ _ v' hrb, ⟨cells ++ ndC x A c, ?_, ?_, ?_⟩, .inr ⟨fb, rfl, ?_, ?_⟩⟩, hkp2⟩
 · rintro i (hi | ⟨h1, h2⟩ | ⟨hne, off, rfl⟩)
   · have := hb.in_ i hi
     have := hkp2.size
     exact ⟨by omega, by omega⟩
   · exact ⟨by omega, by simpa using h2⟩
   · obtain ⟨hge, _, cur, fr, hc⟩ := hA.2 hne i off rfl
     have := (gA hc).1
     have := hkp2.size
     exact ⟨hge, by omega⟩
 · intro y hy
   rcases List.mem_append.1 hy with hy | hy
   · exact hb.wf y hy
   · simp at hy; subst hy; exact hx
 · have hl : (out ++ [x]).length = out.length + 1 := by simp
   rw [hl]
   refine hown.setCell (fun e => ?_) _
   rcases hat with e' | e'
   · rw [e'] at e
     obtain ⟨cur, fr, hc⟩ := hrow _ e
     rw [h.row] at hc
     injection hc with hc
     injection hc with _ hc _
     exact absurd hc (by decide)
   · rw [e'] at e
     injection e with e
     have := hlt h.row
     simp at e
     omega
 ·
   have keep : ∀ (us : List Value) (y : T.Nd), NdM M w us y → NdM (NewM W M A x.args w7) (w7.setCell ⟨bb, 0, none⟩ v') us y := by
    intro us y hy
    have g1 := hy.grown hgr (fun g cur fr e hc => by
     obtain ⟨cur', fr', hc'⟩ := hrow g e
     rw [hc] at hc'
     injection hc' with hc'
     injection hc' with _ hc' _
     exact absurd hc' (by decide))
    have g2 := g1.grown (w' := w7.setCell ⟨bb, 0, none⟩ v') (row := some bb) ⟨rfl, rfl, rfl, by simp, fun i _ hi => Below.heap_setCell _ _ _ i (fun e => hi (by rw [e]))⟩ (fun g cur fr e hc => by
     cases e
     rw [hrb] at hc
     injection hc with hc
     injection hc with _ hc _
     exact absurd hc (by decide))
    exact g2.weak fun i hi => .inl hi
   intro k y hy
   have hcl : cells.length = out.length * 5 := h1.1
   rcases Nat.lt_or_ge k out.length with hk | hk
   · rw [List.getElem?_append_left hk] at hy
     have e : ((cells ++ ndC x A c).drop (k * 5)).take 5 = (cells.drop (k * 5)).take 5 := by
      rw [List.drop_append_of_le_length (by omega), List.take_append_of_le_length (by rw [List.length_drop]; omega)]
     rw [e]
     exact keep _ y (h2 k y hy)
   · rw [List.getElem?_append_right hk] at hy
     have hk0 : k = out.length := by
      rcases Nat.eq_zero_or_pos (k - out.length) with e | e
      · omega
      · rw [List.getElem?_eq_none (by simp; omega)] at hy; cases hy
     subst hk0
     simp at hy
     subst hy
     have e : ((cells ++ ndC x A c).drop (out.length * 5)).take 5 = ndC x A c := by
      rw [← hcl, List.drop_left, List.take_of_length_le (by rw [ndC_len]; exact Nat.le_refl _)]
     rw [e]
     have hkA : SlAt (IntR .i64) (w7.setCell ⟨bb, 0, none⟩ v') A x.args.length x.args ∧ (x.args ≠ [] → ∀ b off, A = some ⟨b, off, none⟩ → ∃ cur fr, (w7.setCell ⟨bb, 0, none⟩ v').heap[b]? = some (.cells cur 3 fr)) := by
      refine ⟨hA.1.kpm hkp2 fun hne b off e => (hA.2 hne b off e).2.1, fun hne b off e => ?_⟩
      obtain ⟨_, hm, cur, fr, hc⟩ := hA.2 hne b off e
      exact ⟨cur, fr, (hkp2.block b (gA hc).1 hm).trans hc⟩
     exact ⟨A, c, rfl, hkA.1, hx.imm.1, hx.imm.2, fun hne b off hb => ⟨.inr (.inr ⟨hne, off, hb⟩), hkA.2 hne b off hb⟩⟩
 · intro g hg
   rcases hat with e' | e'
   · rw [e'] at hg
     exact .inl (h3 g hg)
   · rw [e'] at hg
     injection hg with hg
     subst hg
     refine .inr (.inl ⟨h.kp.size, ?_⟩)
     have := hown.lt _ e'
     exact this
 · rcases h.fb with hf | hf
   · exact .inl hf
   · have := h.map_.lt
     have := hgr.size
     exact .inr (.inl ⟨hf, by omega⟩)
 · obtain ⟨es, clock, he, _⟩ := h.map_
   have hne : fb ≠ bb := by
    rintro rfl
    rw [h.row] at he; cases he
   refine h.map_.keep ?_ (fun _ _ _ h => h)
   rw [heap_setCell_other _ _ _ _ hne]
   refine hgr.block fb h.map_.lt fun e => ?_
   obtain ⟨cur, fr, hc⟩ := hrow fb e.symm
   rw [he] at hc; cases hc
theorem nd5_cells {w : World} {g : Nat} {T : TypeId} {a0 a1 a2 a3 a4 : Value} (h : w.heap[g]? = some (.cells #[a0, a1, a2, a3, a4] T (0, 0))) :
 w.cell? ⟨g, 0, none⟩ = some a0 ∧ w.cell? ⟨g, 1, none⟩ = some a1 ∧ w.cell? ⟨g, 2, none⟩ = some a2 ∧ w.cell? ⟨g, 3, none⟩ = some a3 ∧ w.cell? ⟨g, 4, none⟩ = some a4 := by
 refine ⟨?_, ?_, ?_, ?_, ?_⟩
 all_goals rw [cell_of_row _ _ _ _ _ (0, 0) h]; rfl
def AddPost (W : World) (B bb : Nat) (out : List T.Nd) (M : Nat → Prop) (x : T.Nd) (A : Option Addr) (e : Ending) (W' : World) : Prop :=
 e = .returned (.int .i64 (T.addN out x).2) ∧ ∃ M', BuAt W' B bb (T.addN out x).1 M' ∧ Kpm M W W' ∧ (∀ i, M i → M' i) ∧ ∀ i, M' i → M i ∨ W.heap.size ≤ i ∨ InA A x.args i
theorem addPost_new {W W9 w7 : World} {B bb : Nat} {out : List T.Nd} {M : Nat → Prop} {x : T.Nd} {A : Option Addr} (hn : x ∉ out) (h : BuAt W9 B bb (out ++ [x]) (NewM W M A x.args w7)) (hk : Kpm M W W9) : AddPost W B bb out M x A (.returned (.int .i64 (out.length : Int))) W9 := by
 have e : T.addN out x = (out ++ [x], (out.length : Int)) := by
  unfold T.addN
  rw [if_neg hn, List.idxOf_eq_length hn]
 unfold AddPost
 rw [e]
 refine ⟨rfl, _, h, hk, fun i hi => .inl hi, ?_⟩
 rintro i (hi | ⟨hi, _⟩ | hi)
 · exact .inl hi
 · exact .inr (.inl hi)
 · exact .inr (.inr hi)
theorem gadd_any (B bb : Nat) (out : List T.Nd) (M : Nat → Prop) (x : T.Nd) (A : Option Addr) (c : Nat) (W : World) (hb : BuAt W B bb out M) (hB : B ≤ W.heap.size) (hA : ArgAt B M W A x.args) (hx : NWf x) (hn : out.length ≤ 900000) :
 Calls Tryz.prog 94 #[.pointer (some ⟨bb, 0, none⟩), ndV x A c] W (AddPost W B bb out M x A) := by
 obtain ⟨v, fm, hrow, hown, hfm⟩ := hb.cells
 obtain ⟨Av, cv, rfl⟩ := hown.form
 obtain ⟨W2, hW2⟩ : ∃ W2, W2 = (W.alloc (.cells #[.int .i64 x.op, .int .i64 x.w, .int .i64 x.fl, .slice A x.args.length c, .int .u32 x.imm] 62)).alloc (.cells #[.int .i64 x.op, .int .i64 x.w, .int .i64 x.fl, .int .u32 x.imm, .int .i64 (-1), .int .i64 (-1), .int .i64 (-1)] 213) := ⟨_, rfl⟩
 have hb2 : Below W.heap.size W W2 := by rw [hW2]; exact (al0).alloc (by simp) _
 have hr0 : W2.heap[W.heap.size]? = some (.cells #[.int .i64 x.op, .int .i64 x.w, .int .i64 x.fl, .slice A x.args.length c, .int .u32 x.imm] 62 (0, 0)) := by rw [hW2]; exact row_alloc (heap_alloc_new W _) _
 have hr1 : W2.heap[W.heap.size + 1]? = some (.cells #[.int .i64 x.op, .int .i64 x.w, .int .i64 x.fl, .int .u32 x.imm, .int .i64 (-1), .int .i64 (-1), .int .i64 (-1)] 213 (0, 0)) := by rw [hW2]; exact new_two W _ _
 have hs2 : W2.heap.size = W.heap.size + 2 := by rw [hW2]; simp
 have Hb := kH hb
 have HB := kH hB
 have HA := kH hA
 have Hx := kH hx
 have Hrow := kH hrow
 have Hown := kH hown
 have Hb2 := kH hb2
 have Hr0 := kH hr0
 have Hr1 := kH hr1
 have hc3 : W2.cell? ⟨W.heap.size, 3, none⟩ = some (.slice A x.args.length c) := by rw [cell_of_row _ _ _ _ _ (0, 0) hr0]; rfl
 unfold ndV
 clear hb hB hA hx hrow hown hb2 hr0 hr1
 go_enter Tryz.func94, Tryz.ntmps94
 go_wp2_with fail
 rw [← hW2]
 clear hW2
 obtain ⟨w3, hcopy, hgr, hsz, hkrow⟩ := copy_args Hx.out (c := c) (HA.out.1.below (monoInt _) (Hb2.out.drew)) (show W2.drew.heap[_]? = _ from Hr1.out) 3
 have Hgr := kH hgr
 have Hsz := kH hsz
 have Hkrow := kH hkrow
 clear hgr hsz hkrow
 go_region
 clear hcopy hc3
 have hfound := look_found hfm Hx.out Hb.out.wf
 have Hfm := kH hfm
 clear hfm
 have hb3 : Below W.heap.size W w3 := (Hb2.out.drew).grown Hgr.out Hb2.out.size (fun g hg => by cases hg; omega)
 have Hb3 := kH hb3
 have Hgrb := kH (show Below (W.heap.size + 1) W2 w3 from ((Below.refl _ _).drew).grown Hgr.out (by show W.heap.size + 1 ≤ W2.heap.size; omega) (fun g hg => by cases hg; exact Nat.le_refl _))
 have Hr0b := kH (show w3.heap[W.heap.size]? = _ from (Hgrb.out.block W.heap.size (by omega)).trans Hr0.out)
 have Hs3 := kH (show w3.heap.size = W.heap.size + 2 from by rw [Hsz.out]; exact hs2)
 have hbs : bb < W.heap.size := (Hb.out.in_ bb Hb.out.self).2
 have hrow3 : w3.heap[bb]? = _ := (hb3.block bb hbs).trans Hrow.out
 have k0 : w3.cell? ⟨bb, 0, none⟩ = some (.slice Av out.length cv) := by rw [cell_of_row _ _ _ _ _ (0, 0) hrow3]; rfl
 have k1 : w3.cell? ⟨bb, 1, none⟩ = some (.map fm) := by rw [cell_of_row _ _ _ _ _ (0, 0) hrow3]; rfl
 have Hkey := kH (show ∀ X, Below w3.heap.size w3 X → X.cell? ⟨W.heap.size + 1, 0, none⟩ = some (.int .i64 x.op) ∧ X.cell? ⟨W.heap.size + 1, 1, none⟩ = some (.int .i64 x.w) ∧ X.cell? ⟨W.heap.size + 1, 2, none⟩ = some (.int .i64 x.fl) ∧ X.cell? ⟨W.heap.size + 1, 3, none⟩ = some (.int .u32 x.imm) ∧ X.cell? ⟨W.heap.size + 1, 4, none⟩ = some (.int .i64 (kyOf x).a0) ∧ X.cell? ⟨W.heap.size + 1, 5, none⟩ = some (.int .i64 (kyOf x).a1) ∧ X.cell? ⟨W.heap.size + 1, 6, none⟩ = some (.int .i64 (kyOf x).a2) from fun X hX => by
  have hr := row_step (kH hX) Hkrow.out
  refine ⟨?_, ?_, ?_, ?_, ?_, ?_, ?_⟩
  all_goals rw [cell_of_row _ _ _ _ _ (0, 0) hr]; rfl)
 obtain ⟨y0, y1, y2, y3, y4, y5, y6⟩ := Hkey.out w3 (Below.refl _ _)
 clear hrow3 hb3
 go_wp2
 obtain ⟨ov⟩ := ov_ex w3
 have k1o := ov.cell k1
 have z0 := ov.cell y0
 have z1 := ov.cell y1
 have z2 := ov.cell y2
 have z3 := ov.cell y3
 have z4 := ov.cell y4
 have z5 := ov.cell y5
 have z6 := ov.cell y6
 have hlk : ∀ u, (Instr.lookup 146 (.map fm) (.agg #[.int .i64 x.op, .int .i64 x.w, .int .i64 x.fl, .int .u32 x.imm, .int .i64 (kyOf x).a0, .int .i64 (kyOf x).a1, .int .i64 (kyOf x).a2]) true).run Tryz.prog (ov.f u) = _ := fun u => hfound (ov.f u) (fun fb e => by
  have hlt : fb < W.heap.size := by
   rcases Hfm.out with ⟨e', _⟩ | ⟨fb', e', hm, _⟩
   · rw [e'] at e; cases e
   · rw [e'] at e; cases e; exact (Hb.out.in_ fb hm).2
  exact ((ov.below u).block fb (by have := Hb3.out.size; omega)).trans (Hb3.out.block fb hlt))
 clear hfound k1 y0 y1 y2 y3 y4 y5 y6
 obtain ⟨fnd, hfnd⟩ : ∃ b, decide (x ∈ out) = b := ⟨_, rfl⟩
 obtain ⟨ix, hix⟩ : ∃ i : Int, (if x ∈ out then ((out.idxOf x : Nat) : Int) else 0) = i := ⟨_, rfl⟩
 rw [hfnd, hix] at hlk
 have Hfnd := kH hfnd
 have Hix := kH hix
 clear hfnd hix
 refine wp_region_ovq ov (by kernel_rfl) (by kernel_rfl) ?_
 repeat (go_big_quiet_step (fail))
 refine wpQuiet_nil ?_
 rintro _ ⟨u, rfl⟩
 have Hbo := kH (ov.below u)
 clear hlk k1o z0 z1 z2 z3 z4 z5 z6
 generalize ov.f u = w4 at *
 have Hb4 := kH (Hb3.out.trans (Hbo.out.mono Hb3.out.size))
 cases fnd
 · have hnm : x ∉ out := of_decide_eq_false Hfnd.out
   have Hnm := kH hnm
   clear hnm Hfnd Hix
   have hrow4 : w4.heap[bb]? = some (.cells #[.slice Av out.length cv, .map fm] 148 (0, 0)) := (Hb4.out.block bb hbs).trans Hrow.out
   have Hrow4 := kH hrow4
   have q0 := map_nil_eq fm w4
   rcases Hfm.out with ⟨e1, e2⟩ | ⟨fb, e1, hmfb, hM⟩
   · subst e1
     have he : ents out = [] := by rw [e2]; rfl
     have ma : (w4.alloc (.map #[] 0)).cell? ⟨bb, 1, none⟩ = some (.map none) := by rw [cell_of_row _ _ _ _ _ (0, 0) (row_alloc hrow4 _)]; rfl
     have mb : (w4.alloc (.map #[] 0)).frozen? ⟨bb, 1, none⟩ = false := frozen_row (row_alloc hrow4 _) _
     have m1 : w4.cell? ⟨bb, 1, none⟩ = some (.map none) := by rw [cell_of_row _ _ _ _ _ (0, 0) hrow4]; rfl
     have m2 : w4.frozen? ⟨bb, 1, none⟩ = false := frozen_row hrow4 _
     have q1 : (none : Option Nat).isNone = true := rfl
     rw [q1] at q0
     have hmk := fun W => run_makeMap_any (P := Tryz.prog) Tryz.underlying146 W
     have hS : ∃ fb, AddSt W bb out M x A c Av cv fb ((w4.alloc (.map #[] 0)).setCell ⟨bb, 1, none⟩ (.map (some w4.heap.size))) := by
      have hsz4 := Hb4.out.size
      have hsz2 := Hs3.out
      have hlt : bb < w4.heap.size := by omega
      refine ⟨w4.heap.size, ((Kpm.of_below Hb4.out M).alloc _).setCell (p := ⟨bb, 1, none⟩) (fun _ => Hb.out.self) _, ?_, ?_, .inr hsz4, ?_, ?_, ?_⟩
      · exact heap_setCell_same _ bb 1 _ _ (.map (some w4.heap.size)) (row_alloc hrow4 (.map #[] 0))
      · rw [he]
        refine (MapAt.made (R := IntE) w4).keep ?_ (fun _ _ _ h => h)
        exact heap_setCell_other _ _ _ _ (by simp; omega)
      · refine OwnM.grown (row := some bb) (w := w4.alloc (.map #[] 0)) ?_ ?_ ?_
        · exact Hown.out.same fun i hi => (Below.heap_alloc w4 _ i (by have := (Hb.out.in_ i hi).2; omega)).trans (Hb4.out.block i (Hb.out.in_ i hi).2)
        · exact ⟨rfl, rfl, rfl, by simp, fun i _ hi => Below.heap_setCell _ _ _ i (fun e => hi (by rw [e]))⟩
        · intro g cur T fr e hc
          cases e
          rw [row_alloc hrow4 (.map #[] 0)] at hc
          cases hc
          decide
      · refine (heap_setCell_other _ _ _ _ (by simp; omega)).trans (row_alloc (row_step Hbo Hr0b.out) _)
      · exact (heap_setCell_other _ _ _ _ (by simp; omega)).trans (row_alloc (row_step Hbo Hkrow.out) _)
     clear hrow4 k0 q1
     go_wp2
     obtain ⟨fb, hS⟩ := hS
     have HS := kH hS
     clear hS q0 m1 ma mb m2 e2 he
     generalize ((w4.alloc (.map #[] 0)).setCell ⟨bb, 1, none⟩ (.map (some w4.heap.size))) = w5 at *
     have hr5 := HS.out.row
     have k0 : w5.cell? ⟨bb, 0, none⟩ = some (.slice Av out.length cv) := by rw [cell_of_row _ _ _ _ _ (0, 0) hr5]; rfl
     have k1 : w5.cell? ⟨bb, 1, none⟩ = some (.map (some fb)) := by rw [cell_of_row _ _ _ _ _ (0, 0) hr5]; rfl
     obtain ⟨y0, y1, y2, y3, y4, y5, y6⟩ := key_cells HS.out.key
     obtain ⟨w6, hupd, h6⟩ := AddSt.put (HS.out.drew) Hb.out Hx.out Hnm.out
     have H6 := kH h6
     clear h6 hr5
     go_region
     clear hupd k0 k1 y0 y1 y2 y3 y4 y5 y6
     have hr6 := H6.out.row
     have k0 : w6.cell? ⟨bb, 0, none⟩ = some (.slice Av out.length cv) := by rw [cell_of_row _ _ _ _ _ (0, 0) hr6]; rfl
     have kf : w6.frozen? ⟨bb, 0, none⟩ = false := frozen_row hr6 _
     go_wp2
     clear k0
     obtain ⟨cells, hc1, hc2, hc3⟩ := H6.out.own
     have HW := kH (show Below w6.heap.size w6 ((w6.alloc (.cells (ndC x A c).toArray 62)).drew) from (al0).drew)
     obtain ⟨n0, n1, n2, n3, n4⟩ := nd5_cells H6.out.nd
     have Hc1 := kH hc1
     have Hc2 := kH hc2
     have Hc3 := kH hc3
     clear hc1 hc2 hc3 hr6
     have k0 : w6.cell? ⟨bb, 0, none⟩ = some (.slice Av out.length cv) := by rw [cell_of_row _ _ _ _ _ (0, 0) H6.out.row]; rfl
     have k0' : (w6.alloc (.cells #[.int .i64 x.op, .int .i64 x.w, .int .i64 x.fl, .slice A x.args.length c, .int .u32 x.imm] 62)).cell? ⟨bb, 0, none⟩ = some (.slice Av out.length cv) := by rw [cell_of_row _ _ _ _ _ (0, 0) (row_alloc H6.out.row _)]; rfl
     have hn1 : out.length + 1 ≤ 1000000000 := by omega
     go_region_law (first
      | (refine step_append_src _ rfl (.tmp 57) (.tmp 59) 22 rfl 62 (.agg #[.int .i64 0, .int .i64 0, .int .i64 0, .slice none 0 0, .int .u32 0]) 5 56 Tryz.underlying22 infoNode rfl (by decide) (.slice Av out.length cv) out.length cells rfl (Hc1.out.same (fun g hg => HW.out.block g (Hc1.out.lt g hg))) (some ⟨w6.heap.size, 0, none⟩) 1 1 (ndC x A c) rfl rfl (src_new w6 (ndC x A c) 62) (ndC_one x A c) hn1 (by decide) ?_
         intro v' w7 hown7 hgr7 hat7
         obtain ⟨A7, c7, rfl⟩ := hown7.form
         have hfin := PutSt.fin (H6.out.below HW.out) Hb.out HB.out HA.out Hx.out Hnm.out (Hc1.out.same (fun g hg => HW.out.block g (Hc1.out.lt g hg))) (fun k y hy => (Hc2.out k y hy).below HW.out) Hc3.out hown7 hgr7 hat7
         have kc := cell_of_row w7 bb 0 _ _ (0, 0) hfin.1
         have kfr := frozen_row hfin.1 0
         have Hfin := kH hfin
         clear hfin hown7 hgr7 hat7
         simp only [List.getElem?_toArray, List.getElem?_cons_zero] at kc))
     all_goals
      clear k0 k0' n0 n1 n2 n3 n4 kc kfr kf
      have hlen1 : (out.length : Int) + 1 - 1 = (out.length : Int) := by omega
      obtain ⟨W9, hW9⟩ : ∃ W9, W9 = w7.setCell ⟨bb, 0, none⟩ (.slice A7 (out.length + 1) c7) := ⟨_, rfl⟩
      rw [← hW9]
      have k9 : W9.cell? ⟨bb, 0, none⟩ = some (.slice A7 (out.length + 1) c7) := by rw [hW9, cell_of_row _ _ _ _ _ (0, 0) (heap_setCell_same _ bb 0 _ _ _ Hfin.out.1)]; rfl
      have HF := kH (show BuAt W9 B bb (out ++ [x]) (NewM W M A x.args w7) ∧ Kpm M W W9 from by rw [hW9]; exact Hfin.out.2)
      clear hW9 Hfin
      go_wp2
      go_ret
      exact addPost_new Hnm.out HF.out.1 HF.out.2
   · subst e1
     have m1 : w4.cell? ⟨bb, 1, none⟩ = some (.map (some fb)) := by rw [cell_of_row _ _ _ _ _ (0, 0) hrow4]; rfl
     have q1 : (some fb).isNone = false := rfl
     rw [q1] at q0
     have hS : AddSt W bb out M x A c Av cv fb w4 := by
      refine ⟨Kpm.of_below Hb4.out M, hrow4, hM.keep (Hb4.out.block fb (Hb.out.in_ fb hmfb).2) (fun _ _ _ h => h), .inl hmfb, ?_, ?_, ?_⟩
      · exact Hown.out.same fun i hi => Hb4.out.block i (Hb.out.in_ i hi).2
      · exact row_step Hbo Hr0b.out
      · exact row_step Hbo Hkrow.out
     have HS := kH hS
     clear hS hrow4 k0 q1 hM
     go_wp2
     clear q0 m1
     generalize w4 = w5 at *
     have hr5 := HS.out.row
     have k0 : w5.cell? ⟨bb, 0, none⟩ = some (.slice Av out.length cv) := by rw [cell_of_row _ _ _ _ _ (0, 0) hr5]; rfl
     have k1 : w5.cell? ⟨bb, 1, none⟩ = some (.map (some fb)) := by rw [cell_of_row _ _ _ _ _ (0, 0) hr5]; rfl
     obtain ⟨y0, y1, y2, y3, y4, y5, y6⟩ := key_cells HS.out.key
     obtain ⟨w6, hupd, h6⟩ := AddSt.put (HS.out.drew) Hb.out Hx.out Hnm.out
     have H6 := kH h6
     clear h6 hr5
     go_region
     clear hupd k0 k1 y0 y1 y2 y3 y4 y5 y6
     have hr6 := H6.out.row
     have k0 : w6.cell? ⟨bb, 0, none⟩ = some (.slice Av out.length cv) := by rw [cell_of_row _ _ _ _ _ (0, 0) hr6]; rfl
     have kf : w6.frozen? ⟨bb, 0, none⟩ = false := frozen_row hr6 _
     go_wp2
     clear k0
     obtain ⟨cells, hc1, hc2, hc3⟩ := H6.out.own
     have HW := kH (show Below w6.heap.size w6 ((w6.alloc (.cells (ndC x A c).toArray 62)).drew) from (al0).drew)
     obtain ⟨n0, n1, n2, n3, n4⟩ := nd5_cells H6.out.nd
     have Hc1 := kH hc1
     have Hc2 := kH hc2
     have Hc3 := kH hc3
     clear hc1 hc2 hc3 hr6
     have k0 : w6.cell? ⟨bb, 0, none⟩ = some (.slice Av out.length cv) := by rw [cell_of_row _ _ _ _ _ (0, 0) H6.out.row]; rfl
     have k0' : (w6.alloc (.cells #[.int .i64 x.op, .int .i64 x.w, .int .i64 x.fl, .slice A x.args.length c, .int .u32 x.imm] 62)).cell? ⟨bb, 0, none⟩ = some (.slice Av out.length cv) := by rw [cell_of_row _ _ _ _ _ (0, 0) (row_alloc H6.out.row _)]; rfl
     have hn1 : out.length + 1 ≤ 1000000000 := by omega
     go_region_law (first
      | (refine step_append_src _ rfl (.tmp 57) (.tmp 59) 22 rfl 62 (.agg #[.int .i64 0, .int .i64 0, .int .i64 0, .slice none 0 0, .int .u32 0]) 5 56 Tryz.underlying22 infoNode rfl (by decide) (.slice Av out.length cv) out.length cells rfl (Hc1.out.same (fun g hg => HW.out.block g (Hc1.out.lt g hg))) (some ⟨w6.heap.size, 0, none⟩) 1 1 (ndC x A c) rfl rfl (src_new w6 (ndC x A c) 62) (ndC_one x A c) hn1 (by decide) ?_
         intro v' w7 hown7 hgr7 hat7
         obtain ⟨A7, c7, rfl⟩ := hown7.form
         have hfin := PutSt.fin (H6.out.below HW.out) Hb.out HB.out HA.out Hx.out Hnm.out (Hc1.out.same (fun g hg => HW.out.block g (Hc1.out.lt g hg))) (fun k y hy => (Hc2.out k y hy).below HW.out) Hc3.out hown7 hgr7 hat7
         have kc := cell_of_row w7 bb 0 _ _ (0, 0) hfin.1
         have kfr := frozen_row hfin.1 0
         have Hfin := kH hfin
         clear hfin hown7 hgr7 hat7
         simp only [List.getElem?_toArray, List.getElem?_cons_zero] at kc))
     all_goals
      clear k0 k0' n0 n1 n2 n3 n4 kc kfr kf
      have hlen1 : (out.length : Int) + 1 - 1 = (out.length : Int) := by omega
      obtain ⟨W9, hW9⟩ : ∃ W9, W9 = w7.setCell ⟨bb, 0, none⟩ (.slice A7 (out.length + 1) c7) := ⟨_, rfl⟩
      rw [← hW9]
      have k9 : W9.cell? ⟨bb, 0, none⟩ = some (.slice A7 (out.length + 1) c7) := by rw [hW9, cell_of_row _ _ _ _ _ (0, 0) (heap_setCell_same _ bb 0 _ _ _ Hfin.out.1)]; rfl
      have HF := kH (show BuAt W9 B bb (out ++ [x]) (NewM W M A x.args w7) ∧ Kpm M W W9 from by rw [hW9]; exact Hfin.out.2)
      clear hW9 Hfin
      go_wp2
      go_ret
      exact addPost_new Hnm.out HF.out.1 HF.out.2
 · have hm : x ∈ out := of_decide_eq_true Hfnd.out
   have He := kH (show T.addN out x = (out, ix) from by unfold T.addN; rw [if_pos hm, ← Hix.out, if_pos hm])
   clear hm k0
   go_wp2
   go_ret
   refine ⟨ret_int (by rw [He.out]), M, ?_, Kpm.of_below Hb4.out M, fun i h => h, fun i h => .inl h⟩
   rw [He.out]
   exact Hb.out.below Hb4.out
end
end Go.Proofs.YtbiopedpceddeaaGreatDoor
