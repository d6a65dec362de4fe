/- Part. -/
import Derived.Test.YtbiopedpceddeaaGreatDoorQz23
set_option linter.unusedVariables false
set_option linter.unusedSimpArgs false
set_option maxRecDepth 100000
set_option maxHeartbeats 16000000
namespace Go.Proofs.YtbiopedpceddeaaGreatDoor
section
open Go.RowKit
namespace Gro
open Rg
section
variable {P : Program} {ops : Array Oper} {md : Region.Mode}
def vg (al : Nat → Bool) (vs g : Nat → Value) (k : Nat) : Value := if al k then g k else vs k
structure FineG (md : Region.Mode) (ops : Array Oper) (al : Nat → Bool) : Prop where
 sel : ∀ (j : Nat) (o : Oper) cs b, ops[j]? = some o → o.op ≠ .select cs b
 apart : ∀ (i j : Nat) (t : Tmp), i < ops.size → j < ops.size → i ≠ j → dst ops i = some t → dst ops j ≠ some t
 dep : ∀ (i : Nat) (o : Oper) (t : Tmp) (k : Nat), ops[i]? = some o → t ∈ o.looksAt ops → dst ops k = some t → (al i = false → al k = false) ∧ ∃ e ∈ o.after, Region.binds md e = true ∧ e.on = k
 lex : ∀ (i : Nat) (o : Oper) (e : Edge), ops[i]? = some o → e ∈ o.after → Region.binds md e = true → e.on < i
def Edg (md : Region.Mode) (o : Oper) (k : Nat) : Prop := ∃ e ∈ o.after, Region.binds md e = true ∧ e.on = k
structure InvG (bl : Value → Option Nat) (rt : Nat → Nat) (us : Nat → Option Nat) (Φ : Nat → Value → World → Prop) (md : Region.Mode) (ops : Array Oper) (al : Nat → Bool) (W : World) (vs : Nat → Value) (a : Act) (listed : Array Bool) (g : Nat → Value) (act : Act) (w : World) : Prop where
 size : listed.size = ops.size
 act : act = cp ops (vg al vs g) a (fun k => listed.getD k false) ops.size
 below : Below W.heap.size W w
 fact : ∀ k, k < ops.size → al k = true → listed.getD k false = true → (∀ j, us j = some k → listed.getD j false = false) → Φ k (g k) w
 lt : ∀ k, k < ops.size → al k = true → listed.getD k false = true → ∀ r, bl (g k) = some r → W.heap.size ≤ r ∧ r < w.heap.size
 ne : ∀ k k', k < ops.size → k' < ops.size → al k = true → al k' = true → listed.getD k false = true → listed.getD k' false = true → rt k ≠ rt k' → ∀ r, bl (g k) = some r → bl (g k') ≠ some r
def Makes (P : Program) (bl : Value → Option Nat) (rt : Nat → Nat) (us : Nat → Option Nat) (Φ : Nat → Value → World → Prop) (md : Region.Mode) (ops : Array Oper) (al : Nat → Bool) (W : World) (vs : Nat → Value) (a : Act) (i : Nat) (o : Oper) : Prop :=
 ∀ (X : World) (act : Act) (u : Nat → Value), Below W.heap.size W X → (∀ k, Edg md o k → al k = true → Φ k (u k) X ∧ ∀ r, bl (u k) = some r → W.heap.size ≤ r ∧ r < X.heap.size) →
  (∀ t k, t ∈ o.looksAt ops → dst ops k = some t → t < a.tmps.size → act.eval (.tmp t) = vg al vs u k) →
  ∀ K : Act → World → Prop, (∀ v X', X.grownBy X' ((us i).bind fun b => bl (u b)) → Φ i v X' → (∀ r, bl v = some r → r < X'.heap.size ∧ (X.heap.size ≤ r ∨ ∃ k, Edg md o k ∧ al k = true ∧ rt k = rt i ∧ bl (u k) = some r)) → K (act.put o.dst v) X') → wpOp P ops (onlyK K) i K act X
theorem cp_vals {vs vs' : Nat → Value} (a : Act) (c : Nat → Bool) (m : Nat) (h : ∀ k, k < m → c k = true → vs k = vs' k) : cp ops vs a c m = cp ops vs' a c m := by
 induction m with
 | zero => rfl
 | succ m ih =>
  simp only [cp, ih fun k hk => h k (by omega)]
  split
  · rename_i hc; rw [h m (by omega) hc]
  · rfl
theorem some_readyG {al : Nat → Bool} (hf : FineG md ops al) {listed : Array Bool} (hs : listed.size = ops.size) (m : Nat) (hm : m ≤ ops.size) (h : ∃ k, k < m ∧ listed.getD k true = false) : ∃ i, i ∈ Region.ready md ops listed := by
 induction m with
 | zero => obtain ⟨k, hk, _⟩ := h; omega
 | succ m ih =>
  by_cases h' : ∃ k, k < m ∧ listed.getD k true = false
  · exact ih (by omega) h'
  · obtain ⟨k, hk, hl⟩ := h
    have e : k = m := by
     rcases Nat.lt_or_ge k m with h1 | h1
     · exact absurd ⟨k, h1, hl⟩ h'
     · omega
    subst e
    have hks : k < ops.size := by omega
    refine ⟨k, mem_ready.2 ⟨hl, ops[k], Array.getElem?_eq_getElem hks, fun e he hb => ?_⟩⟩
    have hlt := hf.lex k _ e (Array.getElem?_eq_getElem hks) he hb
    have : ¬ listed.getD e.on true = false := fun h1 => h' ⟨e.on, hlt, h1⟩
    rw [two_getD (by omega) false true]
    simpa using this
theorem any_gro {bl : Value → Option Nat} {rt : Nat → Nat} {us : Nat → Option Nat} {Φ : Nat → Value → World → Prop} {al : Nat → Bool} (hf : FineG md ops al) {W : World} {vs : Nat → Value} {a : Act} {K : Act → World → Prop}
 (hq : ∀ i, i < ops.size → al i = false → ∃ o, ops[i]? = some o ∧ ∀ X, Below W.heap.size W X → YieldsIn P ops (fun Y => Below X.heap.size X Y) o (vs i) (cp ops vs a (fun k => !al k) i))
 (hst : ∀ k v X X' row, Φ k v X → X.grownBy X' row → (∀ r, bl v = some r → r < X.heap.size ∧ row ≠ some r) → Φ k v X')
 (hrt : ∀ i b k, us i = some b → rt k = rt i → k = i ∨ k = b)
 (hub : ∀ i b o, us i = some b → ops[i]? = some o → al b = true ∧ rt b = rt i ∧ Edg md o b)
 (huse : ∀ i o k j, ops[i]? = some o → al i = true → Edg md o k → us j = some k → j = i)
 (hm : ∀ i o, ops[i]? = some o → al i = true → Makes P bl rt us Φ md ops al W vs a i o)
 (hK : ∀ (g : Nat → Value) w, Below W.heap.size W w → (∀ k, k < ops.size → al k = true → (∀ j, us j ≠ some k) → Φ k (g k) w) → (∀ k, k < ops.size → al k = true → ∀ r, bl (g k) = some r → W.heap.size ≤ r ∧ r < w.heap.size) → (∀ k k', k < ops.size → k' < ops.size → al k = true → al k' = true → rt k ≠ rt k' → ∀ r, bl (g k) = some r → bl (g k') ≠ some r) → K (cp ops (vg al vs g) a (fun _ => true) ops.size) w) :
 ∀ (fuel : Nat) (listed : Array Bool) (g : Nat → Value) (act : Act) (w : World), unl listed ops.size ≤ fuel → InvG bl rt us Φ md ops al W vs a listed g act w → wpAny P md ops (onlyK K) fuel listed act w := by
 intro fuel
 have done : ∀ (listed : Array Bool) (g : Nat → Value) (act : Act) (w : World), unl listed ops.size = 0 → InvG bl rt us Φ md ops al W vs a listed g act w → onlyK K .normal act w := by
  intro listed g act w h0 I
  have hall := unl_zero h0
  have hall' : ∀ k, k < ops.size → listed.getD k false = true := fun k hk => by rw [two_getD (by rw [I.size]; omega) false true]; exact hall k hk
  show K act w
  rw [I.act, cp_congr (ops := ops) (vg al vs g) a (c' := fun _ => true) ops.size fun k hk => hall' k hk]
  exact hK g w I.below (fun k hk hak hu => I.fact k hk hak (hall' k hk) (fun j hj => absurd hj (hu j))) (fun k hk hak => I.lt k hk hak (hall' k hk)) (fun k k' hk hk' h1 h2 => I.ne k k' hk hk' h1 h2 (hall' k hk) (hall' k' hk'))
 have noReady : ∀ (listed : Array Bool) (g : Nat → Value) (act : Act) (w : World), InvG bl rt us Φ md ops al W vs a listed g act w → Region.ready md ops listed = [] → unl listed ops.size = 0 := by
  intro listed g act w I hr
  rcases Nat.eq_zero_or_pos (unl listed ops.size) with h | h
  · exact h
  · have hex : ∃ k, k < ops.size ∧ listed.getD k true = false := by
     apply Classical.byContradiction
     intro hno
     have : ∀ m, m ≤ ops.size → unl listed m = 0 := by
      intro m
      induction m with
      | zero => intro _; rfl
      | succ m ih =>
       intro hm
       simp only [unl, ih (by omega)]
       cases hl : listed.getD m true
       · exact absurd ⟨m, by omega, hl⟩ hno
       · simp
     have := this _ (Nat.le_refl _)
     omega
    obtain ⟨i, hi⟩ := some_readyG hf I.size ops.size (Nat.le_refl _) hex
    rw [hr] at hi
    cases hi
 induction fuel with
 | zero =>
  intro listed g act w hu I
  have h0 : unl listed ops.size = 0 := by omega
  refine ⟨?_, done listed g act w h0 I⟩
  have hall := unl_zero h0
  cases hr : Region.ready md ops listed with
  | nil => rfl
  | cons i r =>
   have hi : i ∈ Region.ready md ops listed := by rw [hr]; simp
   obtain ⟨h1, o, ho, _⟩ := mem_ready.1 hi
   rw [hall i (at_lt ho)] at h1
   cases h1
 | succ fuel ih =>
  intro listed g act w hu I
  refine ⟨fun hr => done listed g act w (noReady listed g act w I hr) I, fun i hi => ?_⟩
  obtain ⟨hun, o, ho, hedges⟩ := mem_ready.1 hi
  have hilt := at_lt ho
  have hun' : listed.getD i false = false := by rw [two_getD (by rw [I.size]; omega) false true]; exact hun
  have hcount := unl_set hun ops.size hilt
  have his : i < listed.size := by rw [I.size]; exact hilt
  have hset : (listed.setIfInBounds i true).getD i false = true := by simp [his]
  have hother : ∀ k, k ≠ i → (listed.setIfInBounds i true).getD k false = listed.getD k false := fun k hk => getD_set_ne false (fun e => hk e.symm)
  have hdi : dst ops i = o.dst := by simp [dst, ho]
  have hle : ∀ k, Edg md o k → k < i ∧ listed.getD k false = true := fun k ⟨e, he, hb, hon⟩ => ⟨by rw [← hon]; exact hf.lex i o e ho he hb, by rw [← hon]; exact hedges e he hb⟩
  cases hal : al i with
  | false =>
   obtain ⟨o2, ho2, hy⟩ := hq i hilt hal
   rw [ho] at ho2
   cases ho2
   have evs : ∀ t, t ∈ o.looksAt ops → act.eval (.tmp t) = (cp ops vs a (fun k => !al k) i).eval (.tmp t) := by
    intro t ht
    rw [I.act]
    by_cases hex : ∃ k, k < ops.size ∧ dst ops k = some t
    · obtain ⟨k, hk, hd⟩ := hex
      obtain ⟨hak, hed⟩ := hf.dep i o t k ho ht hd
      have hak := hak hal
      obtain ⟨hki, hkl⟩ := hle k hed
      rw [eval_hit (vg al vs g) a _ t k hd hkl ops.size hk fun j hj hjk => hf.apart k j t (dst_lt hd) (by omega) (fun e => hjk e.symm) hd,
       eval_hit vs a _ t k hd (by simp [hak]) i hki fun j hj hjk => hf.apart k j t (dst_lt hd) (by omega) (fun e => hjk e.symm) hd]
      unfold vg
      rw [hak]
      rfl
    · have hno : ∀ k, k < ops.size → dst ops k ≠ some t := fun k hk hd => hex ⟨k, hk, hd⟩
      rw [eval_none (vg al vs g) a _ t ops.size hno, eval_none vs a _ t i fun k hk => hno k (by omega)]
   obtain ⟨e1, e2⟩ := same_of_evals (hf.sel i o · · ho) evs
   have hy' := (hy w I.below).of_same e1 e2
   refine wpOp_of_qOp (C := fun Y => Below w.heap.size w Y) (K := fun a' => a' = act.put o.dst (vs i)) (Below.refl _ _) ?_ (hy'.qOp ho rfl)
   rintro a' w' hw' rfl
   have hgr : w.grownBy w' none := ⟨hw'.os, hw'.tape, hw'.output, hw'.size, fun k hk _ => hw'.block k hk⟩
   refine ih _ g _ _ (by omega) ⟨by simp [I.size], ?_, I.below.trans (hw'.mono I.below.size), fun k hk hak hkl hu => ?_, fun k hk hak hkl r hr => ?_, fun k k' hk hk' h1 h2 hl hl' hne => ?_⟩
   · have := cp_set (ops := ops) (vg al vs g) a (c := fun k => listed.getD k false) (c' := fun k => (listed.setIfInBounds i true).getD k false) i ops.size hilt hun' hset hother (fun k t hk hki hd => hf.apart k i t (dst_lt hd) hilt hki hd)
     rw [this, ← I.act, hdi]
     unfold vg
     rw [hal]
     rfl
   · have hki : k ≠ i := by rintro rfl; rw [hal] at hak; cases hak
     rw [hother k hki] at hkl
     refine hst k _ w w' none (I.fact k hk hak hkl fun j hj => ?_) hgr fun r hr => ⟨(I.lt k hk hak hkl r hr).2, by simp⟩
     have hju := hu j hj
     by_cases hji : j = i
     · subst hji; rw [hset] at hju; cases hju
     · rwa [hother j hji] at hju
   · have hki : k ≠ i := by rintro rfl; rw [hal] at hak; cases hak
     rw [hother k hki] at hkl
     have := I.lt k hk hak hkl r hr
     have := hw'.size
     omega
   · have hki : k ≠ i := by rintro rfl; rw [hal] at h1; cases h1
     have hki' : k' ≠ i := by rintro rfl; rw [hal] at h2; cases h2
     rw [hother k hki] at hl
     rw [hother k' hki'] at hl'
     exact I.ne k k' hk hk' h1 h2 hl hl' hne
  | true =>
   refine wpOp_out (hm i o ho hal w act g I.below (fun k hed hak => ?_) (fun t k ht hd hts => ?_) _ (fun v X' hgr hΦ hbl => ?_))
   · obtain ⟨hki, hkl⟩ := hle k hed
     refine ⟨I.fact k (by omega) hak hkl fun j hj => ?_, I.lt k (by omega) hak hkl⟩
     rw [huse i o k j ho hal hed hj]
     exact hun'
   · obtain ⟨_, hed⟩ := hf.dep i o t k ho ht hd
     obtain ⟨hki, hkl⟩ := hle k hed
     rw [I.act, eval_hit (vg al vs g) a _ t k hd hkl ops.size (by omega) fun j hj hjk => hf.apart k j t (dst_lt hd) (by omega) (fun e => hjk e.symm) hd, if_pos hts]
   · have hrow : ∀ r, ((us i).bind fun b => bl (g b)) = some r → ∃ b, us i = some b ∧ bl (g b) = some r ∧ al b = true ∧ rt b = rt i ∧ b < ops.size ∧ listed.getD b false = true := fun r hr => by
      cases hu : us i with
      | none => rw [hu] at hr; cases hr
      | some b =>
       rw [hu] at hr
       obtain ⟨h1, h2, h3⟩ := hub i b o hu ho
       obtain ⟨h4, h5⟩ := hle b h3
       exact ⟨b, rfl, hr, h1, h2, by omega, h5⟩
     have hold : ∀ k, k < ops.size → al k = true → listed.getD k false = true → ∀ r, bl (g k) = some r → r < w.heap.size := fun k hk hak hl r hr => (I.lt k hk hak hl r hr).2
     refine ih _ (fun k => if k = i then v else g k) _ _ (by omega) ⟨by simp [I.size], ?_, I.below.grown hgr I.below.size fun r hr => ?_, fun k hk hak hkl hu => ?_, fun k hk hak hkl r hr => ?_, fun k k' hk hk' h1 h2 hl hl' hne r hr => ?_⟩
     · have := cp_set (ops := ops) (vg al vs (fun k => if k = i then v else g k)) a (c := fun k => listed.getD k false) (c' := fun k => (listed.setIfInBounds i true).getD k false) i ops.size hilt hun' hset hother (fun k t hk hki hd => hf.apart k i t (dst_lt hd) hilt hki hd)
       rw [this, hdi, I.act]
       have e : cp ops (vg al vs g) a (fun k => listed.getD k false) ops.size = cp ops (vg al vs (fun k => if k = i then v else g k)) a (fun k => listed.getD k false) ops.size := by
        refine cp_vals a _ _ fun k hk hkl => ?_
        have hki : k ≠ i := by rintro rfl; rw [hun'] at hkl; cases hkl
        unfold vg
        simp only [if_neg hki]
       rw [e]
       congr 1
       unfold vg
       simp [hal]
     · obtain ⟨b, _, h2, h3, _, h5, h6⟩ := hrow r hr
       exact (I.lt b h5 h3 h6 r h2).1
     · by_cases hki : k = i
       · subst hki
         simp only [if_true]
         exact hΦ
       · simp only [if_neg hki]
         rw [hother k hki] at hkl
         have hui : us i ≠ some k := fun e => by have := hu i e; rw [hset] at this; cases this
         refine hst k _ w X' _ (I.fact k hk hak hkl fun j hj => ?_) hgr fun r hr => ⟨hold k hk hak hkl r hr, fun e => ?_⟩
         · have hju := hu j hj
           by_cases hji : j = i
           · subst hji; exact absurd hj hui
           · rwa [hother j hji] at hju
         · obtain ⟨b, b1, b2, b3, b4, b5, b6⟩ := hrow r e
           by_cases hrk : rt k = rt i
           · rcases hrt i b k b1 hrk with e | e
             · exact hki e
             · exact hui (by rw [b1, e])
           · exact I.ne k b hk b5 hak b3 hkl b6 (fun e => hrk (e.trans b4)) r hr b2
     · by_cases hki : k = i
       · subst hki
         simp only [if_true] at hr
         obtain ⟨h1, h2⟩ := hbl r hr
         refine ⟨?_, h1⟩
         rcases h2 with h2 | ⟨q, q1, q2, _, q4⟩
         · exact Nat.le_trans I.below.size h2
         · obtain ⟨q5, q6⟩ := hle q q1
           exact (I.lt q (by omega) q2 q6 r q4).1
       · simp only [if_neg hki] at hr
         rw [hother k hki] at hkl
         have := I.lt k hk hak hkl r hr
         have := hgr.size
         omega
     · have key : ∀ q, q < ops.size → q ≠ i → al q = true → listed.getD q false = true → rt q ≠ rt i → bl (g q) = some r → bl v = some r → False := fun q hq hqi hqa hql hqr hqb hv => by
        obtain ⟨_, h2⟩ := hbl r hv
        rcases h2 with h2 | ⟨m, m1, m2, m3, m4⟩
        · have := hold q hq hqa hql r hqb
          omega
        · obtain ⟨m5, m6⟩ := hle m m1
          exact I.ne q m hq (by omega) hqa m2 hql m6 (fun e => hqr (e.trans m3)) r hqb m4
       by_cases hki : k = i
       · have hki' : k' ≠ i := fun e => hne (by rw [hki, e])
         subst hki
         simp only [if_true] at hr
         simp only [if_neg hki']
         rw [hother k' hki'] at hl'
         exact fun hv => key k' hk' hki' h2 hl' (fun e => hne e.symm) hv hr
       · simp only [if_neg hki] at hr
         rw [hother k hki] at hl
         by_cases hki' : k' = i
         · subst hki'
           simp only [if_true]
           exact fun hv => key k hk hki h1 hl hne hr hv
         · simp only [if_neg hki']
           rw [hother k' hki'] at hl'
           exact I.ne k k' hk hk' h1 h2 hl hl' hne r hr
end
end Gro
end
section
open Go.RowKit
namespace Gro
open Rg
def qlist (al : Nat → Bool) : Nat → List Oper → List Oper
 | _, [] => []
 | k, o :: r => if al k then qlist al (k + 1) r else o :: qlist al (k + 1) r
section
variable {P : Program} {ops : Array Oper} {md : Region.Mode} {C : World → Prop}
def fld (ops : Array Oper) (al : Nat → Bool) (vs : Nat → Value) (k m : Nat) (a : Act) : Act := (List.range m).foldl (fun a i => if al (k + i) then a else a.put (dst ops (k + i)) (vs (k + i))) a
theorem fld_succ (al : Nat → Bool) (vs : Nat → Value) (k m : Nat) (a : Act) : fld ops al vs k (m + 1) a = fld ops al vs (k + 1) m (if al k then a else a.put (dst ops k) (vs k)) := by
 unfold fld
 rw [List.range_succ_eq_map, List.foldl_cons, List.foldl_map]
 simp only [Nat.add_zero]
 congr 1
 funext b i
 simp [Nat.add_assoc, Nat.add_comm 1 i]
theorem fld_congr (al : Nat → Bool) {vs vs' : Nat → Value} (k m : Nat) (a : Act) (h : ∀ i, k ≤ i → vs i = vs' i) : fld ops al vs k m a = fld ops al vs' k m a := by
 unfold fld
 congr 1
 funext b i
 rw [h (k + i) (by omega)]
theorem fld_cp (al : Nat → Bool) (vs : Nat → Value) (a : Act) (m : Nat) : fld ops al vs 0 m a = cp ops vs a (fun k => !al k) m := by
 induction m with
 | zero => rfl
 | succ m ih =>
  unfold fld at ih ⊢
  rw [List.range_succ, List.foldl_append, ih]
  simp only [List.foldl_cons, List.foldl_nil, Nat.zero_add, cp]
  by_cases hal : al m = true <;> simp [hal]
theorem q_values {Q : Act → Prop} (al : Nat → Bool) : ∀ (l : List Oper) (k : Nat) (a : Act), (∀ j, j < l.length → l[j]? = ops[k + j]?) → wpQuiet P ops C Q (qlist al k l) a →
 ∃ vs : Nat → Value, (∀ j, j < l.length → al (k + j) = false → ∃ o, ops[k + j]? = some o ∧ YieldsIn P ops C o (vs (k + j)) (fld ops al vs k j a)) ∧ Q (fld ops al vs k l.length a)
 | [], k, a, _, h => ⟨fun _ => undef, fun j hj => absurd hj (by simp), h⟩
 | o :: rest, k, a, hl, h => by
  have ho : ops[k]? = some o := by have := hl 0 (by simp); simpa using this.symm
  have hd : dst ops k = o.dst := by simp [dst, ho]
  have hl' : ∀ j, j < rest.length → rest[j]? = ops[k + 1 + j]? := fun j hj => by
   have := hl (j + 1) (by simp; omega)
   simpa [Nat.add_assoc, Nat.add_comm 1 j] using this
  unfold qlist at h
  cases hal : al k with
  | true =>
   rw [hal, if_pos rfl] at h
   obtain ⟨vs, h1, h2⟩ := q_values al rest (k + 1) a hl' h
   refine ⟨vs, fun j hj hf => ?_, ?_⟩
   · cases j with
     | zero => rw [Nat.add_zero, hal] at hf; cases hf
     | succ j =>
      obtain ⟨o', g1, g2⟩ := h1 j (by simp at hj; omega) (by rw [← hf]; congr 1; omega)
      rw [fld_succ, hal, if_pos rfl, show k + (j + 1) = k + 1 + j by omega]
      exact ⟨o', g1, g2⟩
   · rw [List.length_cons, fld_succ, hal, if_pos rfl]
     exact h2
  | false =>
   rw [hal, if_neg (by simp)] at h
   have h' : qOp P ops C k (wpQuiet P ops C Q (qlist al (k + 1) rest)) a := by
    unfold qOp
    simp only [ho]
    exact h
   obtain ⟨v, hy, hr⟩ := yieldsIn_of_qOp ho h'
   obtain ⟨vs, h1, h2⟩ := q_values al rest (k + 1) (a.put o.dst v) hl' hr
   have hv : ∀ i, k + 1 ≤ i → vs i = (fun i => if i = k then v else vs i) i := fun i hi => (if_neg (show ¬ i = k by omega)).symm
   have hf0 : ∀ m, fld ops al (fun i => if i = k then v else vs i) k (m + 1) a = fld ops al vs (k + 1) m (a.put o.dst v) := fun m => by
    rw [fld_succ, hal, if_neg (by simp), hd, if_pos rfl, ← fld_congr al (k + 1) m _ hv]
   refine ⟨fun i => if i = k then v else vs i, fun j hj hf => ?_, ?_⟩
   · cases j with
     | zero => exact ⟨o, by simpa using ho, by simpa [fld] using hy⟩
     | succ j =>
      obtain ⟨o', g1, g2⟩ := h1 j (by simp at hj; omega) (by rw [← hf]; congr 1; omega)
      rw [hf0, show k + (j + 1) = k + 1 + j by omega]
      refine ⟨o', g1, ?_⟩
      rw [hv _ (by omega)] at g2
      exact g2
   · rw [List.length_cons, hf0]
     exact h2
theorem foldl_put_comm (al : Nat → Bool) (g : Nat → Value) (x : Option Tmp) (v : Value) : ∀ (l : List Nat) (a : Act), (∀ k ∈ l, al k = true → ∀ t, x = some t → dst ops k ≠ some t) →
 l.foldl (fun a k => if al k then a.put (dst ops k) (g k) else a) (a.put x v) = (l.foldl (fun a k => if al k then a.put (dst ops k) (g k) else a) a).put x v
 | [], a, _ => rfl
 | k :: l, a, h => by
  simp only [List.foldl_cons]
  cases hal : al k with
  | true =>
   simp only [if_true]
   rw [Act.put_comm a v (g k) (h k (List.mem_cons_self ..) hal)]
   exact foldl_put_comm al g x v l _ fun k hk => h k (List.mem_cons_of_mem _ hk)
  | false =>
   simp only [Bool.false_eq_true, if_false]
   exact foldl_put_comm al g x v l _ fun k hk => h k (List.mem_cons_of_mem _ hk)
theorem cp_vg (al : Nat → Bool) (vs g : Nat → Value) (a : Act) : ∀ (n : Nat), n ≤ ops.size → (∀ (i j : Nat) (t : Tmp), i < ops.size → j < ops.size → i ≠ j → dst ops i = some t → dst ops j ≠ some t) →
 cp ops (vg al vs g) a (fun _ => true) n = (List.range n).foldl (fun a k => if al k then a.put (dst ops k) (g k) else a) (cp ops vs a (fun k => !al k) n)
 | 0, _, _ => rfl
 | n + 1, hn, h => by
  simp only [cp, if_true]
  rw [cp_vg al vs g a n (by omega) h, List.range_succ, List.foldl_append]
  simp only [List.foldl_cons, List.foldl_nil]
  by_cases hal : al n = true
  · rw [if_pos hal, if_neg (show ¬ (!al n) = true by simp [hal])]
    congr 1
    unfold vg
    rw [if_pos hal]
  · rw [if_neg hal, if_pos (show (!al n) = true by simp [hal])]
    rw [foldl_put_comm]
    · congr 1
      unfold vg
      rw [if_neg hal]
    · intro k hk _ t ht
      have := List.mem_range.1 hk
      exact h n k t (by omega) (by omega) (by omega) ht
def groB (md : Region.Mode) (ops : Array Oper) (al : Nat → Bool) : Bool :=
 Region.noSelect ops &&
 ((List.range ops.size).all fun i => (List.range ops.size).all fun j => i == j || (dst ops i).isNone || dst ops i != dst ops j) &&
 ((List.range ops.size).all fun i => match ops[i]? with
   | none => true
   | some o => (o.after.all fun e => !Region.binds md e || decide (e.on < i)) &&
    ((o.looksAt ops).all fun t => (List.range ops.size).all fun k => dst ops k != some t || ((al i || !al k) && o.after.any fun e => Region.binds md e && e.on == k)))
theorem fineG_of {al : Nat → Bool} (h : groB md ops al = true) : FineG md ops al := by
 unfold groB at h
 simp only [Bool.and_eq_true] at h
 obtain ⟨⟨h1, h2⟩, h3⟩ := h
 rw [List.all_eq_true] at h2 h3
 refine ⟨Region.noSelect_spec h1, ?_, ?_, ?_⟩
 · intro i j t hi hj hne hd e
   have := h2 i (List.mem_range.2 hi)
   rw [List.all_eq_true] at this
   have := this j (List.mem_range.2 hj)
   simp [hne, hd, e] at this
 · intro i o t k ho ht hd
   have := h3 i (List.mem_range.2 (at_lt ho))
   simp only [ho, Bool.and_eq_true] at this
   have := this.2
   rw [List.all_eq_true] at this
   have := this t ht
   rw [List.all_eq_true] at this
   have := this k (List.mem_range.2 (dst_lt hd))
   simp only [hd, bne_self_eq_false, Bool.false_or, Bool.and_eq_true] at this
   obtain ⟨hk, this⟩ := this
   rw [Array.any_eq_true'] at this
   obtain ⟨e, he, hb⟩ := this
   simp at hb
   refine ⟨fun hi => ?_, e, he, hb.1, hb.2⟩
   rw [hi] at hk
   simpa using hk
 · intro i o e ho he hb
   have := h3 i (List.mem_range.2 (at_lt ho))
   simp only [ho, Bool.and_eq_true] at this
   have := this.1
   rw [Array.all_eq_true'] at this
   have := this e he
   simpa [hb] using this
def slotsG (ops : Array Oper) (al : Nat → Bool) (sz : Nat) : Bool := (List.range ops.size).all fun i => al i || match dst ops i with | some t => decide (t < sz) | none => false
def useB (md : Region.Mode) (ops : Array Oper) (al : Nat → Bool) (rt : Nat → Nat) (us : Nat → Option Nat) : Bool :=
 (List.range ops.size).all fun i => match ops[i]? with
  | none => true
  | some o => (match us i with | none => true | some b => al b && rt b == rt i && o.after.any fun e => Region.binds md e && e.on == b) &&
   (!al i || o.after.all fun e => !Region.binds md e || (List.range ops.size).all fun j => us j != some e.on || j == i)
theorem hub_of {al : Nat → Bool} {rt : Nat → Nat} {us : Nat → Option Nat} (h : useB md ops al rt us = true) : ∀ i b o, us i = some b → ops[i]? = some o → al b = true ∧ rt b = rt i ∧ Edg md o b := by
 intro i b o hu ho
 unfold useB at h
 rw [List.all_eq_true] at h
 have h1 := h i (List.mem_range.2 (at_lt ho))
 simp only [ho, hu, Bool.and_eq_true, beq_iff_eq] at h1
 obtain ⟨⟨⟨h2, h3⟩, h4⟩, _⟩ := h1
 rw [Array.any_eq_true'] at h4
 obtain ⟨e, he, hb⟩ := h4
 simp at hb
 exact ⟨h2, h3, e, he, hb.1, hb.2⟩
theorem huse_of {al : Nat → Bool} {rt : Nat → Nat} {us : Nat → Option Nat} (h : useB md ops al rt us = true) (hn : ∀ j b, us j = some b → j < ops.size) : ∀ i o k j, ops[i]? = some o → al i = true → Edg md o k → us j = some k → j = i := by
 rintro i o k j ho hal ⟨e, he, hb, rfl⟩ hu
 unfold useB at h
 rw [List.all_eq_true] at h
 have h1 := h i (List.mem_range.2 (at_lt ho))
 simp only [ho, hal, Bool.and_eq_true, Bool.not_true, Bool.false_or] at h1
 have h2 := h1.2
 rw [Array.all_eq_true'] at h2
 have h3 := h2 e he
 rw [hb] at h3
 simp only [Bool.not_true, Bool.false_or, List.all_eq_true] at h3
 have h4 := h3 j (List.mem_range.2 (hn j _ hu))
 rw [hu] at h4
 simpa using h4
def rdv (ops : Array Oper) (af : Act) (k : Nat) : Value := match dst ops k with | some t => af.eval (.tmp t) | none => undef
end
end Gro
theorem wp_region_gro {P : Program} {id : Nat} {Q : Exit → Act → World → Prop} {a : Act} {W : World} {l : List Oper} (n : Nat) (al : Nat → Bool) (bl : Value → Option Nat) (rt : Nat → Nat) (us : Nat → Option Nat) (Φ : Nat → Value → World → Prop) (af : Act)
 (hm : P.follows .mixedOrders = true) (hsp : splitB l n = true) (hsz : (l.take n).toArray.size = n) (hB : Gro.groB .any (l.take n).toArray al = true) (hS : Gro.slotsG (l.take n).toArray al a.tmps.size = true) (hU : Gro.useB .any (l.take n).toArray al rt us = true)
 (hq : ∀ X, Below W.heap.size W X → ∀ ov : Ov X, wpQuiet P (l.take n).toArray (fun w' => ∃ u, w' = ov.f u) (fun a' => a' = af) (Gro.qlist al 0 (l.take n)) a)
 (hst : ∀ k v X X' row, Φ k v X → X.grownBy X' row → (∀ r, bl v = some r → r < X.heap.size ∧ row ≠ some r) → Φ k v X')
 (hrt : ∀ i b k, us i = some b → rt k = rt i → k = i ∨ k = b)
 (hun : ∀ j b, us j = some b → j < n)
 (hmk : ∀ i, i < n → al i = true → ∃ o, (l.take n).toArray[i]? = some o ∧ Gro.Makes P bl rt us Φ .any (l.take n).toArray al W (Gro.rdv (l.take n).toArray af) a i o)
 (hK : ∀ (g : Nat → Value) w, Below W.heap.size W w → (∀ k, k < n → al k = true → (∀ j, us j ≠ some k) → Φ k (g k) w) → (∀ k, k < n → al k = true → ∀ r, bl (g k) = some r → W.heap.size ≤ r ∧ r < w.heap.size) → (∀ k k', k < n → k' < n → al k = true → al k' = true → rt k ≠ rt k' → ∀ r, bl (g k) = some r → bl (g k') ≠ some r) →
  wpList P l.toArray Q (l.drop n) ((List.range n).foldl (fun a' k => if al k then a'.put (Rg.dst (l.take n).toArray k) (g k) else a') af) w) :
 (Code.region id l.toArray true).wp P Q a W := by
 refine wp_region_split n hm hsp ?_
 obtain ⟨ops, hops⟩ : ∃ ops, ops = (l.take n).toArray := ⟨_, rfl⟩
 have hlen : (l.take n).length = n := by have := hsz; simpa using this
 rw [← hops] at hsz hB hS hU hq hmk hK ⊢
 have hf := Gro.fineG_of hB
 have hvals : ∀ X, Below W.heap.size W X → ∃ vs : Nat → Value, (∀ j, j < n → al j = false → ∃ o, ops[j]? = some o ∧ YieldsIn P ops (fun Y => Below X.heap.size X Y) o (vs j) (Rg.cp ops vs a (fun k => !al k) j)) ∧ Rg.cp ops vs a (fun k => !al k) n = af := by
  intro X hX
  obtain ⟨ov⟩ := ov_ex X
  obtain ⟨vs, h1, h2⟩ := Gro.q_values (ops := ops) al (l.take n) 0 a (fun j hj => by rw [hops]; simp) (hq X hX ov)
  rw [hlen, Gro.fld_cp] at h2
  refine ⟨vs, fun j hj hal => ?_, h2⟩
  obtain ⟨o, g1, g2⟩ := h1 j (by omega) (by rwa [Nat.zero_add])
  rw [Nat.zero_add] at g1 g2
  rw [Gro.fld_cp] at g2
  have hC : (fun w' => ∃ u, w' = ov.f u) = (fun Y => Below X.heap.size X Y) := by
   funext Y
   exact propext ⟨fun ⟨u, hu⟩ => hu ▸ ov.below u, fun h => ⟨Y, (ov.eq Y h).symm⟩⟩
  rw [hC] at g2
  exact ⟨o, g1, g2⟩
 have hone : ∀ vs : Nat → Value, Rg.cp ops vs a (fun k => !al k) n = af → ∀ j, j < n → al j = false → vs j = Gro.rdv ops af j := by
  intro vs he j hj hal
  have hs := List.all_eq_true.1 hS j (List.mem_range.2 (by omega))
  rw [hal, Bool.false_or] at hs
  unfold Gro.rdv
  cases hd : Rg.dst ops j with
  | none => rw [hd] at hs; cases hs
  | some t =>
   rw [hd] at hs
   have ht : t < a.tmps.size := by simpa using hs
   have := Rg.eval_hit (ops := ops) vs a (fun k => !al k) t j hd (by simp [hal]) n hj (fun i hi hij => hf.apart j i t (by omega) (by omega) (fun e => hij e.symm) hd)
   rw [he, if_pos ht] at this
   exact this.symm
 obtain ⟨vs, h1, h2⟩ := hvals W (Below.refl _ _)
 have hcpv : ∀ (vs vs' : Nat → Value) (i : Nat), (∀ k, k < i → al k = false → vs k = vs' k) → Rg.cp ops vs a (fun k => !al k) i = Rg.cp ops vs' a (fun k => !al k) i := fun vs vs' i h => Gro.cp_vals a _ _ fun k hk hc => h k hk (by simpa using hc)
 have haf : Rg.cp ops (Gro.rdv ops af) a (fun k => !al k) n = af := by rw [← h2]; rw [h2]; rw [← hcpv vs _ n (fun k hk hal => hone vs h2 k hk hal)]; exact h2
 have h := Gro.any_gro (P := P) (md := .any) (bl := bl) (rt := rt) (us := us) (Φ := Φ) (al := al) hf (W := W) (vs := Gro.rdv ops af) (a := a) (K := fun a w => wpList P l.toArray Q (l.drop n) a w) (fun i hi hal => by
  obtain ⟨o, ho, _⟩ := h1 i (by omega) hal
  refine ⟨o, ho, fun X hX => ?_⟩
  obtain ⟨vs', g1, g2⟩ := hvals X hX
  obtain ⟨o', ho', hy⟩ := g1 i (by omega) hal
  rw [ho] at ho'
  cases ho'
  rw [hone vs' g2 i (by omega) hal, hcpv vs' (Gro.rdv ops af) i (fun k hk hak => hone vs' g2 k (by omega) hak)] at hy
  exact hy) hst hrt (Gro.hub_of hU) (Gro.huse_of hU fun j b hj => by rw [hsz]; exact hun j b hj) (fun i o ho hal => by
  obtain ⟨o', ho', hm'⟩ := hmk i (by rw [← hsz]; exact Rg.at_lt ho) hal
  rw [ho] at ho'
  cases ho'
  exact hm') (fun g w hb hfa hlt hne => by
  have := hK g w hb (fun k hk => hfa k (by omega)) (fun k hk => hlt k (by omega)) (fun k k' hk hk' => hne k k' (by omega) (by omega))
  rw [Gro.cp_vg al _ g a ops.size (Nat.le_refl _) hf.apart, hsz, haf]
  exact this) ops.size (Array.replicate ops.size false) (fun _ => undef) a W.drew (by
  have : ∀ k, k ≤ ops.size → Rg.unl (Array.replicate ops.size false) k ≤ k := by
   intro k
   induction k with
   | zero => intro _; exact Nat.le_refl _
   | succ k ih => intro hm; have := ih (by omega); simp only [Rg.unl]; split <;> omega
  exact this _ (Nat.le_refl _)) (by
  have hz : ∀ k, (Array.replicate ops.size false).getD k false = false := fun k => by simp [Array.getElem?_replicate]; split <;> simp
  refine ⟨by simp, ?_, (Below.refl _ _).drew, fun k _ _ hl => (by rw [hz] at hl; cases hl), fun k _ _ hl => (by rw [hz] at hl; cases hl), fun k k' _ _ _ _ hl => (by rw [hz] at hl; cases hl)⟩
  have : ∀ k, Rg.cp ops (Gro.vg al (Gro.rdv ops af) fun _ => undef) a (fun k => (Array.replicate ops.size false).getD k false) k = a := by
   intro k
   induction k with
   | zero => rfl
   | succ k ih => simp only [Rg.cp, ih]; rw [hz]; simp
  exact (this _).symm)
 rw [hsz] at h
 exact Rg.wpAny_out (fun _ _ h => h) _ _ _ _ h
end
section
open Go.RowKit
theorem Gro.qlist_all : ∀ (l : List Oper) (k : Nat), Gro.qlist (fun _ => false) k l = l
 | [], _ => rfl
 | o :: r, k => by show o :: Gro.qlist (fun _ => false) (k + 1) r = _; rw [Gro.qlist_all r (k + 1)]
theorem wp_region_rd {P : Program} {id : Nat} {Q : Exit → Act → World → Prop} {a : Act} {W : World} {l : List Oper} (n : Nat) (af : Act)
 (hm : P.follows .mixedOrders = true) (hsp : splitB l n = true) (hsz : (l.take n).toArray.size = n) (hB : Gro.groB .any (l.take n).toArray (fun _ => false) = true) (hS : Gro.slotsG (l.take n).toArray (fun _ => false) a.tmps.size = true) (hU : Gro.useB .any (l.take n).toArray (fun _ => false) (fun k => k) (fun _ => none) = true)
 (hq : ∀ X, Below W.heap.size W X → ∀ ov : Ov X, wpQuiet P (l.take n).toArray (fun w' => ∃ u, w' = ov.f u) (fun a' => a' = af) (l.take n) a)
 (hK : ∀ w, Below W.heap.size W w → wpList P l.toArray Q (l.drop n) af w) :
 (Code.region id l.toArray true).wp P Q a W := by
 refine wp_region_gro n (fun _ => false) (fun _ => none) (fun k => k) (fun _ => none) (fun _ _ _ => True) af hm hsp hsz hB hS hU (fun X hX ov => ?_) (fun _ _ _ _ _ _ _ _ => trivial) (fun _ _ _ h => by cases h) (fun _ _ h => by cases h) (fun _ _ h => by cases h) (fun g w hb _ _ _ => ?_)
 · rw [Gro.qlist_all]; exact hq X hX ov
 · have := hK w hb
   rw [show (List.range n).foldl (fun a' k => if (false = true) then a'.put (Rg.dst (l.take n).toArray k) (g k) else a') af = af from by
    generalize List.range n = r
    induction r with
    | nil => rfl
    | cons _ r ih => exact ih]
   exact this
end
section
open Go.RowKit Go.Maps Go.Lib
namespace KT
theorem step_append_at {P : Program} {w : World} {ops : Array Oper} {o : Oper} {a : Act} {K : Act → World → Prop} {Q : Exit → Act → World → Prop} {E : Prop} (hgd : o.guard = none) (sx x : Operand) (t : TypeId)
 (ho : o.op = .call { callee := .builtin .append, args := #[sx, x], argTypes := #[t, t] })
 (e : TypeId) (i : TypeInfo) (z : Value) (s bytes : Nat) (ht : P.underlying t = some (.slice e)) (hi : P.info? e = some i) (hz : i.zero = some z)
 (hsize : i.size = s) (hby : i.bytes = bytes) (hzs : z.cells.size = s)
 (v : Value) (n : Nat) (xs : List Value) (hs : a.eval sx = v) (hown : OwnAt w e s v n xs)
 (ad : Addr) (m c : Nat) (news : List Value) (hx : a.eval x = .slice (some ad) m c) (hl : news.length = m * s) (hnews : ∀ j u, news[j]? = some u → w.cell? (ad.add j) = some u) (h1 : ∀ u ∈ news, u.oneCell' = true)
 (h63 : n + m ≤ maxLen) (hbytes : (n + m) * bytes ≤ 140737488355328)
 (h : ∀ v' w', OwnAt w' e s v' (n + m) (xs ++ news) → w.grownBy w' v.ownBlock → (v'.ownBlock = v.ownBlock ∨ v'.ownBlock = some w.heap.size) → K (a.put o.dst v') w') :
 if Region.wanted o (yielded ops a.tmps) = true then Oper.wp P o a w K Q else E := by
 rw [if_pos (by simp [Region.wanted, hgd])]
 exact wp_append_at w sx x t ho e i z s bytes ht hi hz hsize hby hzs v n xs hs hown ad m c news hx hl hnews h1 h63 hbytes h
theorem ownL_snoc {F : Nat → Prop} {w wa w' : World} {v v' : Value} {rs : List R.Rl} {cells us : List Value} {r : R.Rl} (h1 : OwnAt w 33 3 v rs.length cells) (h2 : ∀ (k : Nat) (r : R.Rl), rs[k]? = some r → RlX (fun i => F i ∨ v.ownBlock = some i) w ((cells.drop (k * 3)).take 3) r) (hr : RlX (fun i => F i ∨ v.ownBlock = some i) w us r) (hba : Below w.heap.size w wa)
 (hown' : OwnAt w' 33 3 v' (rs.length + 1) (cells ++ us)) (hgr : wa.grownBy w' v.ownBlock) (hat : v'.ownBlock = v.ownBlock ∨ ∃ n, v'.ownBlock = some n ∧ w.heap.size ≤ n) : OwnL F w' v' (rs ++ [r]) := by
 have hl := hr.len
 have hcl := h1.1
 have hk : Kpm (fun i => F i ∨ v.ownBlock = some i) w w' := (Kpm.of_below hba _).trans (Kpm.grown hgr fun g e => Or.inr e) fun i _ h => h
 have hN : ∀ i, i < w.heap.size → (F i ∨ v'.ownBlock = some i) → (F i ∨ v.ownBlock = some i) := fun i hi h => by
  rcases h with h | h
  · exact .inl h
  · rcases hat with e | ⟨n, e, hn⟩
    · exact .inr (e ▸ h)
    · rw [e] at h
      injection h with h
      omega
 refine ⟨cells ++ us, by rw [List.length_append]; exact hown', fun k y hy => ?_⟩
 rcases Nat.lt_or_ge k rs.length with hk2 | hk2
 · rw [List.getElem?_append_left hk2] at hy
   have e : ((cells ++ us).drop (k * 3)).take 3 = (cells.drop (k * 3)).take 3 := by
    rw [List.drop_append_of_le_length (by omega), List.take_append_of_le_length (by rw [List.length_drop]; omega)]
   rw [e]
   exact (h2 k y hy).step hk hN
 · rw [List.getElem?_append_right hk2] at hy
   have hk0 : k = rs.length := by
    rcases Nat.eq_zero_or_pos (k - rs.length) with e | e
    · omega
    · rw [List.getElem?_eq_none (by simp; omega)] at hy; cases hy
   subst hk0
   simp at hy
   subst hy
   have e : ((cells ++ us).drop (rs.length * 3)).take 3 = us := by
    rw [← hcl, List.drop_left, List.take_of_length_le (by omega)]
   rw [e]
   exact hr.step hk hN
noncomputable def addC (rs : List R.Rl) (r : R.Rl) : Int := if hasT rs r = true then 7 else if 40 ≤ rs.length ∨ 200 < (textW r).length then 3 else 0
noncomputable def addR (rs : List R.Rl) (r : R.Rl) : List R.Rl := if addC rs r = 0 then rs ++ [r] else rs
def AddPost (B : Nat) (W : World) (g mb : Nat) (v : Value) (rs : List R.Rl) (r : R.Rl) (e : Ending) (w' : World) : Prop :=
 ∃ v' ks', e = .returned (.int .i64 (addC rs r)) ∧ StoreAt B w' g v' mb (addR rs r) ks' ∧ Kpm (Nst g mb v) W w' ∧ ∀ b, v'.ownBlock = some b → v.ownBlock = some b ∨ W.heap.size ≤ b
theorem addPost_same {B : Nat} {W w' : World} {g mb : Nat} {v : Value} {rs : List R.Rl} {ks : List (List UInt8)} {r : R.Rl} {c : Int} (h : StoreAt B W g v mb rs ks) (hb : Below W.heap.size W w') (hc : addC rs r = c) (h0 : c ≠ 0) : AddPost B W g mb v rs r (.returned (.int .i64 c)) w' := by
 refine ⟨v, ks, by rw [hc], ?_, Kpm.of_below hb _, fun b e => .inl e⟩
 unfold addR
 rw [hc, if_neg h0]
 exact h.below hb
theorem add_any {B g mb : Nat} {v : Value} {rs : List R.Rl} {ks : List (List UInt8)} {r : R.Rl} {nl cl nr cr np cp : Nat} {AL AR AP : Option Addr} {W : World} (h : StoreAt B W g v mb rs ks) (hr : ∀ w', Kpm (fun i => i < B ∨ Nst g mb v i) W w' → RlAt w' r nl nr np AL AR AP) (hv : R.rvalid r = 0) (hT : ∀ w', Kpm (Nst g mb v) W w' → Tens w') (hn : rs.length ≤ 1000) :
 Calls Tryz.prog 80 #[.pointer (some ⟨g, 0, none⟩), .agg #[.slice AL nl cl, .slice AR nr cr, .slice AP np cp]] W (AddPost B W g mb v rs r) := by
 obtain ⟨W1, hW1⟩ : ∃ W1, W1 = W.alloc (.cells #[.slice AL nl cl, .slice AR nr cr, .slice AP np cp] 33) := ⟨_, rfl⟩
 have hb1 : Below W.heap.size W W1 := by rw [hW1]; exact al0
 have hrow : W1.heap[W.heap.size]? = some (.cells #[.slice AL nl cl, .slice AR nr cr, .slice AP np cp] 33 (0, 0)) := by rw [hW1]; exact heap_alloc_new W _
 have HK := kH (kKey_any (cl := cl) (cr := cr) (cp := cp) (hr _ (Kpm.of_below hb1 _)) (hT _ (Kpm.of_below hb1 _)))
 unfold KeyPost at HK
 rw [hv] at HK
 have Hv := kH hv
 have H := kH h
 have Hr := kH hr
 have HT := kH hT
 have HB1 := kH hb1
 have Hrow := kH hrow
 have HW1 := kH hW1
 obtain ⟨n, hnn⟩ : ∃ n, n = rs.length := ⟨_, rfl⟩
 obtain ⟨A, c, hvf⟩ := h.own.form
 rw [← hnn] at hvf hn
 subst hvf
 have Hn := kH hnn
 have Hlg := kH h.lt
 obtain ⟨c0, c1, c2, _⟩ := rl_cells hrow
 clear h hr hv hT hb1 hrow hW1 hnn
 go_enter Tryz.func80, Tryz.ntmps80
 go_upto_region 1 with (fail)
 rw [← HW1.out]
 go_wp2_with fail
 (refine HK.out.mono ?_)
 rintro e w2 ⟨k, rfl, hk1, _, hb2, hkl⟩
 have HKey := kH (show IsKey r k from by first | exact hk1 trivial | exact hk1 rfl)
 have Hb2 := kH (HB1.out.trans (hb2.mono HB1.out.size))
 have H2 := kH (H.out.below Hb2.out)
 have Hrow2 := kH ((hb2.block _ (gA Hrow.out).1).trans Hrow.out)
 have hg0 : w2.cell? ⟨g, 0, none⟩ = some (.slice A n c) := by rw [cell_of_row _ _ _ _ _ (0, 0) H2.out.row]; rfl
 have hg1 : w2.cell? ⟨g, 1, none⟩ = some (.map (some mb)) := by rw [cell_of_row _ _ _ _ _ (0, 0) H2.out.row]; rfl
 have hz : ∀ w, (zeroValue 3).run Tryz.prog w = .ok (.int .i64 0) w := fun w => by go_simp
 obtain ⟨u, _, hlook, _⟩ := H2.out.map_.lookup (k := k) strKeyed ekS_inj Tryz.underlying126 (hz w2) (keyOf_str (by omega))
 rw [entS_get H2.out.nd] at hlook
 have Hhas := kH (H2.out.has Hv.out HKey.out)
 unfold ekS at hlook
 have Hkl := kH hkl
 clear hk1 hb2 hkl hz c0 c1 c2 HK
 by_cases hm : k ∈ ks
 · rw [if_pos hm] at hlook
   simp only [Option.isSome_some] at hlook
   have Hc := kH (show addC rs r = 7 from by
    have h := Hhas.out
    rw [decide_eq_true hm] at h
    unfold addC
    rw [if_pos h.symm])
   clear hm hn
   go_wp2_with fail
   go_ret
   exact addPost_same H.out Hb2.out Hc.out (by decide)
 rw [if_neg hm] at hlook
 simp only [Option.isSome_none] at hlook
 have Hno := kH (show hasT rs r = false from by
  have h := Hhas.out
  rw [decide_eq_false hm] at h
  exact h.symm)
 have Hm := kH hm
 clear hm Hhas
 by_cases h40 : 40 ≤ n
 · have Hc := kH (show addC rs r = 3 from by
    unfold addC
    rw [Hno.out, if_neg (by decide), if_pos (.inl (by rw [← Hn.out]; exact h40))])
   have q : decide ((40 : Int) ≤ (n : Int)) = true := decide_eq_true (by omega)
   have q' : (40 : Int) ≤ (n : Int) := by omega
   go_wp2_with fail
   go_ret
   exact addPost_same H.out Hb2.out Hc.out (by decide)
 have q : decide ((40 : Int) ≤ (n : Int)) = false := decide_eq_false (by omega)
 have q' : ¬ (40 : Int) ≤ (n : Int) := by omega
 have hkp := Kpm.of_below Hb2.out (Nst g mb (.slice A n c))
 have hkq := Kpm.of_below Hb2.out (fun i => i < B ∨ Nst g mb (.slice A n c) i)
 have hwr := wrt_of_valid (us := [.slice AL nl cl, .slice AR nr cr, .slice AP np cp]) ⟨nl, cl, nr, cr, np, cp, AL, AR, AP, rfl, Hr.out _ hkq⟩ Hv.out
 have h1 := hwr.nl
 have h2 := hwr.nr
 have h3 := hwr.np
 have hR2 := Hr.out _ hkq
 have HC := kH (written_any (cl := cl) (cr := cr) (cp := cp) hR2 (HT.out _ hkp) (by rw [← hR2.sl.len]; exact h1) (by rw [← hR2.sr.len]; exact h2) (by rw [← hR2.sp.len]; exact h3) hwr.l hwr.q hwr.p)
 obtain ⟨t, ht⟩ : ∃ t, t = textW r := ⟨_, rfl⟩
 have Ht := kH ht
 rw [← ht] at HC
 obtain ⟨d0, d1, d2, _⟩ := rl_cells Hrow2.out
 have H40 := kH h40
 clear hkp hkq hwr h1 h2 h3 hR2 ht h40
 go_wp2_with fail
 (with_reducible refine HC.out.mono ?_)
 rintro e w3 ⟨rfl, hb3⟩
 have Hb3 := kH (Hb2.out.trans (hb3.mono Hb2.out.size))
 have H3 := kH (H2.out.below hb3)
 have Hrow3 := kH ((hb3.block _ (gA Hrow2.out).1).trans Hrow2.out)
 clear hb3 HC d0 d1 d2 hg0 hg1 hlook
 have hg0 : w3.cell? ⟨g, 0, none⟩ = some (.slice A n c) := by rw [cell_of_row _ _ _ _ _ (0, 0) H3.out.row]; rfl
 have hg1 : w3.cell? ⟨g, 1, none⟩ = some (.map (some mb)) := by rw [cell_of_row _ _ _ _ _ (0, 0) H3.out.row]; rfl
 by_cases h200 : 200 < t.length
 · have Hc := kH (show addC rs r = 3 from by
    unfold addC
    rw [Hno.out, if_neg (by decide), if_pos (.inr (by rw [← Ht.out]; exact h200))])
   go_wp2_with fail
   go_ret
   exact addPost_same H.out Hb3.out Hc.out (by decide)
 have Hc := kH (show addC rs r = 0 from by
  unfold addC
  rw [Hno.out, if_neg (by decide), if_neg (by rw [← Ht.out, ← Hn.out]; have := H40.out; omega)])
 go_upto_region 7 with (fail)
 refine wp_region_rd 10 ?af1 (by kernel_rfl) (by kernel_rfl) (by kernel_rfl) (by kernel_rfl) (by kernel_rfl) (by kernel_rfl) ?_ ?_
 rotate_left
 · intro X hX ov
   have e0 := ov.cell ((hX.cell (p := ⟨g, 0, none⟩) (cell_below hg0)).trans hg0)
   have e1 := ov.cell ((hX.cell (p := ⟨g, 1, none⟩) (cell_below hg1)).trans hg1)
   simp only [List.take_succ_cons, List.take_zero]
   repeat (go_big_quiet_step (fail))
   refine wpQuiet_nil ?_
   rfl
 intro w4 hb4
 have Hb4 := kH (Hb3.out.trans (hb4.mono Hb3.out.size))
 have H4 := kH (H3.out.below hb4)
 have Hrow4 := kH ((hb4.block _ (gA Hrow3.out).1).trans Hrow3.out)
 clear hb4 hg0 hg1
 simp only [List.drop_succ_cons, List.drop_zero]
 have Hkey := kH (keyOf_str (k := k) (by have := Hkl.out; omega))
 refine wpList_mapUpdate_at rfl _ _ _ rfl H4.out.map_ strKeyed ekS_inj Tryz.underlying126 k (.int .i64 (n : Int)) Hkey.out rfl rfl rfl ?_
 intro w5 hg5 hs5 hmap
 have Hmap := kH (show MapAt Tryz.prog 9 ekS IntK w5 mb (entS (ks ++ [k])) from by
  have h := hmap IntK (n : Int) (fun _ _ _ _ h => h) rfl
  rw [show (n : Int) = (ks.length : Int) from by rw [H4.out.len, ← Hn.out], entS_put Hm.out] at h
  exact h)
 have hgm : g ≠ mb := fun e => by
  obtain ⟨es, clock, hb, _⟩ := H4.out.map_
  have := H4.out.row
  rw [e, hb] at this
  injection this with this
  cases this
 have hgb : W.heap.size ≠ mb := fun e => by
  obtain ⟨es, clock, hb, _⟩ := H4.out.map_
  have := Hrow4.out
  rw [e, hb] at this
  injection this with this
  cases this
 have hvm : ∀ b, (Value.slice A n c).ownBlock = some b → b ≠ mb := fun b e1 e2 => by
  obtain ⟨cells, h1, _⟩ := H4.out.own
  obtain ⟨es, clock, hb, _⟩ := H4.out.map_
  rcases h1.2 with ⟨e, _⟩ | ⟨g', off, cap, cur, e, hc, _⟩
  · rw [e] at e1; simp [Value.ownBlock] at e1
  · rw [e] at e1
    simp [Value.ownBlock] at e1
    subst e1
    rw [e2, hb] at hc
    injection hc with hc
    cases hc
 have Hvm := kH hvm
 have Hrg := kH (show w5.heap[g]? = some (.cells #[.slice A n c, .map (some mb)] 128 (0, 0)) from (hg5.block g H4.out.lt (fun e => hgm (by injection e with e))).trans H4.out.row)
 have Hrb := kH (show w5.heap[W.heap.size]? = some (.cells #[.slice AL nl cl, .slice AR nr cr, .slice AP np cp] 33 (0, 0)) from (hg5.block _ (gA Hrow4.out).1 (fun e => hgb (by injection e with e))).trans Hrow4.out)
 have Hk5 := kH (show Kpm (Nst g mb (.slice A n c)) W w5 from (Kpm.of_below Hb4.out _).trans (Kpm.grown (M := fun i => i = mb) hg5 (fun g e => by injection e with e; exact e.symm)) (fun i _ e => .inr (.inl e)))
 have Hown5 := kH (show OwnL (fun i => i < B ∨ i = g ∨ i = mb) w5 (.slice A n c) rs from H4.out.own.step (N := fun i => i = mb) (Kpm.grown hg5 (fun g e => by injection e with e; exact e.symm)) (fun i _ e => .inr (.inr e)) (fun b e1 e2 => hvm b e1 e2) (fun _ _ h => h))
 clear hg5 hs5 hmap hgm hgb hvm
 go_upto_region 8 with (fail)
 obtain ⟨cells, hown, hrlx⟩ := Hown5.out
 rw [← Hn.out] at hown
 have Hown := kH hown
 have Hrlx := kH hrlx
 have Hrr := kH (show RlX (fun i => (i < B ∨ i = g ∨ i = mb) ∨ (Value.slice A n c).ownBlock = some i) w5 [.slice AL nl cl, .slice AR nr cr, .slice AP np cp] r from ⟨nl, cl, nr, cr, np, cp, AL, AR, AP, rfl, fun w' h => Hr.out w' ((Hk5.out.weak (N := fun i => i < B ∨ Nst g mb (.slice A n c) i) (fun i _ e => .inr e)).trans h (fun i _ e => by
  rcases e with (e | e | e) | e
  · exact .inl e
  · exact .inr (.inl e)
  · exact .inr (.inr (.inl e))
  · exact .inr (.inr (.inr e))))⟩)
 have Hsz5 := kH Hk5.out.size
 have Hne := kH (show g ≠ W.heap.size from by have := Hlg.out; omega)
 have Hvg := kH (show ∀ b, (Value.slice A n c).ownBlock = some b → b ≠ g ∧ b < W.heap.size from fun b e => by
  obtain ⟨cells, h1, _⟩ := H.out.own
  refine ⟨fun e2 => ?_, h1.lt b e⟩
  rcases h1.2 with ⟨e3, _⟩ | ⟨g', off, cap, cur, e3, hc, _⟩
  · rw [e3] at e; simp [Value.ownBlock] at e
  · rw [e3] at e
    simp [Value.ownBlock] at e
    subst e
    exact RF.row_ne hc H.out.row (by decide) e2)
 have HS := kH (show ∀ Y : World, Y.heap[g]? = w5.heap[g]? → Y.heap[W.heap.size]? = w5.heap[W.heap.size]? → Y.cell? ⟨g, 0, none⟩ = some (.slice A n c) ∧ Y.cell? ⟨W.heap.size, 0, none⟩ = some (.slice AL nl cl) ∧ Y.cell? ⟨W.heap.size, 1, none⟩ = some (.slice AR nr cr) ∧ Y.cell? ⟨W.heap.size, 2, none⟩ = some (.slice AP np cp) from fun Y h1 h2 => by
  obtain ⟨n0, n1, n2, _⟩ := rl_cells (h2.trans Hrb.out)
  exact ⟨by rw [cell_of_row _ _ _ _ _ (0, 0) (h1.trans Hrg.out)]; rfl, n0, n1, n2⟩)
 obtain ⟨ii, hi1, hi2, hi3, hi4⟩ := info_parts infoRule
 have Hi := kH (And.intro hi1 (And.intro hi2 (And.intro hi3 hi4)))
 clear hown hrlx hi1 hi2 hi3 hi4 q q'
 refine wp_region_split 10 (by kernel_rfl) (by kernel_rfl) ?_
 simp only [List.take_succ_cons, List.take_zero]
 refine wpAny_of_held (S := fun Y => Y.cell? ⟨g, 0, none⟩ = some (.slice A n c) ∧ Y.cell? ⟨W.heap.size, 0, none⟩ = some (.slice AL nl cl) ∧ Y.cell? ⟨W.heap.size, 1, none⟩ = some (.slice AR nr cr) ∧ Y.cell? ⟨W.heap.size, 2, none⟩ = some (.slice AP np cp)) _ _ _ _ ?_
 have hHeld := HS.out w5.drew rfl rfl
 refine tk 0 ?_ hHeld (fun Y hY => ?_) ?_
 rotate_left
 · (go_simp) <;> with_reducible rfl
 try simp only [Act.put, yL]
 refine tk 1 ?_ hHeld (fun Y hY => ?_) ?_
 rotate_left
 · (go_simp) <;> with_reducible rfl
 try simp only [Act.put, yL]
 refine tk 2 ?_ hHeld (fun Y hY => ?_) ?_
 rotate_left
 · (go_simp) <;> with_reducible rfl
 try simp only [Act.put, yL]
 refine tk 3 ?_ hHeld (fun Y hY => ?_) ?_
 rotate_left
 · (go_simp) <;> with_reducible rfl
 try simp only [Act.put, yL]
 refine tk 4 ?_ hHeld (fun Y hY => ?_) ?_
 rotate_left
 · obtain ⟨y0, y1, y2, y3⟩ := hY
   (go_simp) <;> with_reducible rfl
 try simp only [Act.put, yL]
 refine tk 5 ?_ hHeld (fun Y hY => ?_) ?_
 rotate_left
 · obtain ⟨y0, y1, y2, y3⟩ := hY
   (go_simp) <;> with_reducible rfl
 try simp only [Act.put, yL]
 refine rd 6 (fun KK hKK => ?_)
 clear hHeld
 go_simp
 obtain ⟨x2, hx2⟩ : ∃ x2, x2 = (w5.alloc (.cells #[.slice AL nl cl, .slice AR nr cr, .slice AP np cp] 33)).drew := ⟨_, rfl⟩
 first | rw [← hx2] | (simp only [← hx2])
 have Hx2 := kH (show Below w5.heap.size w5 x2 from by rw [hx2]; exact (al0).drew)
 have Hsrc := kH (show ∀ q u, [Value.slice AL nl cl, .slice AR nr cr, .slice AP np cp][q]? = some u → x2.cell? ((⟨w5.heap.size, 0, none⟩ : Addr).add q) = some u from by
  rw [hx2]
  intro q u hq
  obtain ⟨ad, e, h⟩ := src_new w5 [.slice AL nl cl, .slice AR nr cr, .slice AP np cp] 33 q u hq
  cases e
  exact h)
 clear hx2
 refine hKK.out _ _ (HS.out _ (Hx2.out.block _ (gA Hrg.out).1) (Hx2.out.block _ (gA Hrb.out).1)) (fun hHeld => ?_)
 clear hKK KK
 try simp only [Act.put, yL]
 refine rd 7 (fun KK hKK => ?_)
 clear hHeld
 refine step_append_at rfl (.tmp 50) (.tmp 52) 40 rfl 33 ii _ 3 72 Tryz.underlying40 Hi.out.1 Hi.out.2.1 Hi.out.2.2.1 Hi.out.2.2.2 rfl (.slice A n c) n cells rfl (Hown.out.below Hx2.out Hown.out.lt) ⟨w5.heap.size, 0, none⟩ 1 1 [.slice AL nl cl, .slice AR nr cr, .slice AP np cp] rfl rfl Hsrc.out (by simp [Value.oneCell']) (by simp only [maxLen]; omega) (by omega) ?_
 intro v6 w6 hown6 hgr6 hat6
 have hkg : w6.heap[g]? = w5.heap[g]? := (hgr6.block g (Nat.lt_of_lt_of_le (gA Hrg.out).1 Hx2.out.size) (fun e => (Hvg.out g e.symm).1 rfl)).trans (Hx2.out.block _ (gA Hrg.out).1)
 have hkb : w6.heap[W.heap.size]? = w5.heap[W.heap.size]? := (hgr6.block _ (Nat.lt_of_lt_of_le (gA Hrb.out).1 Hx2.out.size) (fun e => by have := (Hvg.out _ e.symm).2; omega)).trans (Hx2.out.block _ (gA Hrb.out).1)
 refine hKK.out _ _ (HS.out w6 hkg hkb) (fun hHeld => ?_)
 clear hKK KK
 try simp only [Act.put, yL]
 obtain ⟨A6, c6, rfl⟩ := hown6.form
 have Hk6 := kH (show Kpm (Nst g mb (.slice A n c)) W w6 from Hk5.out.trans ((Kpm.of_below Hx2.out (fun i => (Value.slice A n c).ownBlock = some i)).trans (Kpm.grown hgr6 (fun g e => e)) (fun i _ e => e)) (fun i _ e => .inr (.inr e)))
 have Hat6 := kH (show ∀ b, (Value.slice A6 (n + 1) c6).ownBlock = some b → (Value.slice A n c).ownBlock = some b ∨ W.heap.size ≤ b from fun b e => by
  rcases hat6 with e2 | e2
  · exact .inl (e2 ▸ e)
  · rw [e2] at e
    injection e with e
    have h1 := Hx2.out.size
    have h2 := Hsz5.out
    exact .inr (by omega))
 have Hown6 := kH (show OwnL (fun i => i < B ∨ i = g ∨ i = mb) w6 (.slice A6 (n + 1) c6) (rs ++ [r]) from ownL_snoc (by rw [← Hn.out]; exact Hown.out) Hrlx.out Hrr.out Hx2.out (by rw [← Hn.out]; exact hown6) hgr6 (by
  rcases hat6 with e2 | e2
  · exact .inl e2
  · exact .inr ⟨_, e2, Hx2.out.size⟩))
 have Hmb := kH (show w6.heap[mb]? = w5.heap[mb]? from (hgr6.block mb (Nat.lt_of_lt_of_le Hmap.out.lt Hx2.out.size) (fun e => Hvm.out mb e.symm rfl)).trans (Hx2.out.block _ Hmap.out.lt))
 have Hrg6 := kH (hkg.trans Hrg.out)
 have nf := frozen_row Hrg6.out 0
 have nc : w6.cell? ⟨g, 0, none⟩ = some (.slice A n c) := by rw [cell_of_row _ _ _ _ _ (0, 0) Hrg6.out]; rfl
 clear hown6 hgr6 hat6 hkg hkb
 refine tk 8 ?_ hHeld (fun Y hY => ?_) ?_
 rotate_left
 · (go_simp) <;> with_reducible rfl
 try simp only [Act.put, yL]
 refine tk 9 ?_ hHeld (fun Y hY => ?_) ?_
 rotate_left
 · (go_simp) <;> with_reducible rfl
 try simp only [Act.put, yL]
 refine wpAnyH_done (by kernel_rfl) ?_ _
 clear hHeld
 go_wp2_with fail
 go_ret
 have hs7 := setCell_grown w6 g 0 (.slice A6 (n + 1) c6)
 refine ⟨.slice A6 (n + 1) c6, ks ++ [k], by rw [Hc.out]; rfl, ?_, Hk6.out.setCell (p := ⟨g, 0, none⟩) (fun _ => .inl rfl) _, Hat6.out⟩
 unfold addR
 rw [Hc.out, if_pos rfl]
 refine ⟨?_, Hown6.out.step (N := fun i => i = g) (Kpm.grown hs7 (fun i e => by injection e with e; exact e.symm)) (fun i _ e => .inr (.inl e)) (fun b e1 e2 => ?_) (fun _ _ h => h), Hmap.out.keep ?_ (fun _ _ _ h => h), ?_, by rw [List.length_append, List.length_append, H.out.len]; rfl, fun i q kq h1 h2 => ?_, fun q hq => ?_⟩
 · have := heap_setCell_same w6 g 0 _ _ (.slice A6 (n + 1) c6) Hrg6.out
   rw [this]
   rfl
 · subst e2
   rcases Hat6.out b e1 with h | h
   · exact (Hvg.out b h).1 rfl
   · have := Hlg.out
     omega
 · refine (RF.set_block (fun e => ?_) ?_).trans Hmb.out
   · obtain ⟨es, clock, hb, _⟩ := Hmap.out
     rw [e, Hrg.out] at hb
     injection hb with hb
     cases hb
   · have h1 := Hmap.out.lt
     have h2 := (gA (Hmb.out.trans (Array.getElem?_eq_getElem h1))).1
     exact h2
 · rw [List.nodup_append]
   exact ⟨H.out.nd, by simp, fun a ha b hb e => by simp at hb; subst hb e; exact Hm.out ha⟩
 · rcases Nat.lt_or_ge i rs.length with hi | hi
   · rw [List.getElem?_append_left hi] at h1
     rw [List.getElem?_append_left (by rw [H.out.len]; exact hi)] at h2
     exact H.out.key i q kq h1 h2
   · rw [List.getElem?_append_right hi] at h1
     rw [List.getElem?_append_right (by rw [H.out.len]; exact hi)] at h2
     rw [H.out.len] at h2
     rcases hj : i - rs.length with _ | j
     · rw [hj] at h1 h2
       simp at h1 h2
       subst h1 h2
       exact HKey.out
     · rw [hj] at h1
       simp at h1
 · rcases List.mem_append.1 hq with hq | hq
   · exact H.out.val q hq
   · rw [List.mem_singleton] at hq
     subst hq
     exact Hv.out
end KT
end
end Go.Proofs.YtbiopedpceddeaaGreatDoor
