/- Own law: a region that draws its order: all operations but the last one leave the world in a class, each with one value; the last one is whatever. One walk in the order of the text serves every order. -/
import Derived.Test.YtbiopedpceddeaaGreatDoorN00
import Derived.Deep.Quiet
set_option linter.unusedVariables false
set_option linter.unusedSimpArgs false
namespace Go.Proofs.YtbiopedpceddeaaGreatDoor
open Go.RowKit

namespace Rg
section
variable {P : Program} {ops : Array Oper} {md : Region.Mode} {C : World → Prop}

def dst (ops : Array Oper) (k : Nat) : Option Tmp := (ops[k]?).bind (·.dst)

/-- the values of those among the first m operations that are chosen, laid into their slots -/
def cp (ops : Array Oper) (vs : Nat → Value) (a : Act) (c : Nat → Bool) : Nat → Act
  | 0 => a
  | m + 1 => if c m then (cp ops vs a c m).put (dst ops m) (vs m) else cp ops vs a c m

theorem size_put (a : Act) (d : Option Tmp) (v : Value) : (a.put d v).tmps.size = a.tmps.size := by
  cases d <;> simp [Act.put]

theorem size_cp (vs : Nat → Value) (a : Act) (c : Nat → Bool) (m : Nat) : (cp ops vs a c m).tmps.size = a.tmps.size := by
  induction m with
  | zero => rfl
  | succ m ih =>
    simp only [cp]
    split
    · rw [size_put, ih]
    · exact ih

theorem eval_put_same (a : Act) (t : Tmp) (v : Value) : (a.put (some t) v).eval (.tmp t) = if t < a.tmps.size then v else undef := by
  simp only [Act.eval, Act.put, Array.getD_eq_getD_getElem?, Array.getElem?_setIfInBounds]
  by_cases h : t < a.tmps.size <;> simp [h]

theorem eval_other (a : Act) (d : Option Tmp) (t : Tmp) (v : Value) (h : d ≠ some t) : (a.put d v).eval (.tmp t) = a.eval (.tmp t) :=
  Act.eval_put fun e he hx => h (by rw [he]; injection hx with hx; rw [hx])

theorem eval_none (vs : Nat → Value) (a : Act) (c : Nat → Bool) (t : Tmp) (m : Nat) (h : ∀ k, k < m → dst ops k ≠ some t) : (cp ops vs a c m).eval (.tmp t) = a.eval (.tmp t) := by
  induction m with
  | zero => rfl
  | succ m ih =>
    simp only [cp]
    split
    · rw [eval_other _ _ _ _ (h m (by omega))]; exact ih fun k hk => h k (by omega)
    · exact ih fun k hk => h k (by omega)

theorem eval_hit (vs : Nat → Value) (a : Act) (c : Nat → Bool) (t : Tmp) (k : Nat) (hd : dst ops k = some t) (hc : c k = true) (m : Nat) (hk : k < m) (h : ∀ j, j < m → j ≠ k → dst ops j ≠ some t) :
    (cp ops vs a c m).eval (.tmp t) = if t < a.tmps.size then vs k else undef := by
  induction m with
  | zero => omega
  | succ m ih =>
    simp only [cp]
    by_cases e : k = m
    · subst e
      rw [if_pos hc, hd, eval_put_same, size_cp]
    · have hm := h m (by omega) (fun e' => e e'.symm)
      split
      · rw [eval_other _ _ _ _ hm]; exact ih (by omega) fun j hj => h j (by omega)
      · exact ih (by omega) fun j hj => h j (by omega)

theorem cp_congr (vs : Nat → Value) (a : Act) {c c' : Nat → Bool} (m : Nat) (h : ∀ k, k < m → c k = c' k) : cp ops vs a c m = cp ops vs a c' m := by
  induction m with
  | zero => rfl
  | succ m ih => simp only [cp, ih fun k hk => h k (by omega), h m (by omega)]

theorem cp_set (vs : Nat → Value) (a : Act) {c c' : Nat → Bool} (i : Nat) (m : Nat) (hi : i < m) (h0 : c i = false) (h1 : c' i = true) (h : ∀ k, k ≠ i → c' k = c k)
    (hd : ∀ k t, k < m → k ≠ i → dst ops k = some t → dst ops i ≠ some t) : cp ops vs a c' m = (cp ops vs a c m).put (dst ops i) (vs i) := by
  induction m with
  | zero => omega
  | succ m ih =>
    simp only [cp]
    by_cases e : i = m
    · subst e
      rw [if_pos h1, if_neg (by simp [h0]), cp_congr vs a i fun k hk => h k (by omega)]
    · rw [ih (by omega) fun k t hk => hd k t (by omega), h m (fun e' => e e'.symm)]
      split
      · exact (Act.put_comm _ _ _ fun t ht e' => hd m t (by omega) (fun e'' => e e''.symm) e' ht)
      · rfl

theorem cp_defers (vs : Nat → Value) (a : Act) (c : Nat → Bool) (d : Deferred) (m : Nat) : ({ cp ops vs a c m with defers := d :: (cp ops vs a c m).defers } : Act) = cp ops vs { a with defers := d :: a.defers } c m := by
  induction m with
  | zero => rfl
  | succ m ih =>
    simp only [cp]
    split
    · rw [Act.put_defers, ih]
    · exact ih

/-- What an operation looks at. -/
theorem same_of_evals {o : Oper} (hs : ∀ cs b, o.op ≠ .select cs b) {a b : Act} (h : ∀ t, t ∈ o.looksAt ops → a.eval (.tmp t) = b.eval (.tmp t)) :
    execOp a.eval o = execOp b.eval o ∧ Region.wanted o (yielded ops a.tmps) = Region.wanted o (yielded ops b.tmps) := by
  constructor
  · refine execOp_congr o hs fun x hx => ?_
    cases x with
    | tmp t => exact h t (List.mem_append_left _ (List.mem_filterMap.2 ⟨.tmp t, by simpa using hx, rfl⟩))
    | const v => rfl
    | global g => rfl
    | func f => rfl
  · unfold Region.wanted
    cases hg : o.guard with
    | none => rfl
    | some p =>
      obtain ⟨g, want⟩ := p
      simp only
      have : yielded ops a.tmps g = yielded ops b.tmps g := by
        unfold yielded
        cases hd : (ops[g]?).bind (·.dst) with
        | none => rfl
        | some d =>
          have := h d (List.mem_append_right _ (by simp [hg, hd]))
          simp only [Act.eval, Array.getD_eq_getD_getElem?] at this
          simp only [Option.bind_some]
          cases h1 : a.tmps[d]? with
          | none =>
            cases h2 : b.tmps[d]? with
            | none => rfl
            | some u => rw [h1, h2] at this; simp at this; subst this; rfl
          | some u =>
            cases h2 : b.tmps[d]? with
            | none => rw [h1, h2] at this; simp at this; subst this; rfl
            | some u' => rw [h1, h2] at this; simp at this; subst this; rfl
      rw [this]

/-- the operations in the order of the text: their values -/
theorem lex_values {Q : Act → Prop} : ∀ (l : List Oper) (k : Nat) (a : Act), (∀ j, j < l.length → l[j]? = ops[k + j]?) → wpQuiet P ops C Q l a →
    ∃ vs : Nat → Value, (∀ j, j < l.length → ∃ o b, ops[k + j]? = some o ∧ YieldsIn P ops C o (vs j) b ∧ b = (List.range j).foldl (fun a i => a.put (dst ops (k + i)) (vs i)) a) ∧
      Q ((List.range l.length).foldl (fun a i => a.put (dst ops (k + i)) (vs i)) a)
  | [], k, a, _, h => ⟨fun _ => undef, fun j hj => absurd hj (by simp), h⟩
  | o :: rest, k, a, hl, h => by
    have ho : ops[k]? = some o := by have := hl 0 (by simp); simpa using this.symm
    have h' : qOp P ops C k (wpQuiet P ops C Q rest) a := by
      unfold qOp
      simp only [ho]
      exact h
    obtain ⟨v, hy, hr⟩ := yieldsIn_of_qOp ho h'
    obtain ⟨vs, h1, h2⟩ := lex_values rest (k + 1) (a.put o.dst v) (fun j hj => by
      have := hl (j + 1) (by simp; omega)
      simpa [Nat.add_assoc, Nat.add_comm 1 j] using this) hr
    have hd : dst ops k = o.dst := by simp [dst, ho]
    have shift : ∀ m, (List.range (m + 1)).foldl (fun a i => a.put (dst ops (k + i)) ((fun j => if j = 0 then v else vs (j - 1)) i)) a = (List.range m).foldl (fun a i => a.put (dst ops (k + 1 + i)) (vs i)) (a.put o.dst v) := by
      intro m
      rw [List.range_succ_eq_map, List.foldl_cons, List.foldl_map]
      simp only [Nat.add_zero, hd, if_true]
      congr 1
      funext b i
      simp [Nat.add_assoc, Nat.add_comm 1 i]
    refine ⟨fun j => if j = 0 then v else vs (j - 1), fun j hj => ?_, ?_⟩
    · cases j with
      | zero => exact ⟨o, a, by simpa using ho, by simpa using hy, rfl⟩
      | succ j =>
        obtain ⟨o', b, g1, g2, g3⟩ := h1 j (by simp at hj; omega)
        refine ⟨o', b, by rw [← g1]; congr 1; omega, by simpa using g2, ?_⟩
        rw [g3]
        exact (shift j).symm
    · rw [List.length_cons]
      have := shift rest.length
      rw [this]
      exact h2

theorem fold_cp (vs : Nat → Value) (a : Act) (m : Nat) : (List.range m).foldl (fun a i => a.put (dst ops (0 + i)) (vs i)) a = cp ops vs a (fun _ => true) m := by
  induction m with
  | zero => rfl
  | succ m ih =>
    rw [List.range_succ, List.foldl_append, ih]
    simp [cp]

/-- What is asked of the region's edges. -/
structure Fine (md : Region.Mode) (ops : Array Oper) (n : Nat) : Prop where
  sel : ∀ (j : Nat) (o : Oper) cs b, ops[j]? = some o → o.op ≠ .select cs b
  apart : ∀ (i j : Nat) (t : Tmp), i < ops.size → j < ops.size → i ≠ j → dst ops i = some t → dst ops j ≠ some t
  dep : ∀ (i : Nat) (o : Oper) (t : Tmp) (k : Nat), ops[i]? = some o → t ∈ o.looksAt ops → dst ops k = some t → ∃ e ∈ o.after, Region.binds md e = true ∧ e.on = k
  lex : ∀ (i : Nat) (o : Oper) (e : Edge), ops[i]? = some o → e ∈ o.after → Region.binds md e = true → e.on < i
  late : ∀ (i : Nat) (o : Oper), i < n → ops[i]? = some o → (∃ (ol : Oper) (e : Edge), ops[n]? = some ol ∧ e ∈ ol.after ∧ Region.binds md e = true ∧ e.on = i) ∨ ∃ (t : Operand) (x : Nat), o.op = .extract t x

def lateB (ol : Oper) (md : Region.Mode) (i : Nat) (o : Oper) : Bool := (ol.after.any fun e => Region.binds md e && e.on == i) || (match o.op with | .extract .. => true | _ => false)

def fineB (md : Region.Mode) (ops : Array Oper) (n : Nat) : Bool :=
  Region.noSelect ops &&
  ((List.range ops.size).all fun i => (List.range ops.size).all fun j => i == j || (dst ops i).isNone || dst ops i != dst ops j) &&
  ((List.range ops.size).all fun i => match ops[i]? with
    | none => true
    | some o => (o.after.all fun e => !Region.binds md e || decide (e.on < i)) &&
      ((o.looksAt ops).all fun t => (List.range ops.size).all fun k => dst ops k != some t || o.after.any fun e => Region.binds md e && e.on == k)) &&
  (match ops[n]? with
    | none => false
    | some ol => (List.range n).all fun i => match ops[i]? with | none => true | some o => lateB ol md i o)

theorem dst_lt {k : Nat} {t : Tmp} (h : dst ops k = some t) : k < ops.size := by
  rcases Nat.lt_or_ge k ops.size with h' | h'
  · exact h'
  · simp [dst, Array.getElem?_eq_none h'] at h

theorem at_lt {i : Nat} {o : Oper} (h : ops[i]? = some o) : i < ops.size := (Array.getElem?_eq_some_iff.1 h).1

theorem fine_of {n : Nat} (h : fineB md ops n = true) : Fine md ops n := by
  unfold fineB at h
  simp only [Bool.and_eq_true] at h
  obtain ⟨⟨⟨h1, h2⟩, h3⟩, h4⟩ := h
  rw [List.all_eq_true] at h2 h3
  refine ⟨Region.noSelect_spec h1, ?_, ?_, ?_, ?_⟩
  · intro i j t hi hj hne hd e
    have := h2 i (List.mem_range.2 hi)
    rw [List.all_eq_true] at this
    have := this j (List.mem_range.2 hj)
    simp [hne, hd, e] at this
  · intro i o t k ho ht hd
    have := h3 i (List.mem_range.2 (at_lt ho))
    simp only [ho, Bool.and_eq_true] at this
    have := this.2
    rw [List.all_eq_true] at this
    have := this t ht
    rw [List.all_eq_true] at this
    have := this k (List.mem_range.2 (dst_lt hd))
    simp only [hd, bne_self_eq_false, Bool.false_or] at this
    rw [Array.any_eq_true'] at this
    obtain ⟨e, he, hb⟩ := this
    simp at hb
    exact ⟨e, he, hb.1, hb.2⟩
  · intro i o e ho he hb
    have := h3 i (List.mem_range.2 (at_lt ho))
    simp only [ho, Bool.and_eq_true] at this
    have := this.1
    rw [Array.all_eq_true'] at this
    have := this e he
    simpa [hb] using this
  · intro i o hi ho
    cases hn : ops[n]? with
    | none => simp [hn] at h4
    | some ol =>
      simp only [hn] at h4
      rw [List.all_eq_true] at h4
      have := h4 i (List.mem_range.2 hi)
      simp only [ho, lateB, Bool.or_eq_true] at this
      rcases this with h | h
      · rw [Array.any_eq_true'] at h
        obtain ⟨e, he, hb⟩ := h
        simp at hb
        exact .inl ⟨ol, e, rfl, he, hb.1, hb.2⟩
      · right
        split at h
        · rename_i t x heq
          exact ⟨t, x, heq⟩
        · cases h

/-- how many have not come up -/
def unl (listed : Array Bool) : Nat → Nat
  | 0 => 0
  | m + 1 => unl listed m + if listed.getD m true then 0 else 1

theorem unl_same {listed listed' : Array Bool} (m : Nat) (h : ∀ k, k < m → listed'.getD k true = listed.getD k true) : unl listed' m = unl listed m := by
  induction m with
  | zero => rfl
  | succ m ih => simp only [unl, ih fun k hk => h k (by omega), h m (by omega)]

theorem unl_set {listed : Array Bool} {i : Nat} (h : listed.getD i true = false) (m : Nat) (hi : i < m) : unl (listed.setIfInBounds i true) m + 1 = unl listed m := by
  have his : i < listed.size := by
    rcases Nat.lt_or_ge i listed.size with h' | h'
    · exact h'
    · simp [Array.getElem?_eq_none h'] at h
  induction m with
  | zero => omega
  | succ m ih =>
    simp only [unl]
    by_cases e : i = m
    · subst e
      have e1 : unl (listed.setIfInBounds i true) i = unl listed i := unl_same i fun k hk => getD_set_ne true (by omega)
      rw [e1, h]
      simp [his]
    · have := ih (by omega)
      rw [getD_set_ne true e]
      omega

theorem unl_zero {listed : Array Bool} {m : Nat} (h : unl listed m = 0) : ∀ k, k < m → listed.getD k true = true := by
  induction m with
  | zero => intro k hk; omega
  | succ m ih =>
    simp only [unl] at h
    intro k hk
    by_cases e : k = m
    · subst e
      cases hl : listed.getD k true
      · simp [hl] at h
      · rfl
    · exact ih (by omega) k (by omega)

theorem two_getD {listed : Array Bool} {k : Nat} (hk : k < listed.size) (d d' : Bool) : listed.getD k d = listed.getD k d' := by simp [hk]

/-- as long as one has not come up, one may -/
theorem some_ready {n : Nat} (hf : Fine md ops n) {listed : Array Bool} (hs : listed.size = ops.size) (m : Nat) (hm : m ≤ ops.size) (h : ∃ k, k < m ∧ listed.getD k true = false) : ∃ i, i ∈ Region.ready md ops listed := by
  induction m with
  | zero => obtain ⟨k, hk, _⟩ := h; omega
  | succ m ih =>
    by_cases h' : ∃ k, k < m ∧ listed.getD k true = false
    · exact ih (by omega) h'
    · obtain ⟨k, hk, hl⟩ := h
      have e : k = m := by
        rcases Nat.lt_or_ge k m with h1 | h1
        · exact absurd ⟨k, h1, hl⟩ h'
        · omega
      subst e
      have hks : k < ops.size := by omega
      refine ⟨k, mem_ready.2 ⟨hl, ops[k], Array.getElem?_eq_getElem hks, fun e he hb => ?_⟩⟩
      have hlt := hf.lex k _ e (Array.getElem?_eq_getElem hks) he hb
      have : ¬ listed.getD e.on true = false := fun h1 => h' ⟨e.on, hlt, h1⟩
      rw [two_getD (by omega) false true]
      simpa using this

/-- nothing but what comes behind, no panic -/
def onlyK (K : Act → World → Prop) : Exit → Act → World → Prop
  | .normal, a, w => K a w
  | _, _, _ => False

theorem no_out (K : Act → World → Prop) : ¬ LetsOut (onlyK K) := by
  rintro ⟨a, w, h⟩; exact h

structure Inv (md : Region.Mode) (ops : Array Oper) (C : World → Prop) (n : Nat) (vs : Nat → Value) (a : Act) (K : Act → World → Prop) (listed : Array Bool) (act : Act) (w : World) : Prop where
  size : listed.size = ops.size
  shut : ∀ (i : Nat) (o : Oper), ops[i]? = some o → listed.getD i false = true → ∀ e ∈ o.after, Region.binds md e = true → listed.getD e.on false = true
  head : listed.getD n false = false → act = cp ops vs a (fun k => listed.getD k false) n ∧ C w
  tail : listed.getD n false = true → ∃ a1 u, a1.tmps = a.tmps ∧ act = (cp ops vs a1 (fun k => listed.getD k false) n).put (dst ops n) u ∧ K ((cp ops vs a1 (fun _ => true) n).put (dst ops n) u) w

theorem run_extract {o : Oper} {t : Operand} {x : Nat} (ho : o.op = .extract t x) (ρ : Operand → Value) {v : Value} {w : World} (h : (execOp ρ o).run P w = .ok (.value v) w) (w' : World) : (execOp ρ o).run P w' = .ok (.value v) w' := by
  unfold execOp at h ⊢
  simp only [ho] at h ⊢
  unfold Instr.extract at h ⊢
  cases hv : ρ t with
  | tuple us =>
    rw [hv] at h
    cases hx : us[x]? with
    | none => simp [hx, Result.andThen, stuck] at h
    | some u => simp [hx, Result.andThen] at h ⊢; exact h
  | _ => rw [hv] at h; simp [Result.andThen, stuck] at h

theorem any_of_inv {n : Nat} (hf : Fine md ops n) (hn : n + 1 = ops.size) {vs : Nat → Value} {a : Act} {K : Act → World → Prop} (w0 : World) (hw0 : C w0)
    (hv : ∀ i, i < n → ∃ o, ops[i]? = some o ∧ YieldsIn P ops C o (vs i) (cp ops vs a (fun _ => true) i))
    (hl : ∀ w, C w → wpOp P ops (onlyK K) n K (cp ops vs a (fun _ => true) n) w) :
    ∀ (fuel : Nat) (listed : Array Bool) (act : Act) (w : World), unl listed ops.size ≤ fuel → Inv md ops C n vs a K listed act w → wpAny P md ops (onlyK K) fuel listed act w := by
  intro fuel
  have done : ∀ (listed : Array Bool) (act : Act) (w : World), unl listed ops.size = 0 → Inv md ops C n vs a K listed act w → onlyK K .normal act w := by
    intro listed act w h0 I
    have hall := unl_zero h0
    have hn' : listed.getD n false = true := by rw [two_getD (by rw [I.size]; omega) false true]; exact hall n (by omega)
    obtain ⟨a1, u, _, e2, hk⟩ := I.tail hn'
    rw [e2, cp_congr vs a1 (c' := fun _ => true) n fun k hk => by
      show listed.getD k false = true
      rw [two_getD (by rw [I.size]; omega) false true]; exact hall k (by omega)]
    exact hk
  have noReady : ∀ (listed : Array Bool) (act : Act) (w : World), Inv md ops C n vs a K listed act w → Region.ready md ops listed = [] → unl listed ops.size = 0 := by
    intro listed act w I hr
    rcases Nat.eq_zero_or_pos (unl listed ops.size) with h | h
    · exact h
    · have hex : ∃ k, k < ops.size ∧ listed.getD k true = false := by
        apply Classical.byContradiction
        intro hno
        have : ∀ m, m ≤ ops.size → unl listed m = 0 := by
          intro m
          induction m with
          | zero => intro _; rfl
          | succ m ih =>
            intro hm
            simp only [unl, ih (by omega)]
            cases hl : listed.getD m true
            · exact absurd ⟨m, by omega, hl⟩ hno
            · simp
        have := this _ (Nat.le_refl _)
        omega
      obtain ⟨i, hi⟩ := some_ready hf I.size ops.size (Nat.le_refl _) hex
      rw [hr] at hi
      cases hi
  induction fuel with
  | zero =>
    intro listed act w hu I
    have h0 : unl listed ops.size = 0 := by omega
    refine ⟨?_, done listed act w h0 I⟩
    have hall := unl_zero h0
    cases hr : Region.ready md ops listed with
    | nil => rfl
    | cons i r =>
      have hi : i ∈ Region.ready md ops listed := by rw [hr]; simp
      obtain ⟨h1, o, ho, _⟩ := mem_ready.1 hi
      rw [hall i (at_lt ho)] at h1
      cases h1
  | succ fuel ih =>
    intro listed act w hu I
    refine ⟨fun hr => done listed act w (noReady listed act w I hr) I, fun i hi => ?_⟩
    obtain ⟨hun, o, ho, hedges⟩ := mem_ready.1 hi
    have hilt := at_lt ho
    have hun' : listed.getD i false = false := by rw [two_getD (by rw [I.size]; omega) false true]; exact hun
    have hcount := unl_set hun ops.size hilt
    -- what the operation looks at is there
    have evs : ∀ a1 : Act, a1.tmps = a.tmps → ∀ t, t ∈ o.looksAt ops → (cp ops vs a1 (fun k => listed.getD k false) n).eval (.tmp t) = (cp ops vs a (fun _ => true) (min i n)).eval (.tmp t) := by
      intro a1 ha1 t ht
      have hsz : a1.tmps.size = a.tmps.size := by rw [ha1]
      by_cases hex : ∃ k, k < n ∧ dst ops k = some t
      · obtain ⟨k, hk, hd⟩ := hex
        obtain ⟨e, he, hb, hon⟩ := hf.dep i o t k ho ht hd
        have hkl : listed.getD k false = true := by rw [← hon]; exact hedges e he hb
        have hki : k < i := by rw [← hon]; exact hf.lex i o e ho he hb
        rw [eval_hit vs a1 _ t k hd hkl n hk fun j hj hjk => hf.apart k j t (dst_lt hd) (by omega) (fun e => hjk e.symm) hd,
          eval_hit vs a _ t k hd rfl (min i n) (by omega) fun j hj hjk => hf.apart k j t (dst_lt hd) (by omega) (fun e => hjk e.symm) hd, hsz]
      · have hno : ∀ k, k < n → dst ops k ≠ some t := fun k hk hd => hex ⟨k, hk, hd⟩
        rw [eval_none vs a1 _ t n hno, eval_none vs a _ t (min i n) fun k hk => hno k (by omega)]
        simp only [Act.eval, ha1]
    have shut' : ∀ j o', ops[j]? = some o' → (listed.setIfInBounds i true).getD j false = true → ∀ e ∈ o'.after, Region.binds md e = true → (listed.setIfInBounds i true).getD e.on false = true := by
      intro j o' hj hjl e he hb
      by_cases hji : j = i
      · subst hji
        rw [ho] at hj
        cases hj
        exact getD_set_true (hedges e he hb)
      · rw [getD_set_ne false (fun e => hji e.symm)] at hjl
        exact getD_set_true (I.shut j o' hj hjl e he hb)
    have his : i < listed.size := by rw [I.size]; exact hilt
    have hset : (listed.setIfInBounds i true).getD i false = true := by simp [his]
    by_cases hin : i < n
    · obtain ⟨o2, ho2, hy⟩ := hv i hin
      rw [ho] at ho2
      cases ho2
      have hmin : min i n = i := by omega
      cases hnl : listed.getD n false
      · -- the last one has not come up
        obtain ⟨rfl, hw⟩ := I.head hnl
        obtain ⟨e1, e2⟩ := same_of_evals (hf.sel i o · · ho) (evs a rfl)
        rw [hmin] at e1 e2
        have hy' : YieldsIn P ops C o (vs i) (cp ops vs a (fun k => listed.getD k false) n) := hy.of_same e1 e2
        refine wpOp_of_qOp (K := fun a' => a' = (cp ops vs a (fun k => listed.getD k false) n).put o.dst (vs i)) hw ?_ (hy'.qOp ho rfl)
        rintro a' w' hw' rfl
        refine ih _ _ _ (by omega) ⟨by simp [I.size], shut', fun h => ⟨?_, hw'⟩, fun h => ?_⟩
        · have := cp_set vs a (c := fun k => listed.getD k false) (c' := fun k => (listed.setIfInBounds i true).getD k false) i n hin hun' hset (fun k hk => getD_set_ne false (fun e => hk e.symm)) (ops := ops) (fun k t hk hki hd => hf.apart k i t (dst_lt hd) hilt hki hd)
          rw [this]
          simp [dst, ho]
        · rw [getD_set_ne false (by omega), hnl] at h
          cases h
      · -- the last one is done
        obtain ⟨a1, u, ha1, rfl, hk⟩ := I.tail hnl
        obtain ⟨t, x, hop⟩ : ∃ t x, o.op = .extract t x := by
          rcases hf.late i o hin ho with ⟨ol, e, h1, h2, h3, h4⟩ | h
          · have := I.shut n ol h1 hnl e h2 h3
            rw [h4, hun'] at this
            cases this
          · exact h
        have evs2 : ∀ t, t ∈ o.looksAt ops → ((cp ops vs a1 (fun k => listed.getD k false) n).put (dst ops n) u).eval (.tmp t) = (cp ops vs a (fun _ => true) (min i n)).eval (.tmp t) := by
          intro t ht
          rw [eval_other]
          · exact evs a1 ha1 t ht
          · intro hd
            obtain ⟨e, he, hb, hon⟩ := hf.dep i o t n ho ht hd
            have := hf.lex i o e ho he hb
            omega
        obtain ⟨e1, e2⟩ := same_of_evals (hf.sel i o · · ho) evs2
        rw [hmin] at e1 e2
        have fin : wpAny P md ops (onlyK K) fuel (listed.setIfInBounds i true) (((cp ops vs a1 (fun k => listed.getD k false) n).put (dst ops n) u).put o.dst (vs i)) w := by
          refine ih _ _ _ (by omega) ⟨by simp [I.size], shut', fun h => ?_, fun h => ⟨a1, u, ha1, ?_, hk⟩⟩
          · rw [getD_set_ne false (by omega), hnl] at h
            cases h
          · have := cp_set vs a1 (c := fun k => listed.getD k false) (c' := fun k => (listed.setIfInBounds i true).getD k false) i n hin hun' hset (fun k hk => getD_set_ne false (fun e => hk e.symm)) (ops := ops) (fun k t hk hki hd => hf.apart k i t (dst_lt hd) hilt hki hd)
            rw [this]
            have hdi : dst ops i = o.dst := by simp [dst, ho]
            rw [hdi]
            exact (Act.put_comm _ _ _ fun d hd e => hf.apart n i d (by omega) hilt (by omega) hd (by rw [hdi]; exact e))
        unfold wpOp
        simp only [ho]
        rw [e2]
        rcases hy with ⟨hw, hq⟩ | ⟨hw, hvs⟩
        · rw [if_pos hw]
          left
          have hq0 := hq w0 hw0
          unfold Oper.quietAt at hq0
          have hrun : (execOp (cp ops vs a (fun _ => true) i).eval o).run P w0 = .ok (.value (vs i)) w0 := by
            generalize hr : (execOp (cp ops vs a (fun _ => true) i).eval o).run P w0 = r at hq0
            unfold execOp at hr
            simp only [hop] at hr
            cases r with
            | ok nx w' =>
              cases nx with
              | value v' => simp only [Oper.quietUpon] at hq0; rw [hq0.1, hq0.2]
              | skip =>
                exfalso
                revert hr
                cases hx : Instr.extract ((cp ops vs a (fun _ => true) i).eval t) x |>.run P w0 <;> simp [Sem.run_bind, hx, Result.andThen]
              | enter f args =>
                exfalso
                revert hr
                cases hx : Instr.extract ((cp ops vs a (fun _ => true) i).eval t) x |>.run P w0 <;> simp [Sem.run_bind, hx, Result.andThen]
              | _ => simp only [Oper.quietUpon] at hq0
            | halt x' w' => simp only [Oper.quietUpon] at hq0
          have hrun' := run_extract hop _ hrun w
          unfold Oper.wp
          rw [e1, hrun']
          exact fin
        · rw [if_neg (by simp [hw])]
          rw [← hvs]
          exact fin
    · -- the last one comes up
      have hi' : i = n := by omega
      subst hi'
      obtain ⟨rfl, hw⟩ := I.head hun'
      obtain ⟨e1, e2⟩ := same_of_evals (hf.sel i o · · ho) (evs a rfl)
      rw [Nat.min_self] at e1 e2
      have hL := hl w hw
      unfold wpOp at hL ⊢
      simp only [ho] at hL ⊢
      rw [e2]
      have fin : ∀ a1 u w', a1.tmps = a.tmps → K ((cp ops vs a1 (fun _ => true) i).put o.dst u) w' → wpAny P md ops (onlyK K) fuel (listed.setIfInBounds i true) ((cp ops vs a1 (fun k => listed.getD k false) i).put o.dst u) w' := by
        intro a1 u w' ha1 hk
        have hdi : dst ops i = o.dst := by simp [dst, ho]
        refine ih _ _ _ (by omega) ⟨by simp [I.size], shut', fun h => ?_, fun h => ⟨a1, u, ha1, ?_, by rw [hdi]; exact hk⟩⟩
        · rw [hset] at h; cases h
        · rw [hdi, cp_congr vs a1 (c' := fun k => listed.getD k false) i fun k hk => getD_set_ne false (by omega)]
      split
      · rename_i hwant
        rw [if_pos hwant] at hL
        rcases hL with hL | ⟨_, hlo⟩
        · left
          unfold Oper.wp at hL ⊢
          rw [e1]
          generalize (execOp (cp ops vs a (fun _ => true) i).eval o).run P w = r at hL
          cases r with
          | ok nx w' =>
            cases nx <;> simp only [Oper.upon] at hL ⊢
            case value u => exact fin a u w' rfl hL
            case skip => exact fin a undef w' rfl hL
            case defer d =>
              rw [cp_defers] at hL ⊢
              exact fin _ undef w' rfl hL
            case enter f args =>
              refine Calls.mono hL fun e w'' he => ?_
              cases e with
              | returned u => exact fin a u w'' rfl he
              | panicked c => exact he.elim
              | outgrown => exact absurd he (no_out K)
            case row row args => exact Rows.mono hL fun u w'' he => fin a u w'' rfl he
          | halt x w' =>
            cases x <;> simp only [Oper.upon] at hL ⊢
            case panic u => exact hL.elim
        · exact absurd hlo (no_out K)
      · rename_i hwant
        rw [if_neg hwant] at hL
        exact fin a undef w rfl hL
end

theorem wpOp_out {P : Program} {ops : Array Oper} {Q : Exit → Act → World → Prop} {K K' : Act → World → Prop} {i : Nat} {a : Act} {w : World} (h : wpOp P ops (onlyK K') i K a w) : wpOp P ops Q i K a w := by
  unfold wpOp at h ⊢
  split
  · rename_i ho; simpa only [ho] using h
  · rename_i o ho
    simp only [ho] at h
    split
    · rename_i hw
      rw [if_pos hw] at h
      rcases h with h | ⟨_, h⟩
      · left
        unfold Oper.wp at h ⊢
        generalize (execOp a.eval o).run P w = r at h
        cases r with
        | ok nx w' =>
          cases nx <;> simp only [Oper.upon] at h ⊢
          case value u => exact h
          case skip => exact h
          case defer d => exact h
          case enter f args =>
            refine Calls.mono h fun e w'' he => ?_
            cases e with
            | returned u => exact he
            | panicked c => exact he.elim
            | outgrown => exact absurd he (no_out K')
          case row row args => exact h
        | halt x w' =>
          cases x <;> simp only [Oper.upon] at h ⊢
          case panic u => exact h.elim
      · exact absurd h (no_out K')
    · rename_i hw
      rw [if_neg hw] at h
      exact h

theorem wpAny_out {P : Program} {ops : Array Oper} {md : Region.Mode} {Q : Exit → Act → World → Prop} {K : Act → World → Prop} (hK : ∀ a w, K a w → Q .normal a w) : ∀ (fuel : Nat) (listed : Array Bool) (a : Act) (w : World), wpAny P md ops (onlyK K) fuel listed a w → wpAny P md ops Q fuel listed a w
  | 0, _, _, _, h => ⟨h.1, hK _ _ h.2⟩
  | fuel + 1, _, _, _, h => ⟨fun h0 => hK _ _ (h.1 h0), fun i hi => wpOp_mono (fun a' w' h' => wpAny_out hK fuel _ a' w' h') (wpOp_out (h.2 i hi))⟩

/-- A drawn region: its head in a class of worlds, in the order of the text; then its last operation. -/
theorem wp_region {P : Program} {id : Nat} {Q : Exit → Act → World → Prop} {a : Act} {w : World} {l : List Oper} (C : World → Prop) (n : Nat) (hm : P.follows .mixedOrders = true) (hB : (fineB .any l.toArray n && decide (n + 1 = l.length)) = true) (hC : C w.drew)
    (h : wpQuiet P l.toArray C (fun a' => ∀ w', C w' → ∀ K : Act → World → Prop, (∀ a w, Q .normal a w → K a w) → wpList P l.toArray (onlyK K) (l.drop n) a' w') (l.take n) a) : (Code.region id l.toArray true).wp P Q a w := by
  simp only [Bool.and_eq_true, decide_eq_true_eq] at hB
  have hf := fine_of hB.1
  have hn : n + 1 = l.toArray.size := by simpa using hB.2
  refine wp_region_any hm ?_
  obtain ⟨vs, h1, h2⟩ := lex_values (ops := l.toArray) (l.take n) 0 a (fun j hj => by
    have : j < n := by simp at hj; omega
    simp [List.getElem?_take, this]) h
  have hlen : (l.take n).length = n := by simp; omega
  rw [hlen] at h1 h2
  rw [fold_cp] at h2
  refine wpAny_out (K := Q .normal) (fun _ _ h => h) _ _ _ _ ?_
  refine any_of_inv (C := C) (n := n) hf hn (vs := vs) (a := a) w.drew hC ?_ ?_ _ _ _ _ ?_ ?_
  · intro i hi
    obtain ⟨o, b, g1, g2, g3⟩ := h1 i hi
    rw [fold_cp] at g3
    rw [g3] at g2
    exact ⟨o, by simpa using g1, g2⟩
  · intro w' hw'
    have h3 := h2 w' hw' (Q .normal) (fun _ _ h => h)
    have hd : l.drop n = [l[n]'(by simp at hn; omega)] := by
      have hnl : n < l.length := by simp at hn; omega
      rw [List.drop_eq_getElem_cons hnl, List.drop_of_length_le (by simp at hn; omega)]
    rw [hd] at h3
    unfold wpOp
    have : l.toArray[n]? = some (l[n]'(by simp at hn; omega)) := by
      have hnl : n < l.length := by simp at hn; omega
      simp [hnl]
    simp only [this]
    simp only [wpList] at h3
    split
    · rename_i hw
      rw [if_pos hw] at h3
      rcases h3 with h3 | ⟨_, h3⟩
      · exact .inl h3
      · exact absurd h3 (no_out _)
    · rename_i hw
      rw [if_neg hw] at h3
      exact h3
  · have : ∀ m, m ≤ l.toArray.size → unl (Array.replicate l.toArray.size false) m ≤ m := by
      intro m
      induction m with
      | zero => intro _; exact Nat.le_refl _
      | succ m ih => intro hm; have := ih (by omega); simp only [unl]; split <;> omega
    exact this _ (Nat.le_refl _)
  · have hz : ∀ k, (Array.replicate l.toArray.size false).getD k false = false := fun k => by simp [Array.getElem?_replicate]; split <;> simp
    refine ⟨by simp, fun i o _ hl => (by rw [hz] at hl; cases hl), fun _ => ⟨?_, hC⟩, fun h => (by rw [hz] at h; cases h)⟩
    have : ∀ m, cp l.toArray vs a (fun k => (Array.replicate l.toArray.size false).getD k false) m = a := by
      intro m
      induction m with
      | zero => rfl
      | succ m ih => simp only [cp]; rw [if_neg (by rw [hz]; simp)]; exact ih
    exact (this n).symm
end Rg
end Go.Proofs.YtbiopedpceddeaaGreatDoor
