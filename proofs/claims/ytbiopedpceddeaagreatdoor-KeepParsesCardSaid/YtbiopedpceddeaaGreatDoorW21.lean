/- Merged: C4PK6. -/
import Derived.Test.YtbiopedpceddeaaGreatDoorW20
set_option linter.unusedVariables false
set_option linter.unusedSimpArgs false
namespace Go.Proofs.YtbiopedpceddeaaGreatDoor
set_option linter.unusedVariables false
set_option linter.unusedSimpArgs false
namespace KT
open Go.Lib
def sumStep (s : Int) (b : UInt8) : Int := (s * 257 + (b.toNat : Int) + 1) % 1000003
/-- the sum of a text behind another one -/
def sumT (n : Int) (t : List UInt8) : Int := t.foldl sumStep (n % 1000003)
theorem sumStep_range (s : Int) (b : UInt8) : 0 ≤ sumStep s b ∧ sumStep s b < 1000003 := by unfold sumStep; omega
theorem sumFold_range : ∀ (t : List UInt8) (n : Int), 0 ≤ n → n < 1000003 → 0 ≤ t.foldl sumStep n ∧ t.foldl sumStep n < 1000003 := by
  intro t
  induction t with
  | nil => intro n h0 h1; exact ⟨h0, h1⟩
  | cons b t ih => intro n _ _; exact ih _ (sumStep_range n b).1 (sumStep_range n b).2
theorem sumT_range (n : Int) (t : List UInt8) : 0 ≤ sumT n t ∧ sumT n t < 1000003 := sumFold_range t _ (by omega) (by omega)
/-- the rule that a text is -/
def parse (s : List UInt8) : Option R.Rl := if R.rvalid (candP s) = 0 ∧ textW (candP s) = s then some (candP s) else none
theorem parts_u (s : List UInt8) (n i : Nat) : U32 ((partsOf s n).getD i 0) := by
  have key : ∀ a ∈ partsOf s n, U32 a := by
    intro a ha
    unfold partsOf at ha
    rcases List.mem_append.1 ha with ha | ha
    · obtain ⟨t, _, rfl⟩ := List.mem_map.1 ha
      exact num_range t
    · rw [List.mem_replicate] at ha
      rw [ha.2]
      exact ⟨by omega, by omega⟩
  rw [List.getD_eq_getElem?_getD]
  cases h : (partsOf s n)[i]? with
  | none => exact ⟨by simp, by simp⟩
  | some a => exact key a (List.mem_of_getElem? h)
theorem nodeOf_S (s : List UInt8) : NdS (nodeOf s) := by
  refine ⟨parts_u _ _ _, parts_u _ _ _, parts_u _ _ _, parts_u _ _ _, fun a ha => ?_⟩
  unfold nodeOf at ha
  simp only at ha
  split at ha
  · obtain ⟨t, _, rfl⟩ := List.mem_map.1 ha
    exact num_range t
  · cases ha
theorem candP_S (s : List UInt8) : RlS (candP s) := by
  unfold candP
  refine ⟨fun x hx => ?_, fun x hx => ?_, fun x hx => ?_⟩
  · obtain ⟨t, _, rfl⟩ := List.mem_map.1 hx; exact nodeOf_S t
  · obtain ⟨t, _, rfl⟩ := List.mem_map.1 hx; exact nodeOf_S t
  · obtain ⟨t, _, rfl⟩ := List.mem_map.1 hx; exact ⟨parts_u _ _ _, parts_u _ _ _, parts_u _ _ _⟩
theorem fields_u (s : List UInt8) (i : Nat) : U32 ((fieldsR s).getD i 0) := by
  have key : ∀ a ∈ fieldsR s, U32 a := by
    intro a ha
    unfold fieldsR at ha
    rcases List.mem_append.1 ha with ha | ha
    · obtain ⟨t, _, rfl⟩ := List.mem_map.1 ha
      exact rnum_range t
    · simp at ha
      rw [ha]
      exact ⟨by omega, by omega⟩
  rw [List.getD_eq_getElem?_getD]
  cases h : (fieldsR s)[i]? with
  | none => exact ⟨by simp, by simp⟩
  | some a => exact key a (List.mem_of_getElem? h)
theorem nodeR_S (s : List UInt8) : NdS (nodeR s) := by
  refine ⟨fields_u _ _, fields_u _ _, fields_u _ _, fields_u _ _, fun a ha => ?_⟩
  obtain ⟨t, _, rfl⟩ := List.mem_map.1 ha
  exact rnum_range t
theorem stepR_S (q : Int × R.Rl) (w : List UInt8) (h : RlS q.2) : RlS (stepR q w).2 := by
  unfold stepR
  split
  · exact h
  · split
    · refine ⟨h.left, h.right, fun c hc => ?_⟩
      rcases List.mem_append.1 hc with hc | hc
      · exact h.pre c hc
      · rw [List.mem_singleton] at hc
        subst hc
        exact ⟨fields_u _ _, fields_u _ _, fields_u _ _⟩
    · split
      · refine ⟨fun c hc => ?_, h.right, h.pre⟩
        rcases List.mem_append.1 hc with hc | hc
        · exact h.left c hc
        · rw [List.mem_singleton] at hc
          subst hc
          exact nodeR_S w
      · split
        · refine ⟨h.left, fun c hc => ?_, h.pre⟩
          rcases List.mem_append.1 hc with hc | hc
          · exact h.right c hc
          · rw [List.mem_singleton] at hc
            subst hc
            exact nodeR_S w
        · exact h
theorem candR_S (s : List UInt8) : RlS (candR s) := by
  unfold candR
  have : ∀ (l : List (List UInt8)) (q : Int × R.Rl), RlS q.2 → RlS (l.foldl stepR q).2 := by
    intro l
    induction l with
    | nil => intro q h; exact h
    | cons w l ih => intro q h; exact ih _ (stepR_S q w h)
  exact this _ _ ⟨fun _ h => (by cases h), fun _ h => (by cases h), fun _ h => (by cases h)⟩
theorem parse_some {s : List UInt8} {r : R.Rl} : parse s = some r ↔ R.rvalid r = 0 ∧ RlS r ∧ textW r = s := by
  unfold parse
  constructor
  · intro h
    split at h
    · rename_i hh
      injection h with h
      subst h
      exact ⟨hh.1, candP_S s, hh.2⟩
    · cases h
  · rintro ⟨h1, h2, rfl⟩
    rw [candP_text h2, if_pos ⟨h1, rfl⟩]
theorem parse_ref (s : List UInt8) : parse s = if R.rvalid (candR s) = 0 ∧ textW (candR s) = s then some (candR s) else none := by
  split
  · rename_i h
    exact parse_some.2 ⟨h.1, candR_S s, h.2⟩
  · rename_i h
    cases hp : parse s with
    | none => rfl
    | some r =>
      obtain ⟨h1, h2, h3⟩ := parse_some.1 hp
      refine absurd ⟨?_, ?_⟩ h
      · rw [← h3, candR_text h2]; exact h1
      · rw [← h3, candR_text h2]
theorem parse_text {r : R.Rl} (h : R.rvalid r = 0) (hs : RlS r) : parse (textW r) = some r := parse_some.2 ⟨h, hs, rfl⟩

/-- a line of a store -/
def lineT (n : Int) (r : R.Rl) : List UInt8 := itoa (sumT n (textW r)) ++ 32 :: textW r ++ [10]
def storeFrom : Int → List R.Rl → List UInt8
  | _, [] => []
  | n, r :: l => lineT n r ++ storeFrom (sumT n (textW r)) l
/-- the store with rules -/
def storeT (l : List R.Rl) : List UInt8 := storeFrom 0 l
def sums (n : Int) (l : List R.Rl) : Int := l.foldl (fun n r => sumT n (textW r)) n
theorem storeFrom_app : ∀ (l m : List R.Rl) (n : Int), storeFrom n (l ++ m) = storeFrom n l ++ storeFrom (sums n l) m := by
  intro l
  induction l with
  | nil => intro m n; rfl
  | cons r l ih => intro m n; rw [List.cons_append, storeFrom, storeFrom, ih, List.append_assoc]; rfl
/-- the first line of a text: its number, its rest, what follows -/
def lineOf (s : List UInt8) : Option (List UInt8 × List UInt8 × List UInt8) :=
  if (cut s [10]).2.2 ∧ (cut (cut s [10]).1 [32]).2.2 then some ((cut (cut s [10]).1 [32]).1, (cut (cut s [10]).1 [32]).2.1, (cut s [10]).2.1) else none
theorem lineOf_some {s told t rest : List UInt8} : lineOf s = some (told, t, rest) ↔ s = told ++ 32 :: t ++ 10 :: rest ∧ (10 : UInt8) ∉ told ∧ (10 : UInt8) ∉ t ∧ (32 : UInt8) ∉ told := by
  unfold lineOf
  constructor
  · intro h
    rcases cut_cases 10 s with ⟨_, hc⟩ | ⟨x, A, rfl, hx, hc⟩
    · rw [hc] at h; simp at h
    · rw [hc] at h
      rcases cut_cases 32 x with ⟨_, hd⟩ | ⟨y, B, rfl, hy, hd⟩
      · simp only [hd] at h; simp at h
      · simp only [hd, and_self, if_true] at h
        injection h with h
        injection h with h1 h2
        injection h2 with h2 h3
        subst h1 h2 h3
        refine ⟨by simp, fun h => hx (by simp [h]), fun h => hx (by simp [h]), hy⟩
  · rintro ⟨rfl, h1, h2, h3⟩
    have e1 : cut (told ++ 32 :: t ++ 10 :: rest) [10] = (told ++ 32 :: t, rest, true) := cut_app 10 _ _ (by simp [h1, h2])
    have e2 : cut (told ++ 32 :: t) [32] = (told, t, true) := cut_app 32 _ _ h3
    rw [e1]
    simp only [e2, and_self, if_true]
/-- does the next line belong to a store, behind these rules? -/
def lineOk (sm : R.Rl → R.Rl → Bool) (n : Int) (l : List R.Rl) (told t : List UInt8) (r : R.Rl) : Prop :=
  parse t = some r ∧ told = itoa (sumT n t) ∧ l.any (fun q => sm q r) = false ∧ l.length < 40 ∧ t.length ≤ 200
/-- a text is read from a state -/
inductive Reads (sm : R.Rl → R.Rl → Bool) : Int → List R.Rl → List UInt8 → List R.Rl → List UInt8 → Prop
  | stop {n l s} : (∀ told t rest r, lineOf s = some (told, t, rest) → ¬ lineOk sm n l told t r) → Reads sm n l s l s
  | go {n l s told t rest r m z} : lineOf s = some (told, t, rest) → lineOk sm n l told t r → Reads sm (sumT n t) (l ++ [r]) rest m z → Reads sm n l s m z
variable {sm : R.Rl → R.Rl → Bool}
theorem Reads.det {n : Int} {l : List R.Rl} {s : List UInt8} {m m' : List R.Rl} {z z' : List UInt8} (h : Reads sm n l s m z) (h' : Reads sm n l s m' z') : m = m' ∧ z = z' := by
  induction h with
  | stop hn =>
    cases h' with
    | stop _ => exact ⟨rfl, rfl⟩
    | go a b _ => exact absurd b (hn _ _ _ _ a)
  | go a b _ ih =>
    cases h' with
    | stop hn => exact absurd b (hn _ _ _ _ a)
    | go a' b' c' =>
      rw [a] at a'
      injection a' with a'
      injection a' with a1 a2
      injection a2 with a2 a3
      subst a1 a2 a3
      have := b.1.symm.trans b'.1
      injection this with this
      subst this
      exact ih c'
theorem lineOf_len {s told t rest : List UInt8} (h : lineOf s = some (told, t, rest)) : rest.length < s.length := by
  rw [(lineOf_some.1 h).1]
  simp
  omega
theorem Reads.ex (sm : R.Rl → R.Rl → Bool) : ∀ (k : Nat) (n : Int) (l : List R.Rl) (s : List UInt8), s.length ≤ k → ∃ m z, Reads sm n l s m z := by
  intro k
  induction k with
  | zero =>
    intro n l s hs
    refine ⟨l, s, .stop fun told t rest r h => ?_⟩
    have := lineOf_len h
    omega
  | succ k ih =>
    intro n l s hs
    by_cases h : ∃ told t rest r, lineOf s = some (told, t, rest) ∧ lineOk sm n l told t r
    · obtain ⟨told, t, rest, r, h1, h2⟩ := h
      have := lineOf_len h1
      obtain ⟨m, z, h3⟩ := ih (sumT n t) (l ++ [r]) rest (by omega)
      exact ⟨m, z, .go h1 h2 h3⟩
    · exact ⟨l, s, .stop fun told t rest r h1 h2 => h ⟨told, t, rest, r, h1, h2⟩⟩
/-- the rules of a store -/
structure Good (sm : R.Rl → R.Rl → Bool) (l : List R.Rl) : Prop where
  valid : ∀ r ∈ l, R.rvalid r = 0
  small : ∀ r ∈ l, RlS r
  apart : l.Pairwise fun q r => sm q r = false
  len : l.length ≤ 40
  short : ∀ r ∈ l, (textW r).length ≤ 200
theorem Good.nil : Good sm [] := ⟨fun _ h => (by cases h), fun _ h => (by cases h), .nil, by simp, fun _ h => (by cases h)⟩
theorem Good.snoc {l : List R.Rl} {r : R.Rl} (h : Good sm l) (hv : R.rvalid r = 0) (hs : RlS r) (hn : l.any (fun q => sm q r) = false) (hl : l.length < 40) (ht : (textW r).length ≤ 200) : Good sm (l ++ [r]) := by
  refine ⟨fun q hq => ?_, fun q hq => ?_, ?_, by simp; omega, fun q hq => ?_⟩
  · rcases List.mem_append.1 hq with hq | hq
    · exact h.valid q hq
    · rw [List.mem_singleton] at hq; subst hq; exact hv
  · rcases List.mem_append.1 hq with hq | hq
    · exact h.small q hq
    · rw [List.mem_singleton] at hq; subst hq; exact hs
  · rw [List.pairwise_append]
    refine ⟨h.apart, List.pairwise_singleton _ _, fun q hq b hb => ?_⟩
    rw [List.mem_singleton] at hb
    subst hb
    rw [List.any_eq_false] at hn
    simpa using hn q hq
  · rcases List.mem_append.1 hq with hq | hq
    · exact h.short q hq
    · rw [List.mem_singleton] at hq; subst hq; exact ht
/-- what is read is a store's rules; written again, and with the rest, they are the text -/
theorem Reads.good {n : Int} {l : List R.Rl} {s : List UInt8} {m : List R.Rl} {z : List UInt8} (h : Reads sm n l s m z) (hl : Good sm l) : Good sm m ∧ ∃ p, m = l ++ p ∧ storeFrom n p ++ z = s := by
  induction h with
  | stop _ => exact ⟨hl, [], by simp, rfl⟩
  | @go n l s told t rest r m z a b c ih =>
    obtain ⟨b1, b2, b3, b4, b5⟩ := b
    obtain ⟨p1, p2, p3⟩ := parse_some.1 b1
    obtain ⟨g, p, rfl, hp⟩ := ih (hl.snoc p1 p2 b3 b4 (by rw [p3]; exact b5))
    refine ⟨g, r :: p, by simp, ?_⟩
    rw [storeFrom, lineT, p3, (lineOf_some.1 a).1, ← hp, b2]
    simp
theorem itoa_nl (n : Int) : (10 : UInt8) ∉ itoa n := itoa_no (by decide) n
theorem itoa_sp (n : Int) : (32 : UInt8) ∉ itoa n := itoa_no (by decide) n
theorem lineOf_line (n : Int) (r : R.Rl) (A : List UInt8) : lineOf (lineT n r ++ A) = some (itoa (sumT n (textW r)), textW r, A) := by
  refine lineOf_some.2 ⟨by unfold lineT; simp, itoa_nl _, text_nl r, itoa_sp _⟩
/-- a store is read as its rules -/
theorem Reads.store {A : List UInt8} {m : List R.Rl} {z : List UInt8} : ∀ (p : List R.Rl) (n : Int) (l : List R.Rl), Good sm (l ++ p) → Reads sm (sums n p) (l ++ p) A m z → Reads sm n l (storeFrom n p ++ A) m z := by
  intro p
  induction p with
  | nil => intro n l _ h; simpa [storeFrom, sums] using h
  | cons r p ih =>
    intro n l hg h
    rw [storeFrom, List.append_assoc]
    have hr : r ∈ l ++ r :: p := by simp
    refine .go (lineOf_line n r _) (r := r) ⟨parse_text (hg.valid r hr) (hg.small r hr), rfl, ?_, ?_, hg.short r hr⟩ ?_
    · have := hg.apart
      rw [List.pairwise_append] at this
      rw [List.any_eq_false]
      intro q hq
      simp [this.2.2 q hq r (by simp)]
    · have := hg.len
      simp at this
      omega
    · refine ih _ (l ++ [r]) (by simpa using hg) ?_
      simpa [sums] using h
theorem lineOf_nil : lineOf [] = none := by unfold lineOf; simp [cut, index]
theorem Reads.whole {p : List R.Rl} (h : Good sm p) : Reads sm 0 [] (storeT p) p [] := by
  have := Reads.store (sm := sm) (A := []) (m := p) (z := []) p 0 [] (by simpa using h) (by
    simp only [List.nil_append]
    exact .stop fun told t rest r e => by rw [lineOf_nil] at e; cases e)
  simpa [storeT] using this
theorem Reads.is_store {s : List UInt8} {m : List R.Rl} {z : List UInt8} (h : Reads sm 0 [] s m z) : Good sm m ∧ storeT m ++ z = s := by
  obtain ⟨g, p, hp, e⟩ := h.good Good.nil
  simp only [List.nil_append] at hp
  subst hp
  exact ⟨g, e⟩
theorem lineT_inj {n : Int} {r q : R.Rl} {A B : List UInt8} (hr : RlS r) (hq : RlS q) (h : lineT n r ++ A = lineT n q ++ B) : r = q ∧ A = B := by
  have h1 := lineOf_line n r A
  rw [h, lineOf_line n q B] at h1
  injection h1 with h1
  injection h1 with h1 h2
  injection h2 with h2 h3
  exact ⟨(textW_inj hq hr h2).symm, h3.symm⟩
theorem lineT_ne (n : Int) (r : R.Rl) (A : List UInt8) : lineT n r ++ A ≠ [] := by unfold lineT; simp
/-- a store that begins another one has its first rules -/
theorem storeFrom_pre : ∀ (m l : List R.Rl) (n : Int) (A : List UInt8), (∀ r ∈ m, RlS r) → (∀ r ∈ l, RlS r) → storeFrom n m ++ A = storeFrom n l → m = l.take m.length ∧ m.length ≤ l.length := by
  intro m
  induction m with
  | nil => intro l n A _ _ _; simp
  | cons r m ih =>
    intro l n A hm hl h
    rw [storeFrom, List.append_assoc] at h
    cases l with
    | nil => exact absurd h (lineT_ne _ _ _)
    | cons q l =>
      rw [storeFrom] at h
      obtain ⟨rfl, h⟩ := lineT_inj (hm r (by simp)) (hl q (by simp)) h
      obtain ⟨h1, h2⟩ := ih l _ A (fun x hx => hm x (List.mem_cons_of_mem _ hx)) (fun x hx => hl x (List.mem_cons_of_mem _ hx)) h
      refine ⟨?_, by simp; omega⟩
      rw [List.length_cons, List.take_succ_cons, ← h1]

/-- one more rule, if it is not there -/
def addT (sm : R.Rl → R.Rl → Bool) (l : List R.Rl) (r : R.Rl) : List R.Rl := if l.any (fun q => sm q r) then l else l ++ [r]
def mergeT (sm : R.Rl → R.Rl → Bool) (l m : List R.Rl) : List R.Rl := m.foldl (addT sm) l
theorem addT_pre (l : List R.Rl) (r : R.Rl) : l <+: addT sm l r := by
  unfold addT
  split
  · exact List.prefix_rfl
  · exact List.prefix_append _ _
theorem mergeT_pre : ∀ (m l : List R.Rl), l <+: mergeT sm l m := by
  intro m
  induction m with
  | nil => intro l; exact List.prefix_rfl
  | cons r m ih => intro l; exact (addT_pre l r).trans (ih _)
/-- rules that are there make nothing -/
theorem mergeT_same : ∀ (m l : List R.Rl), (∀ r ∈ m, l.any (fun q => sm q r) = true) → mergeT sm l m = l := by
  intro m
  induction m with
  | nil => intro l _; rfl
  | cons r m ih =>
    intro l h
    have e : addT sm l r = l := by unfold addT; rw [if_pos (h r (by simp))]
    rw [mergeT, List.foldl_cons, e]
    exact ih l fun x hx => h x (List.mem_cons_of_mem _ hx)
theorem mergeT_len (m l : List R.Rl) : l.length ≤ (mergeT sm l m).length := (mergeT_pre m l).length_le
theorem mergeT_good {l : List R.Rl} : ∀ (m l : List R.Rl), Good sm l → (∀ r ∈ m, R.rvalid r = 0) → (∀ r ∈ m, RlS r) → (∀ r ∈ m, (textW r).length ≤ 200) → (mergeT sm l m).length ≤ 40 → Good sm (mergeT sm l m) := by
  intro m
  induction m with
  | nil => intro l h _ _ _ _; exact h
  | cons r m ih =>
    intro l h hv hs ht hl
    refine ih _ ?_ (fun x hx => hv x (List.mem_cons_of_mem _ hx)) (fun x hx => hs x (List.mem_cons_of_mem _ hx)) (fun x hx => ht x (List.mem_cons_of_mem _ hx)) hl
    have h2 := mergeT_len (sm := sm) m (addT sm l r)
    have h3 : (mergeT sm (addT sm l r) m).length ≤ 40 := hl
    unfold addT at h2 h3 ⊢
    split
    · exact h
    · rename_i hn
      rw [if_neg hn] at h2 h3
      simp only [List.length_append, List.length_singleton] at h2
      exact h.snoc (hv r (by simp)) (hs r (by simp)) (by simpa using hn) (by omega) (ht r (by simp))
/-- a store and one that begins with it -/
theorem mergeT_drop : ∀ (p l : List R.Rl), Good sm (l ++ p) → mergeT sm l p = l ++ p := by
  intro p
  induction p with
  | nil => intro l _; simp [mergeT]
  | cons r p ih =>
    intro l h
    have e : addT sm l r = l ++ [r] := by
      unfold addT
      rw [if_neg]
      intro ha
      rw [List.any_eq_true] at ha
      obtain ⟨q, hq, e⟩ := ha
      have := h.apart
      rw [List.pairwise_append] at this
      have := this.2.2 q hq r (by simp)
      rw [this] at e
      cases e
    rw [mergeT, List.foldl_cons, e]
    have := ih (l ++ [r]) (by simpa using h)
    simpa [mergeT] using this
theorem mergeT_take (refl : ∀ r, sm r r = true) {l : List R.Rl} (h : Good sm l) (k : Nat) : mergeT sm (l.take k) l = l := by
  have e : l = l.take k ++ l.drop k := (List.take_append_drop k l).symm
  have h1 : mergeT sm (l.take k) l = mergeT sm (mergeT sm (l.take k) (l.take k)) (l.drop k) := by
    conv => lhs; arg 3; rw [e]
    rw [mergeT, List.foldl_append]
    rfl
  have h2 : mergeT sm (l.take k) (l.take k) = l.take k := mergeT_same _ _ fun r hr => by rw [List.any_eq_true]; exact ⟨r, hr, refl r⟩
  rw [h1, h2, mergeT_drop _ _ (by rw [← e]; exact h), ← e]
end KT
end Go.Proofs.YtbiopedpceddeaaGreatDoor
