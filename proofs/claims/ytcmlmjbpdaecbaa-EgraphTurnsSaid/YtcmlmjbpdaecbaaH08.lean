/- Plain: what close makes of a graph: the least equivalence that joins equal operations. -/
import Derived.Test.YtcmlmjbpdaecbaaH07
set_option linter.unusedVariables false
set_option linter.unusedSimpArgs false
namespace Go.Proofs.Ytcmlmjbpdaecbaa
set_option linter.unusedVariables false
set_option linter.unusedSimpArgs false
namespace E

/-- an operand that an operation does not have, or a class -/
def ArOk (n : Nat) (a : Int) : Prop := a = -1 ∨ (0 ≤ a ∧ a < (n : Int))
def Ar (n : Nat) (x : Opn) : Prop := ArOk n x.a0 ∧ ArOk n x.a1 ∧ ArOk n x.a2
theorem ArOk.mono {n m : Nat} (h : n ≤ m) {a : Int} (k : ArOk n a) : ArOk m a := k.imp id fun k => ⟨k.1, by omega⟩
theorem Ar.mono {n m : Nat} (h : n ≤ m) {x : Opn} (k : Ar n x) : Ar m x := ⟨k.1.mono h, k.2.1.mono h, k.2.2.mono h⟩
theorem arOk_cr {p : List Nat} {a : Int} (h : ArOk p.length a) : ArOk p.length (cr p a) := by
  unfold cr
  split
  · exact h
  · rename_i h0
    rcases h with h | ⟨h1, h2⟩
    · omega
    · refine .inr ⟨by omega, ?_⟩
      have := root_lt (p := p) (c := a.toNat) (by omega)
      omega
theorem ar_can {p : List Nat} {x : Opn} (h : Ar p.length x) : Ar p.length (can p x) := ⟨arOk_cr h.1, arOk_cr h.2.1, arOk_cr h.2.2⟩

theorem join_len {p : List Nat} {a b : Nat} : (join p a b).length = p.length := by
  unfold join; split <;> simp
/-- what holds of each operation goes on to hold behind a round -/
theorem pass_all {J : Opn → Prop} {n : Nat} (hJ : ∀ p x, p.length = n → J x → J (can p x)) : ∀ (es : List (Opn × Nat)) {p : List Nat} {kn : List (Opn × Nat)}, p.length = n → (∀ k ∈ kn, J k.1) → (∀ e ∈ es, J e.1) → ∀ k ∈ (pass p kn es).2.1, J k.1 := by
  intro es
  induction es with
  | nil => intro p kn _ hk _; exact hk
  | cons e es ih =>
    intro p kn hp hk he
    have he2 := he e (List.mem_cons_self ..)
    have hes : ∀ x ∈ es, J x.1 := fun x hx => he x (List.mem_cons_of_mem _ hx)
    unfold pass
    cases hf : kn.find? (fun k => decide (k.1 = can p e.1)) with
    | none =>
      dsimp only
      refine ih hp (fun k hk' => ?_) hes
      rcases List.mem_append.1 hk' with h | h
      · exact hk k h
      · simp at h; subst h; exact hJ _ _ hp he2
    | some k =>
      dsimp only
      split
      · exact ih hp hk hes
      · exact ih (by rw [join_len]; exact hp) hk hes
/-- .. also of each operation with its class, where nothing was made one -/
theorem pass_cls : ∀ (es : List (Opn × Nat)) {p : List Nat} {kn : List (Opn × Nat)}, Down p → (∀ k ∈ kn, root p k.2 = k.2) → (pass p kn es).2.2 = false → ∀ k ∈ (pass p kn es).2.1, root p k.2 = k.2 := by
  intro es
  induction es with
  | nil => intro p kn _ hk _; exact hk
  | cons e es ih =>
    intro p kn hd hk
    unfold pass
    cases hf : kn.find? (fun k => decide (k.1 = can p e.1)) with
    | none =>
      dsimp only
      refine ih hd (fun k hk' => ?_)
      rcases List.mem_append.1 hk' with h | h
      · exact hk k h
      · simp at h; subst h; exact root_root hd _
    | some k =>
      dsimp only
      split
      · exact ih hd hk
      · intro h; cases h

/-- between two rounds of close -/
structure Mid (p : List Nat) (es : List (Opn × Nat)) (p1 : List Nat) (es1 : List (Opn × Nat)) : Prop where
  down : Down p1
  len : p1.length = p.length
  inn : In p1 es1
  coarse : Coarse p p1
  rep : ∀ e ∈ es, ∃ k ∈ es1, can p1 k.1 = can p1 e.1 ∧ root p1 k.2 = root p1 e.2
  sound : ∀ (R : Nat → Nat → Prop) (E0 : List (Opn × Nat)), Eqv R → Cong R E0 → Sound R p → (∀ e ∈ es, Good R E0 e) → Sound R p1 ∧ ∀ k ∈ es1, Good R E0 k
  ar : (∀ e ∈ es, Ar p.length e.1) → ∀ k ∈ es1, Ar p1.length k.1
theorem Mid.start {p : List Nat} {es : List (Opn × Nat)} (hd : Down p) (hi : In p es) : Mid p es p es :=
  ⟨hd, rfl, hi, Coarse.rfl_ p, fun e he => ⟨e, he, rfl, rfl⟩, fun R E0 _ _ hs hg => ⟨hs, hg⟩, fun h => h⟩
theorem Mid.step {p : List Nat} {es : List (Opn × Nat)} {p1 : List Nat} {es1 : List (Opn × Nat)} (h : Mid p es p1 es1) : Mid p es (pass p1 [] es1).1 (pass p1 [] es1).2.1 := by
  have t := pass_told es1 (p := p1) (kn := []) h.down (fun e he => by cases he) h.inn
  refine ⟨t.down, t.len.trans h.len, t.inn, h.coarse.trans t.coarse, fun e he => ?_, fun R E0 hq hc hs hg => ?_, fun ha => ?_⟩
  · obtain ⟨k, hk, k1, k2⟩ := h.rep e he
    obtain ⟨m, hm, m1, m2⟩ := t.rep k (.inr hk)
    exact ⟨m, hm, m1.trans (t.coarse.can k1), m2.trans (t.coarse _ _ k2)⟩
  · obtain ⟨s1, s2⟩ := h.sound R E0 hq hc hs hg
    exact pass_sound hq hc es1 h.down (fun e he => by cases he) h.inn s1 (fun e he => by cases he) s2
  · rw [t.len]
    exact pass_all (n := p1.length) (fun q x hq hx => by rw [← hq] at hx ⊢; exact ar_can hx) es1 rfl (fun e he => by cases he) (h.ar ha)
/-- behind close -/
structure Shut (p : List Nat) (es : List (Opn × Nat)) (p1 : List Nat) (es1 : List (Opn × Nat)) : Prop where
  mid : Mid p es p1 es1
  nd : (es1.map Prod.fst).Nodup
  keys : ∀ k ∈ es1, can p1 k.1 = k.1
  cls : ∀ k ∈ es1, root p1 k.2 = k.2
theorem Mid.last {p : List Nat} {es : List (Opn × Nat)} {p1 : List Nat} {es1 : List (Opn × Nat)} (h : Mid p es p1 es1) (hq : (pass p1 [] es1).2.2 = false) : Shut p es (pass p1 [] es1).1 (pass p1 [] es1).2.1 := by
  obtain ⟨q1, q2, q3⟩ := pass_quiet es1 (p := p1) (kn := []) h.down List.nodup_nil (fun e he => by cases he) hq
  refine ⟨h.step, q2, ?_, ?_⟩
  · rw [q1]; exact q3
  · rw [q1]; exact pass_cls es1 h.down (fun e he => by cases he) hq

/-- the least equivalence that joins equal operations and holds what was told -/
def Least (E0 : List (Opn × Nat)) (P : Nat → Nat → Prop) (a b : Nat) : Prop := ∀ R, Eqv R → Cong R E0 → (∀ x y, P x y → R x y) → R a b
theorem rel_all {R : (Nat → Nat → Prop) → Prop} {a b : Int} (h0 : ∃ S, R S) (h : ∀ S, R S → Rel S a b) : Rel (fun x y => ∀ S, R S → S x y) a b := by
  obtain ⟨S0, hS0⟩ := h0
  rcases h S0 hS0 with ⟨h1, h2⟩ | ⟨h1, h2, _⟩
  · exact .inl ⟨h1, h2⟩
  · refine .inr ⟨h1, h2, fun S hS => ?_⟩
    rcases h S hS with ⟨h3, _⟩ | ⟨_, _, h3⟩
    · omega
    · exact h3
theorem Rel.mono {R S : Nat → Nat → Prop} (h : ∀ x y, R x y → S x y) {a b : Int} (r : Rel R a b) : Rel S a b := r.imp id fun r => ⟨r.1, r.2.1, h _ _ r.2.2⟩
theorem Sim.mono {R S : Nat → Nat → Prop} (h : ∀ x y, R x y → S x y) {a b : Opn} (r : Sim R a b) : Sim S a b := ⟨r.1, r.2.1.mono h, r.2.2.1.mono h, r.2.2.2.mono h⟩
section
variable {E0 : List (Opn × Nat)} {P : Nat → Nat → Prop}
theorem least_eqv : Eqv (Least E0 P) :=
  ⟨fun a R hq _ _ => hq.refl a, fun a b h R hq hc hp => hq.symm _ _ (h R hq hc hp), fun a b c h k R hq hc hp => hq.trans _ _ _ (h R hq hc hp) (k R hq hc hp)⟩
theorem least_cong : Cong (Least E0 P) E0 := fun y hy z hz h R hq hc hp => hc y hy z hz (h.mono fun _ _ h => h R hq hc hp)
theorem least_base {x y : Nat} (h : P x y) : Least E0 P x y := fun R _ _ hp => hp x y h
end

/-- the parents p and the operations es hold what follows of P over the operations E0 -/
structure Holds (E0 : List (Opn × Nat)) (P : Nat → Nat → Prop) (p : List Nat) (es : List (Opn × Nat)) : Prop where
  down : Down p
  inn : In p es
  eq : ∀ a b, Eq1 p a b ↔ Least E0 P a b
  rep : ∀ e ∈ E0, ∃ k ∈ es, can p k.1 = can p e.1 ∧ root p k.2 = root p e.2
  good : ∀ (R : Nat → Nat → Prop), Eqv R → Cong R E0 → (∀ x y, P x y → R x y) → ∀ k ∈ es, Good R E0 k
  nd : (es.map Prod.fst).Nodup
  keys : ∀ k ∈ es, can p k.1 = k.1

theorem sound_of {R : Nat → Nat → Prop} {p : List Nat} (hd : Down p) (h : ∀ a b, Eq1 p a b → R a b) : Sound R p := fun c => h _ _ (root_root hd c).symm
theorem eq1_of_sound {R : Nat → Nat → Prop} {p : List Nat} (hq : Eqv R) (h : Sound R p) {a b : Nat} (e : Eq1 p a b) : R a b := by
  have h1 := h a
  have h2 := h b
  rw [show root p a = root p b from e] at h1
  exact hq.trans _ _ _ h1 (hq.symm _ _ h2)
theorem sound_join {R : Nat → Nat → Prop} {p : List Nat} (hq : Eqv R) (hd : Down p) (hs : Sound R p) {a b : Nat} (ha : a < p.length) (hb : b < p.length) (hr : R a b) : Sound R (join p a b) := fun c => by
  obtain ⟨_, _, hj⟩ := join_spec hd ha hb
  rw [hj c]
  have hab : R (root p a) (root p b) := hq.trans _ _ _ (hq.symm _ _ (hs a)) (hq.trans _ _ _ hr (hs b))
  split
  · rename_i e
    have h1 := hs c
    rw [e] at h1
    refine hq.trans _ _ _ h1 ?_
    rcases Nat.le_total (root p a) (root p b) with h | h
    · rw [Nat.max_eq_right h, Nat.min_eq_left h]; exact hq.symm _ _ hab
    · rw [Nat.max_eq_left h, Nat.min_eq_right h]; exact hab
  · exact hs c

theorem Holds.unite {E0 : List (Opn × Nat)} {P : Nat → Nat → Prop} {p : List Nat} {es : List (Opn × Nat)} (h : Holds E0 P p es) {a b : Nat} (ha : a < p.length) (hb : b < p.length) {p1 : List Nat} {es1 : List (Opn × Nat)} (hs : Shut (join p a b) es p1 es1) :
    Holds E0 (fun x y => P x y ∨ (x = a ∧ y = b)) p1 es1 := by
  obtain ⟨jd, jl, _⟩ := join_spec h.down ha hb
  obtain ⟨jc, je⟩ := join_coarse h.down ha hb
  have hcp : Coarse p p1 := jc.trans hs.mid.coarse
  have hrep : ∀ e ∈ E0, ∃ k ∈ es1, can p1 k.1 = can p1 e.1 ∧ root p1 k.2 = root p1 e.2 := fun e he => by
    obtain ⟨k, hk, k1, k2⟩ := h.rep e he
    obtain ⟨m, hm, m1, m2⟩ := hs.mid.rep k hk
    exact ⟨m, hm, m1.trans (hcp.can k1), m2.trans (hcp _ _ k2)⟩
  have hsnd : ∀ (R : Nat → Nat → Prop), Eqv R → Cong R E0 → (∀ x y, P x y ∨ (x = a ∧ y = b) → R x y) → Sound R p1 ∧ ∀ k ∈ es1, Good R E0 k := fun R hq hc hp => by
    have s1 : Sound R p := sound_of h.down fun x y e => (h.eq x y).1 e R hq hc fun x y k => hp x y (.inl k)
    have s2 := sound_join hq h.down s1 ha hb (hp a b (.inr ⟨rfl, rfl⟩))
    exact hs.mid.sound R E0 hq hc s2 (h.good R hq hc fun x y k => hp x y (.inl k))
  refine ⟨hs.mid.down, hs.mid.inn, fun x y => ⟨fun e R hq hc hp => eq1_of_sound hq (hsnd R hq hc hp).1 e, fun l => ?_⟩, hrep, fun R hq hc hp => (hsnd R hq hc hp).2, hs.nd, hs.keys⟩
  refine l (Eq1 p1) (eq1_eqv p1) (quiet_cong hrep hs.nd hs.keys) fun x y hxy => ?_
  rcases hxy with hxy | ⟨rfl, rfl⟩
  · exact hcp x y ((h.eq x y).2 (least_base hxy))
  · exact hs.mid.coarse x y je

theorem Holds.cong {E0 : List (Opn × Nat)} {P : Nat → Nat → Prop} {p : List Nat} {es : List (Opn × Nat)} (h : Holds E0 P p es) : Cong (Eq1 p) E0 := quiet_cong h.rep h.nd h.keys
/-- each operation that is left is one of the first ones -/
theorem Holds.key {E0 : List (Opn × Nat)} {P : Nat → Nat → Prop} {p : List Nat} {es : List (Opn × Nat)} (h : Holds E0 P p es) {k : Opn × Nat} (hk : k ∈ es) : ∃ y ∈ E0, k.1 = can p y.1 := by
  obtain ⟨y, hy, s, _⟩ := h.good (Eq1 p) (eq1_eqv p) h.cong (fun x y k => (h.eq x y).2 (least_base k)) k hk
  exact ⟨y, hy, by rw [← h.keys k hk]; exact can_of_sim s⟩

/-- before the first union: each operation is a class of its own -/
theorem holds_start {E0 : List (Opn × Nat)} {p : List Nat} (hp : ∀ c, root p c = c) (hd : Down p) (hi : In p E0) (hn : (E0.map Prod.fst).Nodup) : Holds E0 (fun _ _ => False) p E0 := by
  have hcan : ∀ x : Opn, can p x = x := fun x => by
    have hc : ∀ a : Int, cr p a = a := fun a => by
      unfold cr
      split
      · rfl
      · rw [hp]; omega
    unfold can
    rw [hc, hc, hc]
  refine ⟨hd, hi, fun a b => ⟨fun e => ?_, fun l => ?_⟩, fun e he => ⟨e, he, rfl, rfl⟩, fun R hq _ _ k hk => ?_, hn, fun k _ => hcan _⟩
  · have : a = b := by have e' : root p a = root p b := e; rwa [hp, hp] at e'
    subst this
    exact fun R hq _ _ => hq.refl a
  · refine l (Eq1 p) (eq1_eqv p) (fun y hy z hz h => ?_) (fun _ _ h => h.elim)
    have e := can_of_sim h
    rw [hcan, hcan] at e
    rw [key_one hn y hy z hz e]
    exact rfl
  · have hr : ∀ a : Int, Rel R a a := fun a => by
      rcases Int.lt_or_le a 0 with h | h
      · exact .inl ⟨h, rfl⟩
      · exact .inr ⟨h, h, hq.refl _⟩
    exact ⟨k, hk, ⟨⟨rfl, rfl, rfl⟩, hr _, hr _, hr _⟩, hq.refl _⟩
theorem Holds.iff {E0 : List (Opn × Nat)} {P Q : Nat → Nat → Prop} {p : List Nat} {es : List (Opn × Nat)} (h : Holds E0 P p es) (e : ∀ x y, P x y ↔ Q x y) : Holds E0 Q p es := by
  have : P = Q := by funext x y; exact propext (e x y)
  exact this ▸ h
end E
end Go.Proofs.Ytcmlmjbpdaecbaa
