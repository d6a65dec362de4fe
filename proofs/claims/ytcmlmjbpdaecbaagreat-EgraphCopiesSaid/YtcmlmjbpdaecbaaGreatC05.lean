/- Merged: PlainE8, PlainE9. -/
import Derived.Test.YtcmlmjbpdaecbaaGreatC04
set_option linter.unusedVariables false
set_option linter.unusedSimpArgs false
section
namespace Go.Proofs.YtcmlmjbpdaecbaaGreat
set_option linter.unusedVariables false
set_option linter.unusedSimpArgs false
namespace E

/-- an operand that an operation does not have, or a class -/
def ArOk (n : Nat) (a : Int) : Prop := a = -1 ∨ (0 ≤ a ∧ a < (n : Int))
def Ar (n : Nat) (x : Opn) : Prop := ArOk n x.a0 ∧ ArOk n x.a1 ∧ ArOk n x.a2
theorem ArOk.mono {n m : Nat} (h : n ≤ m) {a : Int} (k : ArOk n a) : ArOk m a := k.imp id fun k => ⟨k.1, by omega⟩
theorem Ar.mono {n m : Nat} (h : n ≤ m) {x : Opn} (k : Ar n x) : Ar m x := ⟨k.1.mono h, k.2.1.mono h, k.2.2.mono h⟩
theorem arOk_cr {p : List Nat} {a : Int} (h : ArOk p.length a) : ArOk p.length (cr p a) := by
  unfold cr
  split
  · exact h
  · rename_i h0
    rcases h with h | ⟨h1, h2⟩
    · omega
    · refine .inr ⟨by omega, ?_⟩
      have := root_lt (p := p) (c := a.toNat) (by omega)
      omega
theorem ar_can {p : List Nat} {x : Opn} (h : Ar p.length x) : Ar p.length (can p x) := ⟨arOk_cr h.1, arOk_cr h.2.1, arOk_cr h.2.2⟩

theorem join_len {p : List Nat} {a b : Nat} : (join p a b).length = p.length := by
  unfold join; split <;> simp
/-- what holds of each operation goes on to hold behind a round -/
theorem pass_all {J : Opn → Prop} {n : Nat} (hJ : ∀ p x, p.length = n → J x → J (can p x)) : ∀ (es : List (Opn × Nat)) {p : List Nat} {kn : List (Opn × Nat)}, p.length = n → (∀ k ∈ kn, J k.1) → (∀ e ∈ es, J e.1) → ∀ k ∈ (pass p kn es).2.1, J k.1 := by
  intro es
  induction es with
  | nil => intro p kn _ hk _; exact hk
  | cons e es ih =>
    intro p kn hp hk he
    have he2 := he e (List.mem_cons_self ..)
    have hes : ∀ x ∈ es, J x.1 := fun x hx => he x (List.mem_cons_of_mem _ hx)
    unfold pass
    cases hf : kn.find? (fun k => decide (k.1 = can p e.1)) with
    | none =>
      dsimp only
      refine ih hp (fun k hk' => ?_) hes
      rcases List.mem_append.1 hk' with h | h
      · exact hk k h
      · simp at h; subst h; exact hJ _ _ hp he2
    | some k =>
      dsimp only
      split
      · exact ih hp hk hes
      · exact ih (by rw [join_len]; exact hp) hk hes
/-- .. also of each operation with its class, where nothing was made one -/
theorem pass_cls : ∀ (es : List (Opn × Nat)) {p : List Nat} {kn : List (Opn × Nat)}, Down p → (∀ k ∈ kn, root p k.2 = k.2) → (pass p kn es).2.2 = false → ∀ k ∈ (pass p kn es).2.1, root p k.2 = k.2 := by
  intro es
  induction es with
  | nil => intro p kn _ hk _; exact hk
  | cons e es ih =>
    intro p kn hd hk
    unfold pass
    cases hf : kn.find? (fun k => decide (k.1 = can p e.1)) with
    | none =>
      dsimp only
      refine ih hd (fun k hk' => ?_)
      rcases List.mem_append.1 hk' with h | h
      · exact hk k h
      · simp at h; subst h; exact root_root hd _
    | some k =>
      dsimp only
      split
      · exact ih hd hk
      · intro h; cases h

/-- between two rounds of close -/
structure Mid (p : List Nat) (es : List (Opn × Nat)) (p1 : List Nat) (es1 : List (Opn × Nat)) : Prop where
  down : Down p1
  len : p1.length = p.length
  inn : In p1 es1
  coarse : Coarse p p1
  rep : ∀ e ∈ es, ∃ k ∈ es1, can p1 k.1 = can p1 e.1 ∧ root p1 k.2 = root p1 e.2
  sound : ∀ (R : Nat → Nat → Prop) (E0 : List (Opn × Nat)), Eqv R → Cong R E0 → Sound R p → (∀ e ∈ es, Good R E0 e) → Sound R p1 ∧ ∀ k ∈ es1, Good R E0 k
  ar : (∀ e ∈ es, Ar p.length e.1) → ∀ k ∈ es1, Ar p1.length k.1
theorem Mid.start {p : List Nat} {es : List (Opn × Nat)} (hd : Down p) (hi : In p es) : Mid p es p es :=
  ⟨hd, rfl, hi, Coarse.rfl_ p, fun e he => ⟨e, he, rfl, rfl⟩, fun R E0 _ _ hs hg => ⟨hs, hg⟩, fun h => h⟩
theorem Mid.step {p : List Nat} {es : List (Opn × Nat)} {p1 : List Nat} {es1 : List (Opn × Nat)} (h : Mid p es p1 es1) : Mid p es (pass p1 [] es1).1 (pass p1 [] es1).2.1 := by
  have t := pass_told es1 (p := p1) (kn := []) h.down (fun e he => by cases he) h.inn
  refine ⟨t.down, t.len.trans h.len, t.inn, h.coarse.trans t.coarse, fun e he => ?_, fun R E0 hq hc hs hg => ?_, fun ha => ?_⟩
  · obtain ⟨k, hk, k1, k2⟩ := h.rep e he
    obtain ⟨m, hm, m1, m2⟩ := t.rep k (.inr hk)
    exact ⟨m, hm, m1.trans (t.coarse.can k1), m2.trans (t.coarse _ _ k2)⟩
  · obtain ⟨s1, s2⟩ := h.sound R E0 hq hc hs hg
    exact pass_sound hq hc es1 h.down (fun e he => by cases he) h.inn s1 (fun e he => by cases he) s2
  · rw [t.len]
    exact pass_all (n := p1.length) (fun q x hq hx => by rw [← hq] at hx ⊢; exact ar_can hx) es1 rfl (fun e he => by cases he) (h.ar ha)
/-- behind close -/
structure Shut (p : List Nat) (es : List (Opn × Nat)) (p1 : List Nat) (es1 : List (Opn × Nat)) : Prop where
  mid : Mid p es p1 es1
  nd : (es1.map Prod.fst).Nodup
  keys : ∀ k ∈ es1, can p1 k.1 = k.1
  cls : ∀ k ∈ es1, root p1 k.2 = k.2
theorem Mid.last {p : List Nat} {es : List (Opn × Nat)} {p1 : List Nat} {es1 : List (Opn × Nat)} (h : Mid p es p1 es1) (hq : (pass p1 [] es1).2.2 = false) : Shut p es (pass p1 [] es1).1 (pass p1 [] es1).2.1 := by
  obtain ⟨q1, q2, q3⟩ := pass_quiet es1 (p := p1) (kn := []) h.down List.nodup_nil (fun e he => by cases he) hq
  refine ⟨h.step, q2, ?_, ?_⟩
  · rw [q1]; exact q3
  · rw [q1]; exact pass_cls es1 h.down (fun e he => by cases he) hq

/-- the least equivalence that joins equal operations and holds what was told -/
def Least (E0 : List (Opn × Nat)) (P : Nat → Nat → Prop) (a b : Nat) : Prop := ∀ R, Eqv R → Cong R E0 → (∀ x y, P x y → R x y) → R a b
theorem rel_all {R : (Nat → Nat → Prop) → Prop} {a b : Int} (h0 : ∃ S, R S) (h : ∀ S, R S → Rel S a b) : Rel (fun x y => ∀ S, R S → S x y) a b := by
  obtain ⟨S0, hS0⟩ := h0
  rcases h S0 hS0 with ⟨h1, h2⟩ | ⟨h1, h2, _⟩
  · exact .inl ⟨h1, h2⟩
  · refine .inr ⟨h1, h2, fun S hS => ?_⟩
    rcases h S hS with ⟨h3, _⟩ | ⟨_, _, h3⟩
    · omega
    · exact h3
theorem Rel.mono {R S : Nat → Nat → Prop} (h : ∀ x y, R x y → S x y) {a b : Int} (r : Rel R a b) : Rel S a b := r.imp id fun r => ⟨r.1, r.2.1, h _ _ r.2.2⟩
theorem Sim.mono {R S : Nat → Nat → Prop} (h : ∀ x y, R x y → S x y) {a b : Opn} (r : Sim R a b) : Sim S a b := ⟨r.1, r.2.1.mono h, r.2.2.1.mono h, r.2.2.2.mono h⟩
section
variable {E0 : List (Opn × Nat)} {P : Nat → Nat → Prop}
theorem least_eqv : Eqv (Least E0 P) :=
  ⟨fun a R hq _ _ => hq.refl a, fun a b h R hq hc hp => hq.symm _ _ (h R hq hc hp), fun a b c h k R hq hc hp => hq.trans _ _ _ (h R hq hc hp) (k R hq hc hp)⟩
theorem least_cong : Cong (Least E0 P) E0 := fun y hy z hz h R hq hc hp => hc y hy z hz (h.mono fun _ _ h => h R hq hc hp)
theorem least_base {x y : Nat} (h : P x y) : Least E0 P x y := fun R _ _ hp => hp x y h
end

/-- the parents p and the operations es hold what follows of P over the operations E0 -/
structure Holds (E0 : List (Opn × Nat)) (P : Nat → Nat → Prop) (p : List Nat) (es : List (Opn × Nat)) : Prop where
  down : Down p
  inn : In p es
  eq : ∀ a b, Eq1 p a b ↔ Least E0 P a b
  rep : ∀ e ∈ E0, ∃ k ∈ es, can p k.1 = can p e.1 ∧ root p k.2 = root p e.2
  good : ∀ (R : Nat → Nat → Prop), Eqv R → Cong R E0 → (∀ x y, P x y → R x y) → ∀ k ∈ es, Good R E0 k
  nd : (es.map Prod.fst).Nodup
  keys : ∀ k ∈ es, can p k.1 = k.1

theorem sound_of {R : Nat → Nat → Prop} {p : List Nat} (hd : Down p) (h : ∀ a b, Eq1 p a b → R a b) : Sound R p := fun c => h _ _ (root_root hd c).symm
theorem eq1_of_sound {R : Nat → Nat → Prop} {p : List Nat} (hq : Eqv R) (h : Sound R p) {a b : Nat} (e : Eq1 p a b) : R a b := by
  have h1 := h a
  have h2 := h b
  rw [show root p a = root p b from e] at h1
  exact hq.trans _ _ _ h1 (hq.symm _ _ h2)
theorem sound_join {R : Nat → Nat → Prop} {p : List Nat} (hq : Eqv R) (hd : Down p) (hs : Sound R p) {a b : Nat} (ha : a < p.length) (hb : b < p.length) (hr : R a b) : Sound R (join p a b) := fun c => by
  obtain ⟨_, _, hj⟩ := join_spec hd ha hb
  rw [hj c]
  have hab : R (root p a) (root p b) := hq.trans _ _ _ (hq.symm _ _ (hs a)) (hq.trans _ _ _ hr (hs b))
  split
  · rename_i e
    have h1 := hs c
    rw [e] at h1
    refine hq.trans _ _ _ h1 ?_
    rcases Nat.le_total (root p a) (root p b) with h | h
    · rw [Nat.max_eq_right h, Nat.min_eq_left h]; exact hq.symm _ _ hab
    · rw [Nat.max_eq_left h, Nat.min_eq_right h]; exact hab
  · exact hs c

theorem Holds.unite {E0 : List (Opn × Nat)} {P : Nat → Nat → Prop} {p : List Nat} {es : List (Opn × Nat)} (h : Holds E0 P p es) {a b : Nat} (ha : a < p.length) (hb : b < p.length) {p1 : List Nat} {es1 : List (Opn × Nat)} (hs : Shut (join p a b) es p1 es1) :
    Holds E0 (fun x y => P x y ∨ (x = a ∧ y = b)) p1 es1 := by
  obtain ⟨jd, jl, _⟩ := join_spec h.down ha hb
  obtain ⟨jc, je⟩ := join_coarse h.down ha hb
  have hcp : Coarse p p1 := jc.trans hs.mid.coarse
  have hrep : ∀ e ∈ E0, ∃ k ∈ es1, can p1 k.1 = can p1 e.1 ∧ root p1 k.2 = root p1 e.2 := fun e he => by
    obtain ⟨k, hk, k1, k2⟩ := h.rep e he
    obtain ⟨m, hm, m1, m2⟩ := hs.mid.rep k hk
    exact ⟨m, hm, m1.trans (hcp.can k1), m2.trans (hcp _ _ k2)⟩
  have hsnd : ∀ (R : Nat → Nat → Prop), Eqv R → Cong R E0 → (∀ x y, P x y ∨ (x = a ∧ y = b) → R x y) → Sound R p1 ∧ ∀ k ∈ es1, Good R E0 k := fun R hq hc hp => by
    have s1 : Sound R p := sound_of h.down fun x y e => (h.eq x y).1 e R hq hc fun x y k => hp x y (.inl k)
    have s2 := sound_join hq h.down s1 ha hb (hp a b (.inr ⟨rfl, rfl⟩))
    exact hs.mid.sound R E0 hq hc s2 (h.good R hq hc fun x y k => hp x y (.inl k))
  refine ⟨hs.mid.down, hs.mid.inn, fun x y => ⟨fun e R hq hc hp => eq1_of_sound hq (hsnd R hq hc hp).1 e, fun l => ?_⟩, hrep, fun R hq hc hp => (hsnd R hq hc hp).2, hs.nd, hs.keys⟩
  refine l (Eq1 p1) (eq1_eqv p1) (quiet_cong hrep hs.nd hs.keys) fun x y hxy => ?_
  rcases hxy with hxy | ⟨rfl, rfl⟩
  · exact hcp x y ((h.eq x y).2 (least_base hxy))
  · exact hs.mid.coarse x y je

theorem Holds.cong {E0 : List (Opn × Nat)} {P : Nat → Nat → Prop} {p : List Nat} {es : List (Opn × Nat)} (h : Holds E0 P p es) : Cong (Eq1 p) E0 := quiet_cong h.rep h.nd h.keys
/-- each operation that is left is one of the first ones -/
theorem Holds.key {E0 : List (Opn × Nat)} {P : Nat → Nat → Prop} {p : List Nat} {es : List (Opn × Nat)} (h : Holds E0 P p es) {k : Opn × Nat} (hk : k ∈ es) : ∃ y ∈ E0, k.1 = can p y.1 := by
  obtain ⟨y, hy, s, _⟩ := h.good (Eq1 p) (eq1_eqv p) h.cong (fun x y k => (h.eq x y).2 (least_base k)) k hk
  exact ⟨y, hy, by rw [← h.keys k hk]; exact can_of_sim s⟩

/-- before the first union: each operation is a class of its own -/
theorem holds_start {E0 : List (Opn × Nat)} {p : List Nat} (hp : ∀ c, root p c = c) (hd : Down p) (hi : In p E0) (hn : (E0.map Prod.fst).Nodup) : Holds E0 (fun _ _ => False) p E0 := by
  have hcan : ∀ x : Opn, can p x = x := fun x => by
    have hc : ∀ a : Int, cr p a = a := fun a => by
      unfold cr
      split
      · rfl
      · rw [hp]; omega
    unfold can
    rw [hc, hc, hc]
  refine ⟨hd, hi, fun a b => ⟨fun e => ?_, fun l => ?_⟩, fun e he => ⟨e, he, rfl, rfl⟩, fun R hq _ _ k hk => ?_, hn, fun k _ => hcan _⟩
  · have : a = b := by have e' : root p a = root p b := e; rwa [hp, hp] at e'
    subst this
    exact fun R hq _ _ => hq.refl a
  · refine l (Eq1 p) (eq1_eqv p) (fun y hy z hz h => ?_) (fun _ _ h => h.elim)
    have e := can_of_sim h
    rw [hcan, hcan] at e
    rw [key_one hn y hy z hz e]
    exact rfl
  · have hr : ∀ a : Int, Rel R a a := fun a => by
      rcases Int.lt_or_le a 0 with h | h
      · exact .inl ⟨h, rfl⟩
      · exact .inr ⟨h, h, hq.refl _⟩
    exact ⟨k, hk, ⟨⟨rfl, rfl, rfl⟩, hr _, hr _, hr _⟩, hq.refl _⟩
theorem Holds.iff {E0 : List (Opn × Nat)} {P Q : Nat → Nat → Prop} {p : List Nat} {es : List (Opn × Nat)} (h : Holds E0 P p es) (e : ∀ x y, P x y ↔ Q x y) : Holds E0 Q p es := by
  have : P = Q := by funext x y; exact propext (e x y)
  exact this ▸ h
end E
end Go.Proofs.YtcmlmjbpdaecbaaGreat
end
section
namespace Go.Proofs.YtcmlmjbpdaecbaaGreat
set_option linter.unusedVariables false
set_option linter.unusedSimpArgs false
namespace E

/-- the operation of a node -/
def opn (x : T.Nd) : Opn := ⟨x.op, x.w, x.imm, x.args.getD 0 (-1), x.args.getD 1 (-1), x.args.getD 2 (-1)⟩
def opsF : Nat → List T.Nd → List (Opn × Nat)
  | _, [] => []
  | k, x :: l => (opn x, k) :: opsF (k + 1) l
/-- the operations of nodes, each with its number -/
def ops (out : List T.Nd) : List (Opn × Nat) := opsF 0 out
theorem mem_opsF {l : List T.Nd} {k : Nat} {e : Opn × Nat} : e ∈ opsF k l ↔ ∃ i x, l[i]? = some x ∧ e = (opn x, k + i) := by
  induction l generalizing k with
  | nil => simp [opsF]
  | cons y l ih =>
    unfold opsF
    rw [List.mem_cons, ih]
    constructor
    · rintro (rfl | ⟨i, x, h1, rfl⟩)
      · exact ⟨0, y, rfl, by simp⟩
      · exact ⟨i + 1, x, by simpa using h1, by rw [show k + 1 + i = k + (i + 1) by omega]⟩
    · rintro ⟨i, x, h1, rfl⟩
      cases i with
      | zero => simp at h1; subst h1; exact .inl (by simp)
      | succ i => exact .inr ⟨i, x, by simpa using h1, by rw [show k + 1 + i = k + (i + 1) by omega]⟩
theorem mem_ops {l : List T.Nd} {e : Opn × Nat} : e ∈ ops l ↔ ∃ i x, l[i]? = some x ∧ e = (opn x, i) := by
  unfold ops
  rw [mem_opsF]
  simp
theorem opsF_app (l m : List T.Nd) : ∀ k, opsF k (l ++ m) = opsF k l ++ opsF (k + l.length) m := by
  induction l with
  | nil => intro k; simp [opsF]
  | cons x l ih => intro k; simp only [List.cons_append, opsF, ih, List.length_cons]; rw [show k + 1 + l.length = k + (l.length + 1) by omega]
theorem ops_len (l : List T.Nd) : (ops l).length = l.length := by
  have : ∀ k, (opsF k l).length = l.length := by
    induction l with
    | nil => intro k; rfl
    | cons x l ih => intro k; simp [opsF, ih]
  exact this 0

/-- a list of nodes without equal ones, each operand ahead -/
structure Wl (out : List T.Nd) : Prop where
  nd : out.Nodup
  ord : T.Ord out
  len : ∀ x ∈ out, x.args.length ≤ 3
  fl : ∀ x ∈ out, x.fl = 0

theorem rep_inj {out : List T.Nd} (hn : out.Nodup) {la lb : List Int} {f : T.F} (r : T.Rep out la f) (s : T.Rep out lb f) : la = lb := by
  have h1 := T.cnn_stable hn r
  have h2 := T.cnn_stable hn s
  rw [h1] at h2
  exact congrArg Prod.snd h2

/-- two nodes that stand for one tree -/
def Tw (og oh : List T.Nd) (i j : Nat) : Prop := ∃ f, T.Rep og [(i : Int)] f ∧ T.Rep oh [(j : Int)] f
theorem Tw.symm {og oh : List T.Nd} {i j : Nat} (h : Tw og oh i j) : Tw oh og j i := let ⟨f, a, b⟩ := h; ⟨f, b, a⟩
theorem Tw.fun_ {og oh : List T.Nd} (hn : oh.Nodup) {i j k : Nat} (h : Tw og oh i j) (h2 : Tw og oh i k) : j = k := by
  obtain ⟨f, a, b⟩ := h
  obtain ⟨g, c, d⟩ := h2
  have := a.det c
  subst this
  have := rep_inj hn b d
  simp at this
  omega
theorem Tw.lt {og oh : List T.Nd} {i j : Nat} (h : Tw og oh i j) : i < og.length ∧ j < oh.length := by
  obtain ⟨f, a, b⟩ := h
  have key : ∀ (o : List T.Nd) (k : Nat), T.Rep o [(k : Int)] f → k < o.length := fun o k r => by
    cases r with
    | cons h0 hx hk hr => have h1 := (List.getElem?_eq_some_iff.1 hx).1; simpa using h1
  exact ⟨key _ _ a, key _ _ b⟩
theorem rep_two {og oh : List T.Nd} {la : List Int} {f : T.F} (r : T.Rep og la f) : ∀ {lb : List Int}, T.Rep oh lb f → la.length = lb.length ∧ ∀ (k : Nat) (a : Int), la[k]? = some a → ∃ b, lb[k]? = some b ∧ 0 ≤ a ∧ 0 ≤ b ∧ Tw og oh a.toNat b.toNat := by
  induction r with
  | nil => intro lb s; cases s; exact ⟨rfl, fun k a h => by simp at h⟩
  | @cons a la x kids rest h0 hx hk hr _ ih =>
    intro lb s
    generalize he : T.F.cons x.op x.w x.fl x.imm kids rest = g at s
    cases s with
    | nil => cases he
    | @cons b lb y kids' rest' h0' hx' hk' hr' =>
      injection he with e1 e2 e3 e4 e5 e6
      subst e5 e6
      obtain ⟨i1, i2⟩ := ih hr'
      refine ⟨by simp [i1], fun k c hc => ?_⟩
      cases k with
      | zero =>
        simp at hc
        subst hc
        refine ⟨b, rfl, h0, h0', .cons x.op x.w x.fl x.imm kids .nil, ?_, ?_⟩
        · rw [Int.toNat_of_nonneg h0]; exact .cons h0 hx hk .nil
        · rw [Int.toNat_of_nonneg h0', e1, e2, e3, e4]; exact .cons h0' hx' hk' .nil
      | succ k =>
        obtain ⟨d, d1, d2⟩ := i2 k c (by simpa using hc)
        exact ⟨d, by simpa using d1, d2⟩
/-- their operations are equal, and their operands stand for equal trees -/
theorem Tw.node {og oh : List T.Nd} {i j : Nat} (h : Tw og oh i j) : ∃ x y, og[i]? = some x ∧ oh[j]? = some y ∧ (x.op = y.op ∧ x.w = y.w ∧ x.imm = y.imm) ∧ x.args.length = y.args.length ∧ ∀ (k : Nat) (a : Int), x.args[k]? = some a → ∃ b, y.args[k]? = some b ∧ 0 ≤ a ∧ 0 ≤ b ∧ Tw og oh a.toNat b.toNat := by
  obtain ⟨f, a, b⟩ := h
  cases a with
  | @cons _ _ x kids rest h0 hx hk hr =>
    generalize he : T.F.cons x.op x.w x.fl x.imm kids rest = g at b
    cases b with
    | @cons _ _ y kids' rest' h0' hx' hk' hr' =>
      injection he with e1 e2 e3 e4 e5 e6
      subst e5
      obtain ⟨i1, i2⟩ := rep_two hk hk'
      exact ⟨x, y, by simpa using hx, by simpa using hx', ⟨e1, e2, e4⟩, i1, i2⟩

/-- one operand of two nodes and of their twins -/
theorem rel_tw {og oh : List T.Nd} (hn : oh.Nodup) {Rg Rh : Nat → Nat → Prop} (hR : ∀ x y u v, Tw og oh x u → Tw og oh y v → Rg x y → Rh u v) {la la' lb lb' : List Int} (k : Nat)
    (ha : la.length = lb.length ∧ ∀ (k : Nat) (a : Int), la[k]? = some a → ∃ b, lb[k]? = some b ∧ 0 ≤ a ∧ 0 ≤ b ∧ Tw og oh a.toNat b.toNat) (hb : la'.length = lb'.length ∧ ∀ (k : Nat) (a : Int), la'[k]? = some a → ∃ b, lb'[k]? = some b ∧ 0 ≤ a ∧ 0 ≤ b ∧ Tw og oh a.toNat b.toNat)
    (h : Rel Rg (la.getD k (-1)) (la'.getD k (-1))) : Rel Rh (lb.getD k (-1)) (lb'.getD k (-1)) := by
  simp only [List.getD_eq_getElem?_getD] at *
  cases e1 : la[k]? with
  | none =>
    rw [List.getElem?_eq_none_iff] at e1
    rw [List.getElem?_eq_none (l := la) e1] at h
    rw [List.getElem?_eq_none (l := lb) (by omega)]
    cases e2 : la'[k]? with
    | none =>
      rw [List.getElem?_eq_none_iff] at e2
      rw [List.getElem?_eq_none (l := lb') (by omega)]
      exact .inl ⟨by simp, rfl⟩
    | some b =>
      rw [e2] at h
      obtain ⟨_, _, hb0, _⟩ := hb.2 k b e2
      rcases h with ⟨_, h⟩ | ⟨h, _⟩
      · simp at h; omega
      · simp at h
  | some a =>
    rw [e1] at h
    obtain ⟨u, u1, u2, u3, u4⟩ := ha.2 k a e1
    rw [u1]
    cases e2 : la'[k]? with
    | none =>
      rw [e2] at h
      rcases h with ⟨h, _⟩ | ⟨_, h, _⟩
      · simp at h; omega
      · simp at h
    | some b =>
      rw [e2] at h
      obtain ⟨v, v1, v2, v3, v4⟩ := hb.2 k b e2
      rw [v1]
      rcases h with ⟨h, _⟩ | ⟨_, _, h⟩
      · simp at h; omega
      · exact .inr ⟨u3, v3, hR _ _ _ _ u4 v4 h⟩
theorem sim_tw {og oh : List T.Nd} (hn : oh.Nodup) {Rg Rh : Nat → Nat → Prop} (hR : ∀ x y u v, Tw og oh x u → Tw og oh y v → Rg x y → Rh u v) {i i' j j' : Nat} (h1 : Tw og oh i j) (h2 : Tw og oh i' j') {x x' y y' : T.Nd} (ex : og[i]? = some x) (ex' : og[i']? = some x') (ey : oh[j]? = some y) (ey' : oh[j']? = some y')
    (h : Sim Rg (opn x) (opn x')) : Sim Rh (opn y) (opn y') := by
  obtain ⟨a, b, a1, a2, a3, a4⟩ := h1.node
  rw [ex] at a1; cases a1
  rw [ey] at a2; cases a2
  obtain ⟨a', b', b1, b2, b3, b4⟩ := h2.node
  rw [ex'] at b1; cases b1
  rw [ey'] at b2; cases b2
  obtain ⟨⟨s1, s2, s3⟩, s4, s5, s6⟩ := h
  refine ⟨⟨?_, ?_, ?_⟩, rel_tw hn hR 0 a4 b4 s4, rel_tw hn hR 1 a4 b4 s5, rel_tw hn hR 2 a4 b4 s6⟩
  · exact a3.1.symm.trans (s1.trans b3.1)
  · exact a3.2.1.symm.trans (s2.trans b3.2.1)
  · exact a3.2.2.symm.trans (s3.trans b3.2.2)

theorem least_tw {og oh : List T.Nd} (hg : Wl og) (hh : Wl oh) (tot : ∀ i, i < og.length → ∃ j, Tw og oh i j) {Pg Ph : Nat → Nat → Prop}
    (hP : ∀ x y, Pg x y → ∃ u v, Tw og oh x u ∧ Tw og oh y v ∧ Least (ops oh) Ph u v) {i i' : Nat} (h : Least (ops og) Pg i i') {j j' : Nat} (h1 : Tw og oh i j) (h2 : Tw og oh i' j') : Least (ops oh) Ph j j' := by
  have hq := least_eqv (E0 := ops oh) (P := Ph)
  have key := h (fun x y => (∃ u v, Tw og oh x u ∧ Tw og oh y v ∧ Least (ops oh) Ph u v) ∨ x = y) ⟨fun a => .inr rfl, fun a b k => ?_, fun a b c k l => ?_⟩ ?_ (fun x y hxy => .inl (hP x y hxy))
  · rcases key with ⟨u, v, k1, k2, k3⟩ | rfl
    · rw [k1.fun_ hh.nd h1, k2.fun_ hh.nd h2] at k3
      exact k3
    · rw [h1.fun_ hh.nd h2]; exact hq.refl _
  · rcases k with ⟨u, v, k1, k2, k3⟩ | rfl
    · exact .inl ⟨v, u, k2, k1, hq.symm _ _ k3⟩
    · exact .inr rfl
  · rcases k with ⟨u, v, k1, k2, k3⟩ | rfl
    · rcases l with ⟨u', v', l1, l2, l3⟩ | rfl
      · have := k2.fun_ hh.nd l1
        subst this
        exact .inl ⟨u, v', k1, l2, hq.trans _ _ _ k3 l3⟩
      · exact .inl ⟨u, v, k1, k2, k3⟩
    · exact l
  · intro y hy z hz s
    obtain ⟨a, x, hx, rfl⟩ := mem_ops.1 hy
    obtain ⟨b, x', hx', rfl⟩ := mem_ops.1 hz
    obtain ⟨u, hu⟩ := tot a (List.getElem?_eq_some_iff.1 hx).1
    obtain ⟨v, hv⟩ := tot b (List.getElem?_eq_some_iff.1 hx').1
    refine .inl ⟨u, v, hu, hv, ?_⟩
    obtain ⟨_, y1, _, ey, _⟩ := hu.node
    obtain ⟨_, y2, _, ey', _⟩ := hv.node
    refine least_cong (opn y1, u) (mem_ops.2 ⟨u, y1, ey, rfl⟩) (opn y2, v) (mem_ops.2 ⟨v, y2, ey', rfl⟩) (sim_tw hh.nd ?_ hu hv hx hx' ey ey' s)
    intro x y u v hxu hyv k
    rcases k with ⟨u', v', k1, k2, k3⟩ | rfl
    · rw [k1.fun_ hh.nd hxu, k2.fun_ hh.nd hyv] at k3
      exact k3
    · rw [hxu.fun_ hh.nd hyv]; exact hq.refl _

theorem len_le {α β : Type} [DecidableEq β] (r : α → β → Prop) : ∀ (l1 : List α) (l2 : List β), l1.Nodup → (∀ a ∈ l1, ∃ b ∈ l2, r a b) → (∀ a ∈ l1, ∀ a' ∈ l1, ∀ b, r a b → r a' b → a = a') → l1.length ≤ l2.length := by
  intro l1
  induction l1 with
  | nil => intro l2 _ _ _; exact Nat.zero_le _
  | cons x l1 ih =>
    intro l2 hn tot inj
    rw [List.nodup_cons] at hn
    obtain ⟨b, hb, hr⟩ := tot x (List.mem_cons_self ..)
    have h := ih (l2.erase b) hn.2 (fun a ha => ?_) (fun a ha a' ha' => inj a (List.mem_cons_of_mem _ ha) a' (List.mem_cons_of_mem _ ha'))
    · rw [List.length_erase_of_mem hb] at h
      have := List.length_pos_of_mem hb
      simp only [List.length_cons]
      omega
    · obtain ⟨b', hb', hr'⟩ := tot a (List.mem_cons_of_mem _ ha)
      refine ⟨b', ?_, hr'⟩
      have hne : b' ≠ b := fun e => by
        subst e
        have := inj x (List.mem_cons_self ..) a (List.mem_cons_of_mem _ ha) b' hr hr'
        subst this
        exact hn.1 ha
      exact (List.mem_erase_of_ne hne).2 hb'

theorem roots_le {og oh : List T.Nd} (tot : ∀ i, i < og.length → ∃ j, Tw og oh i j) {p q : List Nat} (hp : p.length = og.length) (hq : q.length = oh.length) (dp : Down p) (dq : Down q) (back : ∀ i i' j j', Tw og oh i j → Tw og oh i' j' → Eq1 q j j' → Eq1 p i i') : roots p ≤ roots q := by
  unfold roots
  rw [List.countP_eq_length_filter, List.countP_eq_length_filter]
  refine len_le (fun c d => ∃ j, Tw og oh c j ∧ d = root q j) _ _ (List.nodup_range.filter _) (fun c hc => ?_) (fun c hc c' hc' d h1 h2 => ?_)
  · rw [List.mem_filter, List.mem_range] at hc
    obtain ⟨j, hj⟩ := tot c (by omega)
    refine ⟨root q j, ?_, j, hj, rfl⟩
    rw [List.mem_filter, List.mem_range]
    have := hj.lt.2
    exact ⟨root_lt (by omega), by simp [root_root dq]⟩
  · rw [List.mem_filter] at hc hc'
    obtain ⟨j, hj, e1⟩ := h1
    obtain ⟨j', hj', e2⟩ := h2
    have e : root p c = root p c' := back c c' j j' hj hj' (e1.symm.trans e2)
    have c1 : root p c = c := by simpa using hc.2
    have c2 : root p c' = c' := by simpa using hc'.2
    rw [c1, c2] at e
    exact e

theorem keys_le {og oh : List T.Nd} (hg : Wl og) (hh : Wl oh) (tot : ∀ i, i < og.length → ∃ j, Tw og oh i j) {Pg Ph : Nat → Nat → Prop} {p q : List Nat} {eg eh : List (Opn × Nat)} (hG : Holds (ops og) Pg p eg) (hH : Holds (ops oh) Ph q eh)
    (back : ∀ i i' j j', Tw og oh i j → Tw og oh i' j' → Eq1 q j j' → Eq1 p i i') : eg.length ≤ eh.length := by
  have h := len_le (fun (k k' : Opn) => ∃ i j x y, Tw og oh i j ∧ og[i]? = some x ∧ oh[j]? = some y ∧ k = can p (opn x) ∧ k' = can q (opn y)) (eg.map Prod.fst) (eh.map Prod.fst) hG.nd (fun k hk => ?_) (fun k hk k' hk' d h1 h2 => ?_)
  · simpa using h
  · obtain ⟨e, he, rfl⟩ := List.mem_map.1 hk
    obtain ⟨y, hy, ek⟩ := hG.key he
    obtain ⟨i, x, hx, rfl⟩ := mem_ops.1 hy
    obtain ⟨j, hj⟩ := tot i (List.getElem?_eq_some_iff.1 hx).1
    obtain ⟨_, z, _, ez, _⟩ := hj.node
    obtain ⟨m, hm, m1, _⟩ := hH.rep (opn z, j) (mem_ops.2 ⟨j, z, ez, rfl⟩)
    refine ⟨can q (opn z), ?_, i, j, x, z, hj, hx, ez, ek, rfl⟩
    rw [← m1, hH.keys m hm]
    exact List.mem_map.2 ⟨m, hm, rfl⟩
  · obtain ⟨i, j, x, y, t, ex, ey, rfl, e1⟩ := h1
    obtain ⟨i', j', x', y', t', ex', ey', rfl, e2⟩ := h2
    refine can_of_sim (sim_tw hg.nd (fun a b u v hab huv k => back u v a b hab.symm huv.symm k) t.symm t'.symm ey ey' ex ex' ?_)
    have e : can q (opn y) = can q (opn y') := e1.symm.trans e2
    exact ((sim_can (sound_of hH.down fun _ _ h => h) (opn y)).trans (eq1_eqv q) (by rw [e]; exact (sim_can (sound_of hH.down fun _ _ h => h) (opn y')).symm (eq1_eqv q)))

/-- two graphs of the same trees to which the same was told: the same nodes are in one class, and there are as many classes and operations -/
theorem turns_same {og oh : List T.Nd} (hg : Wl og) (hh : Wl oh) (tot : ∀ i, i < og.length → ∃ j, Tw og oh i j) (tot' : ∀ j, j < oh.length → ∃ i, Tw og oh i j) {Pg Ph : Nat → Nat → Prop} {p q : List Nat} {eg eh : List (Opn × Nat)} (hG : Holds (ops og) Pg p eg) (hH : Holds (ops oh) Ph q eh)
    (hp : p.length = og.length) (hq : q.length = oh.length) (hP : ∀ x y, Pg x y → ∃ u v, Tw og oh x u ∧ Tw og oh y v ∧ Ph u v) (hP' : ∀ x y, Ph x y → ∃ u v, Tw og oh u x ∧ Tw og oh v y ∧ Pg u v) :
    (∀ i i' j j', Tw og oh i j → Tw og oh i' j' → (root p i = root p i' ↔ root q j = root q j')) ∧ roots p = roots q ∧ eg.length = eh.length := by
  have f1 : ∀ i i' j j', Tw og oh i j → Tw og oh i' j' → Eq1 p i i' → Eq1 q j j' := fun i i' j j' h1 h2 e =>
    (hH.eq j j').2 (least_tw hg hh tot (fun x y hxy => let ⟨u, v, a, b, c⟩ := hP x y hxy; ⟨u, v, a, b, least_base c⟩) ((hG.eq i i').1 e) h1 h2)
  have tot2 : ∀ j, j < oh.length → ∃ i, Tw oh og j i := fun j hj => let ⟨i, h⟩ := tot' j hj; ⟨i, h.symm⟩
  have f2 : ∀ i i' j j', Tw og oh i j → Tw og oh i' j' → Eq1 q j j' → Eq1 p i i' := fun i i' j j' h1 h2 e =>
    (hG.eq i i').2 (least_tw hh hg tot2 (fun x y hxy => let ⟨u, v, a, b, c⟩ := hP' x y hxy; ⟨u, v, a.symm, b.symm, least_base c⟩) ((hH.eq j j').1 e) h1.symm h2.symm)
  refine ⟨fun i i' j j' h1 h2 => ⟨f1 i i' j j' h1 h2, f2 i i' j j' h1 h2⟩, Nat.le_antisymm (roots_le tot hp hq hG.down hH.down f2) (roots_le tot2 hq hp hH.down hG.down fun j j' i i' h1 h2 => f1 i i' j j' h1.symm h2.symm), Nat.le_antisymm (keys_le hg hh tot hG hH f2) (keys_le hh hg tot2 hH hG fun j j' i i' h1 h2 => f1 i i' j j' h1.symm h2.symm)⟩
end E
end Go.Proofs.YtcmlmjbpdaecbaaGreat
end
