/- Merged: PlainE, PlainE2, PlainE3. -/
import Derived.Test.YtcmlmjbpdaecbaaH05
set_option linter.unusedVariables false
set_option linter.unusedSimpArgs false
section
namespace Go.Proofs.Ytcmlmjbpdaecbaa
set_option linter.unusedVariables false
set_option linter.unusedSimpArgs false
namespace E
open T (Nd F)

mutual
/-- two trees are told equal, or it follows -/
inductive Cg (P : F → F → Prop) (S : F → Prop) : F → F → Prop
  | base {f g : F} (h : P f g) : Cg P S f g
  | refl (f : F) : Cg P S f f
  | symm {f g : F} (h : Cg P S f g) : Cg P S g f
  | trans {f g k : F} (h : Cg P S f g) (h2 : Cg P S g k) : Cg P S f k
  | node {op w fl imm : Int} {ks ks' : F} (h1 : S (.cons op w fl imm ks .nil)) (h2 : S (.cons op w fl imm ks' .nil)) (h : CgL P S ks ks') : Cg P S (.cons op w fl imm ks .nil) (.cons op w fl imm ks' .nil)
/-- .. operand by operand -/
inductive CgL (P : F → F → Prop) (S : F → Prop) : F → F → Prop
  | nil : CgL P S .nil .nil
  | cons {o1 w1 f1 i1 o2 w2 f2 i2 : Int} {k1 k2 r1 r2 : F} (h : Cg P S (.cons o1 w1 f1 i1 k1 .nil) (.cons o2 w2 f2 i2 k2 .nil)) (hr : CgL P S r1 r2) : CgL P S (.cons o1 w1 f1 i1 k1 r1) (.cons o2 w2 f2 i2 k2 r2)
end

mutual
theorem Cg.mono {P P' : F → F → Prop} {S S' : F → Prop} (hP : ∀ f g, P f g → Cg P' S' f g) (hS : ∀ f, S f → S' f) {f g : F} : Cg P S f g → Cg P' S' f g
  | .base h => hP _ _ h
  | .refl f => .refl f
  | .symm h => .symm (h.mono hP hS)
  | .trans h h2 => .trans (h.mono hP hS) (h2.mono hP hS)
  | .node h1 h2 h => .node (hS _ h1) (hS _ h2) (h.mono hP hS)
theorem CgL.mono {P P' : F → F → Prop} {S S' : F → Prop} (hP : ∀ f g, P f g → Cg P' S' f g) (hS : ∀ f, S f → S' f) {f g : F} : CgL P S f g → CgL P' S' f g
  | .nil => .nil
  | .cons h hr => .cons (h.mono hP hS) (hr.mono hP hS)
end

/-- what was told in another order is the same -/
theorem Cg.turn {P P' : F → F → Prop} {S S' : F → Prop} (hP : ∀ f g, P f g ↔ P' f g) (hS : ∀ f, S f ↔ S' f) {f g : F} : Cg P S f g ↔ Cg P' S' f g :=
  ⟨fun h => h.mono (fun f g hp => .base ((hP f g).1 hp)) (fun f hf => (hS f).1 hf), fun h => h.mono (fun f g hp => .base ((hP f g).2 hp)) (fun f hf => (hS f).2 hf)⟩

/-- operands related one by one -/
def Kids (R : F → F → Prop) : F → F → Prop
  | .nil, .nil => True
  | .cons o1 w1 f1 i1 k1 r1, .cons o2 w2 f2 i2 k2 r2 => R (.cons o1 w1 f1 i1 k1 .nil) (.cons o2 w2 f2 i2 k2 .nil) ∧ Kids R r1 r2
  | _, _ => False
/-- an equivalence that holds what was told and joins equal operations holds all that follows -/
structure Closed (P : F → F → Prop) (S : F → Prop) (R : F → F → Prop) : Prop where
  base : ∀ f g, P f g → R f g
  refl : ∀ f, R f f
  symm : ∀ f g, R f g → R g f
  trans : ∀ f g k, R f g → R g k → R f k
  node : ∀ op w fl imm ks ks', S (.cons op w fl imm ks .nil) → S (.cons op w fl imm ks' .nil) → Kids R ks ks' → R (.cons op w fl imm ks .nil) (.cons op w fl imm ks' .nil)
mutual
theorem Closed.least {P : F → F → Prop} {S : F → Prop} {R : F → F → Prop} (c : Closed P S R) {f g : F} : Cg P S f g → R f g
  | .base h => c.base _ _ h
  | .refl f => c.refl f
  | .symm h => c.symm _ _ (c.least h)
  | .trans h h2 => c.trans _ _ _ (c.least h) (c.least h2)
  | .node h1 h2 h => c.node _ _ _ _ _ _ h1 h2 (c.leastL h)
theorem Closed.leastL {P : F → F → Prop} {S : F → Prop} {R : F → F → Prop} (c : Closed P S R) {f g : F} : CgL P S f g → Kids R f g
  | .nil => trivial
  | .cons h hr => ⟨c.least h, c.leastL hr⟩
end
end E
end Go.Proofs.Ytcmlmjbpdaecbaa
end
section
namespace Go.Proofs.Ytcmlmjbpdaecbaa
set_option linter.unusedVariables false
set_option linter.unusedSimpArgs false
namespace E

/-- what a class has become -/
def root (p : List Nat) (c : Nat) : Nat := if h : p.getD c c < c then root p (p.getD c c) else c
termination_by c

theorem root_le (p : List Nat) (c : Nat) : root p c ≤ c := by
  induction c using Nat.strongRecOn with
  | _ c ih =>
    unfold root
    split
    · rename_i h; have := ih _ h; omega
    · exact Nat.le_refl _

/-- each parent stands at or below its child -/
def Down (p : List Nat) : Prop := ∀ c, c < p.length → p.getD c c ≤ c
theorem getD_out {p : List Nat} {c : Nat} (h : p.length ≤ c) : p.getD c c = c := by
  rw [List.getD_eq_getElem?_getD, List.getElem?_eq_none h]; rfl
theorem root_fix {p : List Nat} (hd : Down p) (c : Nat) : p.getD (root p c) (root p c) = root p c := by
  induction c using Nat.strongRecOn with
  | _ c ih =>
    unfold root
    split
    · rename_i h; exact ih _ h
    · rename_i h
      rcases Nat.lt_or_ge c p.length with hc | hc
      · have := hd c hc; omega
      · exact getD_out hc
theorem root_of_fix {p : List Nat} {c : Nat} (h : p.getD c c = c) : root p c = c := by
  unfold root
  rw [dif_neg (by omega)]
theorem root_root {p : List Nat} (hd : Down p) (c : Nat) : root p (root p c) = root p c := root_of_fix (root_fix hd c)
theorem root_step {p : List Nat} {c : Nat} (h : p.getD c c ≤ c) : root p (p.getD c c) = root p c := by
  rcases Nat.lt_or_ge (p.getD c c) c with h1 | h1
  · conv => rhs; unfold root
    rw [dif_pos h1]
  · rw [show p.getD c c = c by omega]

theorem getD_set {p : List Nat} {m k c : Nat} (hm : m < p.length) : (p.set m k).getD c c = if c = m then k else p.getD c c := by
  rw [List.getD_eq_getElem?_getD, List.getD_eq_getElem?_getD, List.getElem?_set]
  by_cases e : m = c
  · subst e
    rw [if_pos rfl, if_pos hm, if_pos rfl]; rfl
  · rw [if_neg e, if_neg (fun h => e h.symm)]
theorem down_set {p : List Nat} {m k : Nat} (hd : Down p) (hm : m < p.length) (hk : k ≤ m) : Down (p.set m k) := fun c hc => by
  rw [getD_set hm]
  rw [List.length_set] at hc
  split
  · rename_i e; subst e; exact hk
  · exact hd c hc
/-- two roots made one -/
theorem root_set {p : List Nat} {m k : Nat} (hd : Down p) (hm : m < p.length) (hk : k < m) (hrm : p.getD m m = m) (hrk : p.getD k k = k) (c : Nat) : root (p.set m k) c = if root p c = m then k else root p c := by
  induction c using Nat.strongRecOn with
  | _ c ih =>
    by_cases e : c = m
    · subst e
      have h1 : (p.set c k).getD c c = k := by rw [getD_set hm, if_pos rfl]
      have h2 : (p.set c k).getD k k = k := by rw [getD_set hm, if_neg (by omega)]; exact hrk
      rw [root_of_fix hrm, if_pos rfl]
      unfold root
      rw [dif_pos (by rw [h1]; exact hk), h1]
      exact root_of_fix h2
    · have h1 : (p.set m k).getD c c = p.getD c c := by rw [getD_set hm, if_neg e]
      rcases Nat.lt_or_ge (p.getD c c) c with h2 | h2
      · have h3 := ih _ h2
        have e1 : root (p.set m k) c = root (p.set m k) (p.getD c c) := by
          conv => lhs; unfold root
          rw [dif_pos (by rw [h1]; exact h2), h1]
        have e2 : root p c = root p (p.getD c c) := by
          conv => lhs; unfold root
          rw [dif_pos h2]
        rw [e1, e2, h3]
      · have hc : p.getD c c = c := by
          rcases Nat.lt_or_ge c p.length with hc | hc
          · have := hd c hc; omega
          · exact getD_out hc
        rw [root_of_fix hc, root_of_fix (by rw [h1]; exact hc), if_neg e]
end E
end Go.Proofs.Ytcmlmjbpdaecbaa
end
section
namespace Go.Proofs.Ytcmlmjbpdaecbaa
set_option linter.unusedVariables false
set_option linter.unusedSimpArgs false
namespace E

structure Opn where
  op : Int
  w : Int
  imm : Int
  a0 : Int
  a1 : Int
  a2 : Int
deriving DecidableEq, Inhabited

def cr (p : List Nat) (a : Int) : Int := if a < 0 then a else (root p a.toNat : Int)
/-- an operation over what its classes have become -/
def can (p : List Nat) (x : Opn) : Opn := ⟨x.op, x.w, x.imm, cr p x.a0, cr p x.a1, cr p x.a2⟩

/-- p' joins whatever p joins -/
def Coarse (p p' : List Nat) : Prop := ∀ c d, root p c = root p d → root p' c = root p' d
theorem Coarse.rfl_ (p : List Nat) : Coarse p p := fun _ _ h => h
theorem Coarse.trans {p q r : List Nat} (h : Coarse p q) (k : Coarse q r) : Coarse p r := fun c d e => k c d (h c d e)
theorem Coarse.root {p p' : List Nat} (h : Coarse p p') (hd : Down p) (c : Nat) : root p' (root p c) = root p' c := h _ _ (root_root hd c)
theorem Coarse.cr {p p' : List Nat} (h : Coarse p p') {a b : Int} (e : cr p a = cr p b) : cr p' a = cr p' b := by
  unfold E.cr at e ⊢
  split at e
  · rename_i h1
    split at e
    · rw [if_pos h1, e]; rw [e] at h1; rw [if_pos h1]
    · omega
  · rename_i h1
    split at e
    · omega
    · rename_i h2
      rw [if_neg h1, if_neg h2]
      exact congrArg _ (h _ _ (by omega))
theorem Coarse.can {p p' : List Nat} (h : Coarse p p') {x y : Opn} (e : can p x = can p y) : can p' x = can p' y := by
  unfold E.can at e ⊢
  simp only [Opn.mk.injEq] at e ⊢
  obtain ⟨e1, e2, e3, e4, e5, e6⟩ := e
  exact ⟨e1, e2, e3, h.cr e4, h.cr e5, h.cr e6⟩
theorem cr_cr {p : List Nat} (hd : Down p) (a : Int) : cr p (cr p a) = cr p a := by
  unfold cr
  by_cases h : a < 0
  · rw [if_pos h, if_pos h]
  · rw [if_neg h, if_neg (by omega), Int.toNat_natCast, root_root hd]
theorem can_can {p : List Nat} (hd : Down p) (x : Opn) : can p (can p x) = can p x := by
  unfold can
  simp only [cr_cr hd]

/-- two classes made one: the greater root stands at the smaller one -/
def join (p : List Nat) (a b : Nat) : List Nat := if root p a = root p b then p else p.set (max (root p a) (root p b)) (min (root p a) (root p b))
theorem root_lt {p : List Nat} {c : Nat} (h : c < p.length) : root p c < p.length := Nat.lt_of_le_of_lt (root_le p c) h
theorem join_spec {p : List Nat} (hd : Down p) {a b : Nat} (ha : a < p.length) (hb : b < p.length) : Down (join p a b) ∧ (join p a b).length = p.length ∧ ∀ c, root (join p a b) c = if root p c = max (root p a) (root p b) then min (root p a) (root p b) else root p c := by
  unfold join
  by_cases h : root p a = root p b
  · rw [if_pos h, h]
    refine ⟨hd, rfl, fun c => ?_⟩
    rw [Nat.max_self, Nat.min_self]
    split
    · rename_i e; exact e
    · rfl
  · rw [if_neg h]
    have h1 := root_lt ha
    have h2 := root_lt hb
    have f1 := root_fix hd a
    have f2 := root_fix hd b
    rcases Nat.lt_or_ge (root p a) (root p b) with hl | hl
    · rw [Nat.max_eq_right (by omega), Nat.min_eq_left (by omega)]
      exact ⟨down_set hd h2 (by omega), List.length_set, fun c => root_set hd h2 hl f2 f1 c⟩
    · rw [Nat.max_eq_left hl, Nat.min_eq_right hl]
      exact ⟨down_set hd h1 (by omega), List.length_set, fun c => root_set hd h1 (by omega) f1 f2 c⟩
theorem join_coarse {p : List Nat} (hd : Down p) {a b : Nat} (ha : a < p.length) (hb : b < p.length) : Coarse p (join p a b) ∧ root (join p a b) a = root (join p a b) b := by
  obtain ⟨_, _, h⟩ := join_spec hd ha hb
  refine ⟨fun c d e => by rw [h c, h d, e], ?_⟩
  rw [h a, h b]
  rcases Nat.le_total (root p a) (root p b) with hl | hl
  · rw [Nat.max_eq_right hl, Nat.min_eq_left hl, if_pos rfl]
    split <;> omega
  · rw [Nat.max_eq_left hl, Nat.min_eq_right hl, if_pos rfl]
    split <;> omega
end E
end Go.Proofs.Ytcmlmjbpdaecbaa
end
