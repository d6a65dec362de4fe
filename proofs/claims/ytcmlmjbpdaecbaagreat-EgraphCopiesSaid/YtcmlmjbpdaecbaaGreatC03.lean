/- Merged: PlainR, PlainN, PlainE, PlainE2, PlainE3. -/
import Derived.Test.YtcmlmjbpdaecbaaGreatC02
set_option linter.unusedVariables false
set_option linter.unusedSimpArgs false
section
namespace Go.Proofs.YtcmlmjbpdaecbaaGreat
set_option linter.unusedVariables false
set_option linter.unusedSimpArgs false
namespace R
open T (Nd F)

structure Cd where
  kind : Int
  hole : Int
  imm : Int
deriving DecidableEq, Inhabited
structure Rl where
  left : List Nd
  right : List Nd
  pre : List Cd
deriving DecidableEq, Inhabited

def flOk (op fl : Int) : Bool :=
  if op = 1 ∨ op = 2 ∨ op = 3 ∨ op = 11 then decide (0 ≤ fl) && decide (fl ≤ 3)
  else if op = 4 ∨ op = 6 ∨ op = 12 ∨ op = 13 then decide (fl = 0) || decide (fl = 4)
  else decide (fl = 0)
/-- operands of an operation of patterns -/
def par (op : Int) : Int := if op = 34 then 0 else if op = 35 then 1 else if 16 ≤ op ∧ op ≤ 18 then -1 else T.ar op
def pimmOk (p : List Nd) (right : Bool) (x : Nd) : Bool :=
  if x.op = 0 then decide (x.w = 0) || B.isW x.w x.imm
  else if x.op = 33 ∨ x.op = 34 then decide (x.w = 0) && decide (x.imm < 2)
  else if x.op = 35 then right && decide (x.w = 0) && decide (x.imm = 0) && decide ((p.getD (x.args.getD 0 0).toNat default).op = 34)
  else if x.op = 14 then decide (x.w = 1) && decide (x.imm ≤ 9)
  else decide (x.imm = 0)
/-- a node of a pattern is right, but for the widths of its operands -/
def pnode (p : List Nd) (right : Bool) (k : Nat) (x : Nd) : Bool :=
  decide (0 ≤ par x.op) && decide ((x.args.length : Int) = par x.op) && decide (0 ≤ x.w) && decide (x.w ≤ 32) && flOk x.op x.fl && T.argsOk k x.args && pimmOk p right x
def cdOk (c : Cd) : Bool := decide (0 ≤ c.kind) && decide (c.kind ≤ 4) && decide (0 ≤ c.hole) && decide (c.hole < 2) && (decide (c.kind = 4) || decide (c.imm = 0))

/-- a term with flags -/
def fvalid (t : List Nd) : Int :=
  if t.length < 1 ∨ 300 < t.length then 3
  else if (t.all fun x => flOk x.op x.fl) = false then 1
  else T.valid false t

def need1 (p : List Nd) (o : List Bool) (k : Nat) : List Bool := (p.getD k default).args.foldl (fun o a => o.set a.toNat (o.getD a.toNat false || o.getD k false)) o
/-- which nodes lead to the root -/
def need (p : List Nd) : List Bool := (List.range p.length).reverse.foldl (need1 p) ((List.replicate p.length false).set (p.length - 1) true)
/-- a node that leads to the root is of this kind -/
def occ (p : List Nd) (op imm : Int) : Bool := (p.zip (need p)).any fun q => q.2 && decide (q.1.op = op) && decide (q.1.imm = imm)

def rootW (p : List Nd) : Int := (p.getD (p.length - 1) default).w

def rvalid (r : Rl) : Int :=
  if r.left.length < 1 ∨ 12 < r.left.length ∨ r.right.length < 1 ∨ 12 < r.right.length ∨ 4 < r.pre.length then 3
  else if ((r.left.zipIdx.all fun q => pnode r.left false q.2 q.1) && (r.right.zipIdx.all fun q => pnode r.right true q.2 q.1)) = false then 1
  else if (r.pre.all cdOk) = false then 1
  else if ((r.left.all (T.typed r.left)) && (r.right.all (T.typed r.right)) && decide (rootW r.left ≤ 1) && decide (rootW r.right = rootW r.left)) = false then 6
  else if ((r.right.all fun x => (!decide (x.op = 33 ∨ x.op = 34)) || occ r.left x.op x.imm) && (r.pre.all fun c => occ r.left 34 c.hole)) = false then 7
  else 0

end R
end Go.Proofs.YtcmlmjbpdaecbaaGreat
end
section
namespace Go.Proofs.YtcmlmjbpdaecbaaGreat
set_option linter.unusedVariables false
set_option linter.unusedSimpArgs false
namespace R
open T (Nd F)

/-- what is reached from nodes -/
inductive From (p : List Nd) (la : List Int) : Nat → Prop where
  | here {a : Int} (h : a ∈ la) : From p la a.toNat
  | next {k : Nat} {x : Nd} {a : Int} (h : From p la k) (hx : p[k]? = some x) (ha : a ∈ x.args) : From p la a.toNat

theorem From.sub {p : List Nd} {la bs : List Int} (h : ∀ a ∈ la, From p bs a.toNat) {k : Nat} (r : From p la k) : From p bs k := by
  induction r with
  | here ha => exact h _ ha
  | next _ hx ha ih => exact .next ih hx ha

theorem setTrue {o : List Bool} {a i : Nat} {b : Bool} (ha : a < o.length) : (o.set a (o.getD a false || b)).getD i false = (o.getD i false || (decide (i = a) && b)) := by
  simp only [List.getD_eq_getElem?_getD, List.getElem?_set]
  by_cases h : a = i
  · subst h
    simp [ha]
  · have : ¬ i = a := fun e => h e.symm
    simp [h, this]

theorem need_inner (k : Nat) : ∀ (l : List Int) (o : List Bool), k < o.length → (∀ a ∈ l, 0 ≤ a ∧ a < (k : Int)) →
    (l.foldl (fun o a => o.set a.toNat (o.getD a.toNat false || o.getD k false)) o).length = o.length ∧
    ∀ i, (l.foldl (fun o a => o.set a.toNat (o.getD a.toNat false || o.getD k false)) o).getD i false = (o.getD i false || ((l.any fun a => decide (a.toNat = i)) && o.getD k false)) := by
  intro l
  induction l with
  | nil => intro o _ _; simp
  | cons a l ih =>
    intro o hk hl
    have ha := hl a (by simp)
    have hak : a.toNat < o.length := by omega
    obtain ⟨h1, h2⟩ := ih (o.set a.toNat (o.getD a.toNat false || o.getD k false)) (by simpa using hk) (fun b hb => hl b (by simp [hb]))
    refine ⟨by simp only [List.foldl_cons]; rw [h1]; simp, fun i => ?_⟩
    simp only [List.foldl_cons]
    rw [h2 i, setTrue hak, setTrue hak]
    have hne : decide (k = a.toNat) = false := by simp; omega
    rw [hne]
    simp only [Bool.false_and, Bool.or_false, List.any_cons]
    have : decide (a.toNat = i) = decide (i = a.toNat) := by simp [eq_comm]
    rw [this]
    cases o.getD i false <;> cases decide (i = a.toNat) <;> cases o.getD k false <;> simp

structure NeedI (p : List Nd) (m : Nat) (o : List Bool) : Prop where
  len : o.length = p.length
  sound : ∀ i, o.getD i false = true → From p [((p.length : Int) - 1)] i
  root : o.getD (p.length - 1) false = true
  shut : ∀ k x, m ≤ k → p[k]? = some x → o.getD k false = true → ∀ a ∈ x.args, o.getD a.toNat false = true

theorem need_step {p : List Nd} (ho : T.Ord p) {m : Nat} {o : List Bool} (hm : m < p.length) (h : NeedI p (m + 1) o) : NeedI p m (need1 p o m) := by
  obtain ⟨h1, h2, h3, h4⟩ := h
  have hx := List.getElem?_eq_getElem hm
  have e : p.getD m default = p[m] := by rw [List.getD_eq_getElem?_getD, hx]; rfl
  obtain ⟨g1, g2⟩ := need_inner m (p[m]).args o (by omega) (ho m _ hx)
  unfold need1
  rw [e]
  refine ⟨by rw [g1]; exact h1, ?_, by rw [g2, h3]; rfl, ?_⟩
  · intro i hi
    rw [g2] at hi
    rcases Bool.or_eq_true_iff.1 hi with hi | hi
    · exact h2 i hi
    · obtain ⟨hi1, hi2⟩ := Bool.and_eq_true_iff.1 hi
      obtain ⟨a, ha, hai⟩ := List.any_eq_true.1 hi1
      have : a.toNat = i := by simpa using hai
      rw [← this]
      exact .next (h2 m hi2) hx ha
  · intro k x hk hkx hko a ha
    have hax := ho k x hkx a ha
    rw [g2] at hko
    rw [g2]
    have hkn : (p[m].args.any fun a => decide (a.toNat = k)) = false := by
      rw [List.any_eq_false]
      intro b hb
      have := ho m _ hx b hb
      simp; omega
    rw [hkn] at hko
    simp only [Bool.false_and, Bool.or_false] at hko
    rcases Nat.eq_or_lt_of_le hk with e | e
    · subst e
      rw [hx] at hkx
      cases hkx
      have : (p[m].args.any fun b => decide (b.toNat = a.toNat)) = true := List.any_eq_true.2 ⟨a, ha, by simp⟩
      rw [this, hko]
      simp
    · rw [h4 k x e hkx hko a ha]; rfl

theorem need_spec {p : List Nd} (ho : T.Ord p) (hp : 0 < p.length) : NeedI p 0 (need p) := by
  have start : NeedI p p.length ((List.replicate p.length false).set (p.length - 1) true) := by
    have hg : ∀ i, ((List.replicate p.length false).set (p.length - 1) true).getD i false = decide (i = p.length - 1) := by
      intro i
      simp only [List.getD_eq_getElem?_getD, List.getElem?_set]
      by_cases e : p.length - 1 = i
      · subst e
        have : p.length - 1 < p.length := by omega
        simp [this]
      · have : ¬ i = p.length - 1 := fun h => e h.symm
        simp [e, this, List.getElem?_replicate]
        split <;> rfl
    refine ⟨by simp, ?_, by rw [hg]; simp, ?_⟩
    · intro i hi
      rw [hg] at hi
      have : i = p.length - 1 := by simpa using hi
      have e : ((p.length : Int) - 1).toNat = i := by omega
      rw [← e]
      exact .here (by simp)
    · intro k x hk hkx
      have := (List.getElem?_eq_some_iff.1 hkx).1
      omega
  have go : ∀ (m : Nat), m ≤ p.length → ∀ o, NeedI p m o → NeedI p 0 ((List.range m).reverse.foldl (need1 p) o) := by
    intro m
    induction m with
    | zero => intro _ o h; simpa using h
    | succ m ih =>
      intro hm o h
      rw [List.range_succ, List.reverse_append]
      simp only [List.reverse_cons, List.reverse_nil, List.nil_append, List.singleton_append, List.foldl_cons]
      exact ih (by omega) _ (need_step ho (by omega) h)
  exact go _ (Nat.le_refl _) _ start

theorem need_iff {p : List Nd} (ho : T.Ord p) (hp : 0 < p.length) {k : Nat} : (need p).getD k false = true ↔ From p [((p.length : Int) - 1)] k := by
  have h := need_spec ho hp
  refine ⟨h.sound k, fun r => ?_⟩
  induction r with
  | here ha =>
    simp at ha
    subst ha
    have e : ((p.length : Int) - 1).toNat = p.length - 1 := by omega
    rw [e]; exact h.root
  | next _ hx ha ih => exact h.shut _ _ (Nat.zero_le _) hx ih _ ha

theorem occ_iff {p : List Nd} (ho : T.Ord p) (hp : 0 < p.length) {op imm : Int} : occ p op imm = true ↔ ∃ k x, From p [((p.length : Int) - 1)] k ∧ p[k]? = some x ∧ x.op = op ∧ x.imm = imm := by
  have hl := (need_spec ho hp).len
  unfold occ
  rw [List.any_eq_true]
  constructor
  · rintro ⟨⟨x, b⟩, hm, h⟩
    simp only [Bool.and_eq_true, decide_eq_true_eq] at h
    obtain ⟨k, hk⟩ := List.mem_iff_getElem?.1 hm
    rw [List.getElem?_zip_eq_some] at hk
    refine ⟨k, x, (need_iff ho hp).1 ?_, hk.1, h.1.2, h.2⟩
    rw [List.getD_eq_getElem?_getD, hk.2]
    exact h.1.1
  · rintro ⟨k, x, hr, hx, h1, h2⟩
    have hn := (need_iff ho hp).2 hr
    have hk : k < (need p).length := by rw [hl]; exact (List.getElem?_eq_some_iff.1 hx).1
    refine ⟨(x, true), List.mem_of_getElem? (i := k) ?_, by simp [h1, h2]⟩
    rw [List.getElem?_zip_eq_some]
    refine ⟨hx, ?_⟩
    rw [List.getD_eq_getElem?_getD, List.getElem?_eq_getElem hk] at hn
    rw [List.getElem?_eq_getElem hk]
    simpa using hn

/-- a label stands in a forest -/
def occF : F → Int → Int → Prop
  | .nil, _, _ => False
  | .cons op _ _ imm kids rest, o, i => (op = o ∧ imm = i) ∨ occF kids o i ∨ occF rest o i

theorem occF_from {p : List Nd} {la : List Int} {f : F} (r : T.Rep p la f) {o i : Int} : occF f o i ↔ ∃ k x, From p la k ∧ p[k]? = some x ∧ x.op = o ∧ x.imm = i := by
  induction r with
  | nil =>
    refine ⟨fun h => h.elim, ?_⟩
    rintro ⟨k, x, h, h'⟩
    exfalso
    clear h'
    induction h with
    | here ha => cases ha
    | next _ _ _ ih => exact ih
  | @cons a la x kids rest h0 hx hk hr ih1 ih2 =>
    simp only [occF]
    constructor
    · rintro (h | h | h)
      · exact ⟨a.toNat, x, .here (by simp), hx, h.1, h.2⟩
      · obtain ⟨k, y, h1, h2⟩ := ih1.1 h
        exact ⟨k, y, h1.sub fun b hb => .next (.here (by simp)) hx hb, h2⟩
      · obtain ⟨k, y, h1, h2⟩ := ih2.1 h
        exact ⟨k, y, h1.sub fun b hb => .here (by simp [hb]), h2⟩
    · rintro ⟨k, y, h1, h2⟩
      have : k = a.toNat ∨ From p x.args k ∨ From p la k := by
        clear h2
        induction h1 with
        | here ha =>
          rcases List.mem_cons.1 ha with rfl | ha
          · exact .inl rfl
          · exact .inr (.inr (.here ha))
        | next _ hy hb ih =>
          rcases ih with rfl | h | h
          · rw [hx] at hy
            cases hy
            exact .inr (.inl (.here hb))
          · exact .inr (.inl (.next h hy hb))
          · exact .inr (.inr (.next h hy hb))
      rcases this with rfl | h | h
      · rw [hx] at h2
        obtain ⟨h2, h3⟩ := h2
        cases h2
        exact .inl h3
      · exact .inr (.inl (ih1.2 ⟨k, y, h, h2⟩))
      · exact .inr (.inr (ih2.2 ⟨k, y, h, h2⟩))

theorem addN_mem {out : List Nd} {y z : Nd} : z ∈ (T.addN out y).1 ↔ z ∈ out ∨ z = y := by
  unfold T.addN
  by_cases h : y ∈ out
  · rw [if_pos h]
    exact ⟨.inl, fun h' => h'.elim id fun e => e ▸ h⟩
  · rw [if_neg h]; simp

/-- labels of what is told -/
theorem cnn_labels (f : F) : ∀ (out : List Nd) (o i : Int), (∃ x ∈ (T.cnn f out).1, x.op = o ∧ x.imm = i) ↔ (∃ x ∈ out, x.op = o ∧ x.imm = i) ∨ occF f o i := by
  induction f with
  | nil => intro out o i; simp [T.cnn, occF]
  | cons op w fl imm kids rest ih1 ih2 =>
    intro out o i
    simp only [T.cnn, occF]
    rw [ih2]
    constructor
    · rintro (⟨x, hx, h⟩ | h)
      · rcases addN_mem.1 hx with hx | rfl
        · rcases (ih1 out o i).1 ⟨x, hx, h⟩ with h | h
          · exact .inl h
          · exact .inr (.inr (.inl h))
        · exact .inr (.inl h)
      · exact .inr (.inr (.inr h))
    · rintro (h | h | h | h)
      · obtain ⟨x, hx, h⟩ := (ih1 out o i).2 (.inl h)
        exact .inl ⟨x, addN_mem.2 (.inl hx), h⟩
      · exact .inl ⟨_, addN_mem.2 (.inr rfl), h⟩
      · obtain ⟨x, hx, h⟩ := (ih1 out o i).2 (.inr h)
        exact .inl ⟨x, addN_mem.2 (.inl hx), h⟩
      · exact .inr h

/-- the reference's question: is there a node of this kind in the shared list -/
theorem occ_canon {p : List Nd} (ho : T.Ord p) (hp : 0 < p.length) {f : F} (hf : T.Rep p [((p.length : Int) - 1)] f) (o i : Int) : occ p o i = (T.canon f).any fun x => decide (x.op = o) && decide (x.imm = i) := by
  rw [Bool.eq_iff_iff, occ_iff ho hp, ← occF_from hf, List.any_eq_true]
  have := cnn_labels f [] o i
  simp only [List.not_mem_nil, false_and, exists_false, false_or] at this
  rw [← this]
  simp [T.canon]
end R
end Go.Proofs.YtcmlmjbpdaecbaaGreat
end
section
namespace Go.Proofs.YtcmlmjbpdaecbaaGreat
set_option linter.unusedVariables false
set_option linter.unusedSimpArgs false
namespace E
open T (Nd F)

mutual
/-- two trees are told equal, or it follows -/
inductive Cg (P : F → F → Prop) (S : F → Prop) : F → F → Prop
  | base {f g : F} (h : P f g) : Cg P S f g
  | refl (f : F) : Cg P S f f
  | symm {f g : F} (h : Cg P S f g) : Cg P S g f
  | trans {f g k : F} (h : Cg P S f g) (h2 : Cg P S g k) : Cg P S f k
  | node {op w fl imm : Int} {ks ks' : F} (h1 : S (.cons op w fl imm ks .nil)) (h2 : S (.cons op w fl imm ks' .nil)) (h : CgL P S ks ks') : Cg P S (.cons op w fl imm ks .nil) (.cons op w fl imm ks' .nil)
/-- .. operand by operand -/
inductive CgL (P : F → F → Prop) (S : F → Prop) : F → F → Prop
  | nil : CgL P S .nil .nil
  | cons {o1 w1 f1 i1 o2 w2 f2 i2 : Int} {k1 k2 r1 r2 : F} (h : Cg P S (.cons o1 w1 f1 i1 k1 .nil) (.cons o2 w2 f2 i2 k2 .nil)) (hr : CgL P S r1 r2) : CgL P S (.cons o1 w1 f1 i1 k1 r1) (.cons o2 w2 f2 i2 k2 r2)
end

mutual
theorem Cg.mono {P P' : F → F → Prop} {S S' : F → Prop} (hP : ∀ f g, P f g → Cg P' S' f g) (hS : ∀ f, S f → S' f) {f g : F} : Cg P S f g → Cg P' S' f g
  | .base h => hP _ _ h
  | .refl f => .refl f
  | .symm h => .symm (h.mono hP hS)
  | .trans h h2 => .trans (h.mono hP hS) (h2.mono hP hS)
  | .node h1 h2 h => .node (hS _ h1) (hS _ h2) (h.mono hP hS)
theorem CgL.mono {P P' : F → F → Prop} {S S' : F → Prop} (hP : ∀ f g, P f g → Cg P' S' f g) (hS : ∀ f, S f → S' f) {f g : F} : CgL P S f g → CgL P' S' f g
  | .nil => .nil
  | .cons h hr => .cons (h.mono hP hS) (hr.mono hP hS)
end

/-- what was told in another order is the same -/
theorem Cg.turn {P P' : F → F → Prop} {S S' : F → Prop} (hP : ∀ f g, P f g ↔ P' f g) (hS : ∀ f, S f ↔ S' f) {f g : F} : Cg P S f g ↔ Cg P' S' f g :=
  ⟨fun h => h.mono (fun f g hp => .base ((hP f g).1 hp)) (fun f hf => (hS f).1 hf), fun h => h.mono (fun f g hp => .base ((hP f g).2 hp)) (fun f hf => (hS f).2 hf)⟩

/-- operands related one by one -/
def Kids (R : F → F → Prop) : F → F → Prop
  | .nil, .nil => True
  | .cons o1 w1 f1 i1 k1 r1, .cons o2 w2 f2 i2 k2 r2 => R (.cons o1 w1 f1 i1 k1 .nil) (.cons o2 w2 f2 i2 k2 .nil) ∧ Kids R r1 r2
  | _, _ => False
/-- an equivalence that holds what was told and joins equal operations holds all that follows -/
structure Closed (P : F → F → Prop) (S : F → Prop) (R : F → F → Prop) : Prop where
  base : ∀ f g, P f g → R f g
  refl : ∀ f, R f f
  symm : ∀ f g, R f g → R g f
  trans : ∀ f g k, R f g → R g k → R f k
  node : ∀ op w fl imm ks ks', S (.cons op w fl imm ks .nil) → S (.cons op w fl imm ks' .nil) → Kids R ks ks' → R (.cons op w fl imm ks .nil) (.cons op w fl imm ks' .nil)
mutual
theorem Closed.least {P : F → F → Prop} {S : F → Prop} {R : F → F → Prop} (c : Closed P S R) {f g : F} : Cg P S f g → R f g
  | .base h => c.base _ _ h
  | .refl f => c.refl f
  | .symm h => c.symm _ _ (c.least h)
  | .trans h h2 => c.trans _ _ _ (c.least h) (c.least h2)
  | .node h1 h2 h => c.node _ _ _ _ _ _ h1 h2 (c.leastL h)
theorem Closed.leastL {P : F → F → Prop} {S : F → Prop} {R : F → F → Prop} (c : Closed P S R) {f g : F} : CgL P S f g → Kids R f g
  | .nil => trivial
  | .cons h hr => ⟨c.least h, c.leastL hr⟩
end
end E
end Go.Proofs.YtcmlmjbpdaecbaaGreat
end
section
namespace Go.Proofs.YtcmlmjbpdaecbaaGreat
set_option linter.unusedVariables false
set_option linter.unusedSimpArgs false
namespace E

/-- what a class has become -/
def root (p : List Nat) (c : Nat) : Nat := if h : p.getD c c < c then root p (p.getD c c) else c
termination_by c

theorem root_le (p : List Nat) (c : Nat) : root p c ≤ c := by
  induction c using Nat.strongRecOn with
  | _ c ih =>
    unfold root
    split
    · rename_i h; have := ih _ h; omega
    · exact Nat.le_refl _

/-- each parent stands at or below its child -/
def Down (p : List Nat) : Prop := ∀ c, c < p.length → p.getD c c ≤ c
theorem getD_out {p : List Nat} {c : Nat} (h : p.length ≤ c) : p.getD c c = c := by
  rw [List.getD_eq_getElem?_getD, List.getElem?_eq_none h]; rfl
theorem root_fix {p : List Nat} (hd : Down p) (c : Nat) : p.getD (root p c) (root p c) = root p c := by
  induction c using Nat.strongRecOn with
  | _ c ih =>
    unfold root
    split
    · rename_i h; exact ih _ h
    · rename_i h
      rcases Nat.lt_or_ge c p.length with hc | hc
      · have := hd c hc; omega
      · exact getD_out hc
theorem root_of_fix {p : List Nat} {c : Nat} (h : p.getD c c = c) : root p c = c := by
  unfold root
  rw [dif_neg (by omega)]
theorem root_root {p : List Nat} (hd : Down p) (c : Nat) : root p (root p c) = root p c := root_of_fix (root_fix hd c)
theorem root_step {p : List Nat} {c : Nat} (h : p.getD c c ≤ c) : root p (p.getD c c) = root p c := by
  rcases Nat.lt_or_ge (p.getD c c) c with h1 | h1
  · conv => rhs; unfold root
    rw [dif_pos h1]
  · rw [show p.getD c c = c by omega]

theorem getD_set {p : List Nat} {m k c : Nat} (hm : m < p.length) : (p.set m k).getD c c = if c = m then k else p.getD c c := by
  rw [List.getD_eq_getElem?_getD, List.getD_eq_getElem?_getD, List.getElem?_set]
  by_cases e : m = c
  · subst e
    rw [if_pos rfl, if_pos hm, if_pos rfl]; rfl
  · rw [if_neg e, if_neg (fun h => e h.symm)]
theorem down_set {p : List Nat} {m k : Nat} (hd : Down p) (hm : m < p.length) (hk : k ≤ m) : Down (p.set m k) := fun c hc => by
  rw [getD_set hm]
  rw [List.length_set] at hc
  split
  · rename_i e; subst e; exact hk
  · exact hd c hc
/-- two roots made one -/
theorem root_set {p : List Nat} {m k : Nat} (hd : Down p) (hm : m < p.length) (hk : k < m) (hrm : p.getD m m = m) (hrk : p.getD k k = k) (c : Nat) : root (p.set m k) c = if root p c = m then k else root p c := by
  induction c using Nat.strongRecOn with
  | _ c ih =>
    by_cases e : c = m
    · subst e
      have h1 : (p.set c k).getD c c = k := by rw [getD_set hm, if_pos rfl]
      have h2 : (p.set c k).getD k k = k := by rw [getD_set hm, if_neg (by omega)]; exact hrk
      rw [root_of_fix hrm, if_pos rfl]
      unfold root
      rw [dif_pos (by rw [h1]; exact hk), h1]
      exact root_of_fix h2
    · have h1 : (p.set m k).getD c c = p.getD c c := by rw [getD_set hm, if_neg e]
      rcases Nat.lt_or_ge (p.getD c c) c with h2 | h2
      · have h3 := ih _ h2
        have e1 : root (p.set m k) c = root (p.set m k) (p.getD c c) := by
          conv => lhs; unfold root
          rw [dif_pos (by rw [h1]; exact h2), h1]
        have e2 : root p c = root p (p.getD c c) := by
          conv => lhs; unfold root
          rw [dif_pos h2]
        rw [e1, e2, h3]
      · have hc : p.getD c c = c := by
          rcases Nat.lt_or_ge c p.length with hc | hc
          · have := hd c hc; omega
          · exact getD_out hc
        rw [root_of_fix hc, root_of_fix (by rw [h1]; exact hc), if_neg e]
end E
end Go.Proofs.YtcmlmjbpdaecbaaGreat
end
section
namespace Go.Proofs.YtcmlmjbpdaecbaaGreat
set_option linter.unusedVariables false
set_option linter.unusedSimpArgs false
namespace E

structure Opn where
  op : Int
  w : Int
  imm : Int
  a0 : Int
  a1 : Int
  a2 : Int
deriving DecidableEq, Inhabited

def cr (p : List Nat) (a : Int) : Int := if a < 0 then a else (root p a.toNat : Int)
/-- an operation over what its classes have become -/
def can (p : List Nat) (x : Opn) : Opn := ⟨x.op, x.w, x.imm, cr p x.a0, cr p x.a1, cr p x.a2⟩

/-- p' joins whatever p joins -/
def Coarse (p p' : List Nat) : Prop := ∀ c d, root p c = root p d → root p' c = root p' d
theorem Coarse.rfl_ (p : List Nat) : Coarse p p := fun _ _ h => h
theorem Coarse.trans {p q r : List Nat} (h : Coarse p q) (k : Coarse q r) : Coarse p r := fun c d e => k c d (h c d e)
theorem Coarse.root {p p' : List Nat} (h : Coarse p p') (hd : Down p) (c : Nat) : root p' (root p c) = root p' c := h _ _ (root_root hd c)
theorem Coarse.cr {p p' : List Nat} (h : Coarse p p') {a b : Int} (e : cr p a = cr p b) : cr p' a = cr p' b := by
  unfold E.cr at e ⊢
  split at e
  · rename_i h1
    split at e
    · rw [if_pos h1, e]; rw [e] at h1; rw [if_pos h1]
    · omega
  · rename_i h1
    split at e
    · omega
    · rename_i h2
      rw [if_neg h1, if_neg h2]
      exact congrArg _ (h _ _ (by omega))
theorem Coarse.can {p p' : List Nat} (h : Coarse p p') {x y : Opn} (e : can p x = can p y) : can p' x = can p' y := by
  unfold E.can at e ⊢
  simp only [Opn.mk.injEq] at e ⊢
  obtain ⟨e1, e2, e3, e4, e5, e6⟩ := e
  exact ⟨e1, e2, e3, h.cr e4, h.cr e5, h.cr e6⟩
theorem cr_cr {p : List Nat} (hd : Down p) (a : Int) : cr p (cr p a) = cr p a := by
  unfold cr
  by_cases h : a < 0
  · rw [if_pos h, if_pos h]
  · rw [if_neg h, if_neg (by omega), Int.toNat_natCast, root_root hd]
theorem can_can {p : List Nat} (hd : Down p) (x : Opn) : can p (can p x) = can p x := by
  unfold can
  simp only [cr_cr hd]

/-- two classes made one: the greater root stands at the smaller one -/
def join (p : List Nat) (a b : Nat) : List Nat := if root p a = root p b then p else p.set (max (root p a) (root p b)) (min (root p a) (root p b))
theorem root_lt {p : List Nat} {c : Nat} (h : c < p.length) : root p c < p.length := Nat.lt_of_le_of_lt (root_le p c) h
theorem join_spec {p : List Nat} (hd : Down p) {a b : Nat} (ha : a < p.length) (hb : b < p.length) : Down (join p a b) ∧ (join p a b).length = p.length ∧ ∀ c, root (join p a b) c = if root p c = max (root p a) (root p b) then min (root p a) (root p b) else root p c := by
  unfold join
  by_cases h : root p a = root p b
  · rw [if_pos h, h]
    refine ⟨hd, rfl, fun c => ?_⟩
    rw [Nat.max_self, Nat.min_self]
    split
    · rename_i e; exact e
    · rfl
  · rw [if_neg h]
    have h1 := root_lt ha
    have h2 := root_lt hb
    have f1 := root_fix hd a
    have f2 := root_fix hd b
    rcases Nat.lt_or_ge (root p a) (root p b) with hl | hl
    · rw [Nat.max_eq_right (by omega), Nat.min_eq_left (by omega)]
      exact ⟨down_set hd h2 (by omega), List.length_set, fun c => root_set hd h2 hl f2 f1 c⟩
    · rw [Nat.max_eq_left hl, Nat.min_eq_right hl]
      exact ⟨down_set hd h1 (by omega), List.length_set, fun c => root_set hd h1 (by omega) f1 f2 c⟩
theorem join_coarse {p : List Nat} (hd : Down p) {a b : Nat} (ha : a < p.length) (hb : b < p.length) : Coarse p (join p a b) ∧ root (join p a b) a = root (join p a b) b := by
  obtain ⟨_, _, h⟩ := join_spec hd ha hb
  refine ⟨fun c d e => by rw [h c, h d, e], ?_⟩
  rw [h a, h b]
  rcases Nat.le_total (root p a) (root p b) with hl | hl
  · rw [Nat.max_eq_right hl, Nat.min_eq_left hl, if_pos rfl]
    split <;> omega
  · rw [Nat.max_eq_left hl, Nat.min_eq_right hl, if_pos rfl]
    split <;> omega
end E
end Go.Proofs.YtcmlmjbpdaecbaaGreat
end
