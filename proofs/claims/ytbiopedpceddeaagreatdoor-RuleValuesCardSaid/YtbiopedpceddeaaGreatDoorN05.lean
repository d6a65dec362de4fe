/- Merged: QPlainM, QPlainR, QPlainN. -/
import Derived.Test.YtbiopedpceddeaaGreatDoorN04
set_option linter.unusedVariables false
set_option linter.unusedSimpArgs false
section
namespace Go.Proofs.YtbiopedpceddeaaGreatDoor
set_option linter.unusedVariables false
set_option linter.unusedSimpArgs false
namespace T
deriving instance DecidableEq for F
def F.len : F → Nat
  | .nil => 0
  | .cons _ _ _ _ _ rest => rest.len + 1

theorem Rep.len {t : List Nd} {la : List Int} {f : F} (r : Rep t la f) : f.len = la.length := by
  induction r with
  | nil => rfl
  | cons _ _ _ _ _ ih => simp [F.len, ih]

/-- the tree of one node -/
def canon (f : F) : List Nd := (cnn f []).1

theorem canon_inj {o1 w1 f1 i1 o2 w2 f2 i2 : Int} {k1 k2 : F} (h : canon (.cons o1 w1 f1 i1 k1 .nil) = canon (.cons o2 w2 f2 i2 k2 .nil)) : F.cons o1 w1 f1 i1 k1 .nil = F.cons o2 w2 f2 i2 k2 .nil := by
  have a1 := cnn_told (.cons o1 w1 f1 i1 k1 .nil) List.nodup_nil ord_nil
  have a2 := cnn_told (.cons o2 w2 f2 i2 k2 .nil) List.nodup_nil ord_nil
  have b1 := (cnn_last o1 w1 f1 i1 k1).1
  have b2 := (cnn_last o2 w2 f2 i2 k2).1
  unfold canon at h
  have r1 := a1.rep
  have r2 := a2.rep
  rw [b1] at r1
  rw [b2, ← h] at r2
  exact r1.det r2
end T

namespace R
open T (Nd F)

/-- what is bound -/
structure St where
  v : Int → Option F
  h : Int → Option Int

def St.setV (s : St) (i : Int) (f : F) : St := ⟨fun j => if j = i then some f else s.v j, s.h⟩
def St.setH (s : St) (i : Int) (n : Int) : St := ⟨s.v, fun j => if j = i then some n else s.h j⟩
def St.none : St := ⟨fun _ => Option.none, fun _ => Option.none⟩

/-- binds a variable -/
def bindV (s : St) (i : Int) (f : F) : Option St :=
  match s.v i with
  | .none => some (s.setV i f)
  | .some g => if g = f then some s else .none
def bindH (s : St) (i : Int) (n : Int) : Option St :=
  match s.h i with
  | .none => some (s.setH i n)
  | .some m => if m = n then some s else .none

def immAt (op w imm : Int) : Int := if op = 0 then imm % B.pw w else imm

/-- the program's way: from the root down, all at once -/
def fit (w : Int) : F → F → St → Option St
  | .cons pop pw pfl pimm pk pr, .cons op tw fl imm tk tr, s =>
    let w' := if pw = 0 then w else pw
    if tw ≠ w' then .none
    else if pop = 33 then (bindV s pimm (.cons op tw fl imm tk .nil)).bind (fit w pr tr)
    else if pop = 34 then (if op = 0 then (bindH s pimm imm).bind (fit w pr tr) else .none)
    else if op ≠ pop ∨ imm ≠ immAt pop w' pimm ∨ fl ≠ pfl ∨ pk.len ≠ tk.len then .none
    else (fit w pk tk s).bind (fit w pr tr)
  | .nil, .nil, s => some s
  | _, _, _ => .none

/-- in a pattern variables and holes have no width of their own -/
def Bare : F → Prop
  | .nil => True
  | .cons op w _ _ kids rest => ((op = 33 ∨ op = 34) → w = 0) ∧ Bare kids ∧ Bare rest

/-- the width at the first variable or hole -/
def wd1 : F → F → Int
  | .cons pop _ _ _ pk pr, .cons _ tw _ _ tk tr =>
    if 0 < (if pop = 33 ∨ pop = 34 then tw else if pk.len ≠ tk.len then 0 else wd1 pk tk) then (if pop = 33 ∨ pop = 34 then tw else if pk.len ≠ tk.len then 0 else wd1 pk tk) else wd1 pr tr
  | _, _ => 0

/-- variables replaced by trees -/
def sub (b : Int → F) : F → F
  | .nil => .nil
  | .cons op w fl imm kids rest => if op = 33 then (b imm).app (sub b rest) else .cons op w fl imm (sub b kids) (sub b rest)
end R
end Go.Proofs.YtbiopedpceddeaaGreatDoor
end
section
namespace Go.Proofs.YtbiopedpceddeaaGreatDoor
set_option linter.unusedVariables false
set_option linter.unusedSimpArgs false
namespace R
open T (Nd F)

structure Cd where
  kind : Int
  hole : Int
  imm : Int
deriving DecidableEq, Inhabited
structure Rl where
  left : List Nd
  right : List Nd
  pre : List Cd
deriving DecidableEq, Inhabited

def flOk (op fl : Int) : Bool :=
  if op = 1 ∨ op = 2 ∨ op = 3 ∨ op = 11 then decide (0 ≤ fl) && decide (fl ≤ 3)
  else if op = 4 ∨ op = 6 ∨ op = 12 ∨ op = 13 then decide (fl = 0) || decide (fl = 4)
  else decide (fl = 0)
/-- operands of an operation of patterns -/
def par (op : Int) : Int := if op = 34 then 0 else if op = 35 then 1 else if 16 ≤ op ∧ op ≤ 18 then -1 else T.ar op
def pimmOk (p : List Nd) (right : Bool) (x : Nd) : Bool :=
  if x.op = 0 then decide (x.w = 0) || B.isW x.w x.imm
  else if x.op = 33 ∨ x.op = 34 then decide (x.w = 0) && decide (x.imm < 2)
  else if x.op = 35 then right && decide (x.w = 0) && decide (x.imm = 0) && decide ((p.getD (x.args.getD 0 0).toNat default).op = 34)
  else if x.op = 14 then decide (x.w = 1) && decide (x.imm ≤ 9)
  else decide (x.imm = 0)
/-- a node of a pattern is right, but for the widths of its operands -/
def pnode (p : List Nd) (right : Bool) (k : Nat) (x : Nd) : Bool :=
  decide (0 ≤ par x.op) && decide ((x.args.length : Int) = par x.op) && decide (0 ≤ x.w) && decide (x.w ≤ 32) && flOk x.op x.fl && T.argsOk k x.args && pimmOk p right x
def cdOk (c : Cd) : Bool := decide (0 ≤ c.kind) && decide (c.kind ≤ 4) && decide (0 ≤ c.hole) && decide (c.hole < 2) && (decide (c.kind = 4) || decide (c.imm = 0))

/-- a term with flags -/
def fvalid (t : List Nd) : Int :=
  if t.length < 1 ∨ 300 < t.length then 3
  else if (t.all fun x => flOk x.op x.fl) = false then 1
  else T.valid false t

def need1 (p : List Nd) (o : List Bool) (k : Nat) : List Bool := (p.getD k default).args.foldl (fun o a => o.set a.toNat (o.getD a.toNat false || o.getD k false)) o
/-- which nodes lead to the root -/
def need (p : List Nd) : List Bool := (List.range p.length).reverse.foldl (need1 p) ((List.replicate p.length false).set (p.length - 1) true)
/-- a node that leads to the root is of this kind -/
def occ (p : List Nd) (op imm : Int) : Bool := (p.zip (need p)).any fun q => q.2 && decide (q.1.op = op) && decide (q.1.imm = imm)

def rootW (p : List Nd) : Int := (p.getD (p.length - 1) default).w

def rvalid (r : Rl) : Int :=
  if r.left.length < 1 ∨ 12 < r.left.length ∨ r.right.length < 1 ∨ 12 < r.right.length ∨ 4 < r.pre.length then 3
  else if ((r.left.zipIdx.all fun q => pnode r.left false q.2 q.1) && (r.right.zipIdx.all fun q => pnode r.right true q.2 q.1)) = false then 1
  else if (r.pre.all cdOk) = false then 1
  else if ((r.left.all (T.typed r.left)) && (r.right.all (T.typed r.right)) && decide (rootW r.left ≤ 1) && decide (rootW r.right = rootW r.left)) = false then 6
  else if ((r.right.all fun x => (!decide (x.op = 33 ∨ x.op = 34)) || occ r.left x.op x.imm) && (r.pre.all fun c => occ r.left 34 c.hole)) = false then 7
  else 0

end R
end Go.Proofs.YtbiopedpceddeaaGreatDoor
end
section
namespace Go.Proofs.YtbiopedpceddeaaGreatDoor
set_option linter.unusedVariables false
set_option linter.unusedSimpArgs false
namespace R
open T (Nd F)

/-- what is reached from nodes -/
inductive From (p : List Nd) (la : List Int) : Nat → Prop where
  | here {a : Int} (h : a ∈ la) : From p la a.toNat
  | next {k : Nat} {x : Nd} {a : Int} (h : From p la k) (hx : p[k]? = some x) (ha : a ∈ x.args) : From p la a.toNat

theorem From.sub {p : List Nd} {la bs : List Int} (h : ∀ a ∈ la, From p bs a.toNat) {k : Nat} (r : From p la k) : From p bs k := by
  induction r with
  | here ha => exact h _ ha
  | next _ hx ha ih => exact .next ih hx ha

theorem setTrue {o : List Bool} {a i : Nat} {b : Bool} (ha : a < o.length) : (o.set a (o.getD a false || b)).getD i false = (o.getD i false || (decide (i = a) && b)) := by
  simp only [List.getD_eq_getElem?_getD, List.getElem?_set]
  by_cases h : a = i
  · subst h
    simp [ha]
  · have : ¬ i = a := fun e => h e.symm
    simp [h, this]

theorem need_inner (k : Nat) : ∀ (l : List Int) (o : List Bool), k < o.length → (∀ a ∈ l, 0 ≤ a ∧ a < (k : Int)) →
    (l.foldl (fun o a => o.set a.toNat (o.getD a.toNat false || o.getD k false)) o).length = o.length ∧
    ∀ i, (l.foldl (fun o a => o.set a.toNat (o.getD a.toNat false || o.getD k false)) o).getD i false = (o.getD i false || ((l.any fun a => decide (a.toNat = i)) && o.getD k false)) := by
  intro l
  induction l with
  | nil => intro o _ _; simp
  | cons a l ih =>
    intro o hk hl
    have ha := hl a (by simp)
    have hak : a.toNat < o.length := by omega
    obtain ⟨h1, h2⟩ := ih (o.set a.toNat (o.getD a.toNat false || o.getD k false)) (by simpa using hk) (fun b hb => hl b (by simp [hb]))
    refine ⟨by simp only [List.foldl_cons]; rw [h1]; simp, fun i => ?_⟩
    simp only [List.foldl_cons]
    rw [h2 i, setTrue hak, setTrue hak]
    have hne : decide (k = a.toNat) = false := by simp; omega
    rw [hne]
    simp only [Bool.false_and, Bool.or_false, List.any_cons]
    have : decide (a.toNat = i) = decide (i = a.toNat) := by simp [eq_comm]
    rw [this]
    cases o.getD i false <;> cases decide (i = a.toNat) <;> cases o.getD k false <;> simp

structure NeedI (p : List Nd) (m : Nat) (o : List Bool) : Prop where
  len : o.length = p.length
  sound : ∀ i, o.getD i false = true → From p [((p.length : Int) - 1)] i
  root : o.getD (p.length - 1) false = true
  shut : ∀ k x, m ≤ k → p[k]? = some x → o.getD k false = true → ∀ a ∈ x.args, o.getD a.toNat false = true

theorem need_step {p : List Nd} (ho : T.Ord p) {m : Nat} {o : List Bool} (hm : m < p.length) (h : NeedI p (m + 1) o) : NeedI p m (need1 p o m) := by
  obtain ⟨h1, h2, h3, h4⟩ := h
  have hx := List.getElem?_eq_getElem hm
  have e : p.getD m default = p[m] := by rw [List.getD_eq_getElem?_getD, hx]; rfl
  obtain ⟨g1, g2⟩ := need_inner m (p[m]).args o (by omega) (ho m _ hx)
  unfold need1
  rw [e]
  refine ⟨by rw [g1]; exact h1, ?_, by rw [g2, h3]; rfl, ?_⟩
  · intro i hi
    rw [g2] at hi
    rcases Bool.or_eq_true_iff.1 hi with hi | hi
    · exact h2 i hi
    · obtain ⟨hi1, hi2⟩ := Bool.and_eq_true_iff.1 hi
      obtain ⟨a, ha, hai⟩ := List.any_eq_true.1 hi1
      have : a.toNat = i := by simpa using hai
      rw [← this]
      exact .next (h2 m hi2) hx ha
  · intro k x hk hkx hko a ha
    have hax := ho k x hkx a ha
    rw [g2] at hko
    rw [g2]
    have hkn : (p[m].args.any fun a => decide (a.toNat = k)) = false := by
      rw [List.any_eq_false]
      intro b hb
      have := ho m _ hx b hb
      simp; omega
    rw [hkn] at hko
    simp only [Bool.false_and, Bool.or_false] at hko
    rcases Nat.eq_or_lt_of_le hk with e | e
    · subst e
      rw [hx] at hkx
      cases hkx
      have : (p[m].args.any fun b => decide (b.toNat = a.toNat)) = true := List.any_eq_true.2 ⟨a, ha, by simp⟩
      rw [this, hko]
      simp
    · rw [h4 k x e hkx hko a ha]; rfl

theorem need_spec {p : List Nd} (ho : T.Ord p) (hp : 0 < p.length) : NeedI p 0 (need p) := by
  have start : NeedI p p.length ((List.replicate p.length false).set (p.length - 1) true) := by
    have hg : ∀ i, ((List.replicate p.length false).set (p.length - 1) true).getD i false = decide (i = p.length - 1) := by
      intro i
      simp only [List.getD_eq_getElem?_getD, List.getElem?_set]
      by_cases e : p.length - 1 = i
      · subst e
        have : p.length - 1 < p.length := by omega
        simp [this]
      · have : ¬ i = p.length - 1 := fun h => e h.symm
        simp [e, this, List.getElem?_replicate]
        split <;> rfl
    refine ⟨by simp, ?_, by rw [hg]; simp, ?_⟩
    · intro i hi
      rw [hg] at hi
      have : i = p.length - 1 := by simpa using hi
      have e : ((p.length : Int) - 1).toNat = i := by omega
      rw [← e]
      exact .here (by simp)
    · intro k x hk hkx
      have := (List.getElem?_eq_some_iff.1 hkx).1
      omega
  have go : ∀ (m : Nat), m ≤ p.length → ∀ o, NeedI p m o → NeedI p 0 ((List.range m).reverse.foldl (need1 p) o) := by
    intro m
    induction m with
    | zero => intro _ o h; simpa using h
    | succ m ih =>
      intro hm o h
      rw [List.range_succ, List.reverse_append]
      simp only [List.reverse_cons, List.reverse_nil, List.nil_append, List.singleton_append, List.foldl_cons]
      exact ih (by omega) _ (need_step ho (by omega) h)
  exact go _ (Nat.le_refl _) _ start

theorem need_iff {p : List Nd} (ho : T.Ord p) (hp : 0 < p.length) {k : Nat} : (need p).getD k false = true ↔ From p [((p.length : Int) - 1)] k := by
  have h := need_spec ho hp
  refine ⟨h.sound k, fun r => ?_⟩
  induction r with
  | here ha =>
    simp at ha
    subst ha
    have e : ((p.length : Int) - 1).toNat = p.length - 1 := by omega
    rw [e]; exact h.root
  | next _ hx ha ih => exact h.shut _ _ (Nat.zero_le _) hx ih _ ha

theorem occ_iff {p : List Nd} (ho : T.Ord p) (hp : 0 < p.length) {op imm : Int} : occ p op imm = true ↔ ∃ k x, From p [((p.length : Int) - 1)] k ∧ p[k]? = some x ∧ x.op = op ∧ x.imm = imm := by
  have hl := (need_spec ho hp).len
  unfold occ
  rw [List.any_eq_true]
  constructor
  · rintro ⟨⟨x, b⟩, hm, h⟩
    simp only [Bool.and_eq_true, decide_eq_true_eq] at h
    obtain ⟨k, hk⟩ := List.mem_iff_getElem?.1 hm
    rw [List.getElem?_zip_eq_some] at hk
    refine ⟨k, x, (need_iff ho hp).1 ?_, hk.1, h.1.2, h.2⟩
    rw [List.getD_eq_getElem?_getD, hk.2]
    exact h.1.1
  · rintro ⟨k, x, hr, hx, h1, h2⟩
    have hn := (need_iff ho hp).2 hr
    have hk : k < (need p).length := by rw [hl]; exact (List.getElem?_eq_some_iff.1 hx).1
    refine ⟨(x, true), List.mem_of_getElem? (i := k) ?_, by simp [h1, h2]⟩
    rw [List.getElem?_zip_eq_some]
    refine ⟨hx, ?_⟩
    rw [List.getD_eq_getElem?_getD, List.getElem?_eq_getElem hk] at hn
    rw [List.getElem?_eq_getElem hk]
    simpa using hn

/-- a label stands in a forest -/
def occF : F → Int → Int → Prop
  | .nil, _, _ => False
  | .cons op _ _ imm kids rest, o, i => (op = o ∧ imm = i) ∨ occF kids o i ∨ occF rest o i

theorem occF_from {p : List Nd} {la : List Int} {f : F} (r : T.Rep p la f) {o i : Int} : occF f o i ↔ ∃ k x, From p la k ∧ p[k]? = some x ∧ x.op = o ∧ x.imm = i := by
  induction r with
  | nil =>
    refine ⟨fun h => h.elim, ?_⟩
    rintro ⟨k, x, h, h'⟩
    exfalso
    clear h'
    induction h with
    | here ha => cases ha
    | next _ _ _ ih => exact ih
  | @cons a la x kids rest h0 hx hk hr ih1 ih2 =>
    simp only [occF]
    constructor
    · rintro (h | h | h)
      · exact ⟨a.toNat, x, .here (by simp), hx, h.1, h.2⟩
      · obtain ⟨k, y, h1, h2⟩ := ih1.1 h
        exact ⟨k, y, h1.sub fun b hb => .next (.here (by simp)) hx hb, h2⟩
      · obtain ⟨k, y, h1, h2⟩ := ih2.1 h
        exact ⟨k, y, h1.sub fun b hb => .here (by simp [hb]), h2⟩
    · rintro ⟨k, y, h1, h2⟩
      have : k = a.toNat ∨ From p x.args k ∨ From p la k := by
        clear h2
        induction h1 with
        | here ha =>
          rcases List.mem_cons.1 ha with rfl | ha
          · exact .inl rfl
          · exact .inr (.inr (.here ha))
        | next _ hy hb ih =>
          rcases ih with rfl | h | h
          · rw [hx] at hy
            cases hy
            exact .inr (.inl (.here hb))
          · exact .inr (.inl (.next h hy hb))
          · exact .inr (.inr (.next h hy hb))
      rcases this with rfl | h | h
      · rw [hx] at h2
        obtain ⟨h2, h3⟩ := h2
        cases h2
        exact .inl h3
      · exact .inr (.inl (ih1.2 ⟨k, y, h, h2⟩))
      · exact .inr (.inr (ih2.2 ⟨k, y, h, h2⟩))

theorem addN_mem {out : List Nd} {y z : Nd} : z ∈ (T.addN out y).1 ↔ z ∈ out ∨ z = y := by
  unfold T.addN
  by_cases h : y ∈ out
  · rw [if_pos h]
    exact ⟨.inl, fun h' => h'.elim id fun e => e ▸ h⟩
  · rw [if_neg h]; simp

end R
end Go.Proofs.YtbiopedpceddeaaGreatDoor
end
