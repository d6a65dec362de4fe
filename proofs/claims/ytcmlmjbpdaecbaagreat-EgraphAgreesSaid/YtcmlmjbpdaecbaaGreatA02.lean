/- Merged: QPlainT, QPlainS, QPlainM, QPlainN, QPlainE2, QPlainE3. -/
import Derived.Test.YtcmlmjbpdaecbaaGreatA01
set_option linter.unusedVariables false
set_option linter.unusedSimpArgs false
section
namespace Go.Proofs.YtcmlmjbpdaecbaaGreat.T
set_option linter.unusedVariables false
set_option linter.unusedSimpArgs false

/-- a node -/
structure Nd where
  op : Int
  w : Int
  fl : Int
  args : List Int
  imm : Int
deriving DecidableEq, Inhabited

/-- how many operands an operation has; -1: it is none of terms -/
def ar (op : Int) : Int := if op = 0 ∨ op = 33 then 0 else if 1 ≤ op ∧ op ≤ 14 then 2 else if op = 15 then 3 else if 16 ≤ op ∧ op ≤ 18 then 1 else -1
def immOk (x : Nd) : Bool := if x.op = 0 then B.isW x.w x.imm else if x.op = 33 then decide (x.imm < 4) else if x.op = 14 then decide (x.imm ≤ 9) else decide (x.imm = 0)
def argsOk (k : Nat) (l : List Int) : Bool := l.all fun a => decide (0 ≤ a) && decide (a < k)
/-- the node number k is as it must be, but for the widths of its operands; z: its flags must be 0 -/
def shaped (z : Bool) (k : Nat) (x : Nd) : Bool :=
  decide (0 ≤ ar x.op) && decide (1 ≤ x.w) && decide (x.w ≤ 32) && (!z || decide (x.fl = 0)) && decide ((x.args.length : Int) = ar x.op) && immOk x && (!decide (x.op = 14) || decide (x.w = 1)) && argsOk k x.args
/-- the width of operand number i -/
def wd (t : List Nd) (x : Nd) (i : Nat) : Int := (t.getD (x.args.getD i 0).toNat default).w
def typed (t : List Nd) (x : Nd) : Bool :=
  if 1 ≤ x.op ∧ x.op ≤ 13 then decide (wd t x 0 = x.w) && decide (wd t x 1 = x.w)
  else if x.op = 14 then decide (wd t x 0 = wd t x 1)
  else if x.op = 15 then decide (wd t x 0 = 1) && decide (wd t x 1 = x.w) && decide (wd t x 2 = x.w)
  else if x.op = 16 ∨ x.op = 17 then decide (wd t x 0 < x.w)
  else if x.op = 18 then decide (x.w < wd t x 0)
  else true
/-- two nodes are one variable at two widths -/
def clash (x y : Nd) : Bool := decide (x.op = 33) && decide (y.op = 33) && decide (x.imm = y.imm) && !decide (x.w = y.w)
def clashes : List Nd → Bool
  | [] => false
  | x :: t => t.any (clash x) || clashes t
/-- the first error of a term; z: flags must be 0 -/
def valid (z : Bool) (t : List Nd) : Int :=
  if t.length < 1 ∨ 300 < t.length then 3
  else if (t.zipIdx.all fun p => shaped z p.2 p.1) = false then 1
  else if (t.all (typed t)) = false then 6
  else if clashes t = true then 7 else 0
/-- the widths of the variables -/
def widths (t : List Nd) : List Int := t.foldl (fun l x => if x.op = 33 then l.set x.imm.toNat x.w else l) [0, 0, 0, 0]

/-- the first nodes are all right -/
def shapedTo (z : Bool) (t : List Nd) (j : Nat) : Prop := ∀ i x, i < j → t[i]? = some x → shaped z i x = true
theorem shaped_all {z : Bool} {t : List Nd} : (t.zipIdx.all fun p => shaped z p.2 p.1) = true ↔ ∀ i x, t[i]? = some x → shaped z i x = true := by
  rw [List.all_eq_true]
  constructor
  · intro h i x hx
    exact h (x, i) (List.mem_zipIdx_iff_getElem?.2 hx)
  · rintro h ⟨x, i⟩ hp
    exact h i x (List.mem_zipIdx_iff_getElem?.1 hp)
theorem shapedTo.all {z : Bool} {t : List Nd} {j : Nat} (h : shapedTo z t j) (hj : t.length ≤ j) : (t.zipIdx.all fun p => shaped z p.2 p.1) = true :=
  shaped_all.2 fun i x hx => h i x (by have := (List.getElem?_eq_some_iff.1 hx).1; omega) hx
theorem shapedTo.next {z : Bool} {t : List Nd} {j : Nat} {x : Nd} (h : shapedTo z t j) (hx : t[j]? = some x) (h2 : shaped z j x = true) : shapedTo z t (j + 1) := fun i y hi hy => by
  by_cases e : i = j
  · subst e; rw [hx] at hy; cases hy; exact h2
  · exact h i y (by omega) hy
theorem shaped_bad {z : Bool} {t : List Nd} {j : Nat} {x : Nd} (hx : t[j]? = some x) (h : shaped z j x = false) : (t.zipIdx.all fun p => shaped z p.2 p.1) = false := by
  cases e : t.zipIdx.all fun p => shaped z p.2 p.1
  · rfl
  · have := shaped_all.1 e j x hx
    rw [h] at this
    cases this
/-- what a right node has -/
theorem shaped_args {z : Bool} {k : Nat} {x : Nd} (h : shaped z k x = true) : (x.args.length : Int) = ar x.op ∧ 0 ≤ ar x.op ∧ 1 ≤ x.w ∧ x.w ≤ 32 ∧ immOk x = true ∧ ∀ a ∈ x.args, 0 ≤ a ∧ a < k := by
  unfold shaped at h
  simp only [Bool.and_eq_true, decide_eq_true_eq] at h
  obtain ⟨⟨⟨⟨⟨⟨⟨h1, h2⟩, h3⟩, _⟩, h5⟩, h6⟩, _⟩, h8⟩ := h
  refine ⟨h5, h1, h2, h3, h6, fun a ha => ?_⟩
  have := List.all_eq_true.1 h8 a ha
  simpa using this
def typedTo (t : List Nd) (j : Nat) : Prop := ∀ i x, i < j → t[i]? = some x → typed t x = true
theorem typedTo.all {t : List Nd} {j : Nat} (h : typedTo t j) (hj : t.length ≤ j) : (t.all (typed t)) = true := by
  rw [List.all_eq_true]
  intro x hx
  obtain ⟨i, hi⟩ := List.mem_iff_getElem?.1 hx
  exact h i x (by have := (List.getElem?_eq_some_iff.1 hi).1; omega) hi
theorem typedTo.next {t : List Nd} {j : Nat} {x : Nd} (h : typedTo t j) (hx : t[j]? = some x) (h2 : typed t x = true) : typedTo t (j + 1) := fun i y hi hy => by
  by_cases e : i = j
  · subst e; rw [hx] at hy; cases hy; exact h2
  · exact h i y (by omega) hy
theorem typed_bad {t : List Nd} {j : Nat} {x : Nd} (hx : t[j]? = some x) (h : typed t x = false) : (t.all (typed t)) = false := by
  cases e : t.all (typed t)
  · rfl
  · have := List.all_eq_true.1 e x (List.mem_of_getElem? hx)
    rw [h] at this
    cases this

/-- no two of the nodes clash -/
theorem clashes_iff {t : List Nd} : clashes t = false ↔ ∀ (i j : Nat) (x y : Nd), i < j → t[i]? = some x → t[j]? = some y → clash x y = false := by
  induction t with
  | nil => simp [clashes]
  | cons a t ih =>
    rw [clashes, Bool.or_eq_false_iff, ih]
    constructor
    · rintro ⟨h1, h2⟩ i j x y hij hx hy
      cases j with
      | zero => omega
      | succ j =>
        simp at hy
        cases i with
        | zero =>
          simp at hx; subst hx
          cases e : clash a y
          · rfl
          · exact absurd (List.any_eq_true.2 ⟨y, List.mem_of_getElem? hy, e⟩) (by rw [h1]; simp)
        | succ i => simp at hx; exact h2 i j x y (by omega) hx hy
    · intro h
      refine ⟨?_, fun i j x y hij hx hy => h (i + 1) (j + 1) x y (by omega) (by simpa using hx) (by simpa using hy)⟩
      cases e : t.any (clash a)
      · rfl
      · obtain ⟨y, hy, hc⟩ := List.any_eq_true.1 e
        obtain ⟨j, hj⟩ := List.mem_iff_getElem?.1 hy
        have := h 0 (j + 1) a y (by omega) rfl (by simpa using hj)
        rw [hc] at this
        cases this

theorem widths_snoc (t : List Nd) (x : Nd) : widths (t ++ [x]) = if x.op = 33 then (widths t).set x.imm.toNat x.w else widths t := by
  unfold widths; rw [List.foldl_append]; rfl
theorem snocInd {α : Type} {P : List α → Prop} (h0 : P []) (hs : ∀ l x, P l → P (l ++ [x])) (l : List α) : P l := by
  have h : ∀ r : List α, P r.reverse := by
    intro r
    induction r with
    | nil => exact h0
    | cons a r ih => rw [List.reverse_cons]; exact hs _ _ ih
  have := h l.reverse
  rwa [List.reverse_reverse] at this
theorem widths_len (t : List Nd) : (widths t).length = 4 := by
  refine snocInd (P := fun t => (widths t).length = 4) rfl (fun t x ih => ?_) t
  rw [widths_snoc]; split <;> simp [ih]
theorem clashes_front {t : List Nd} {y : Nd} (h : clashes (t ++ [y]) = false) : clashes t = false :=
  clashes_iff.2 fun i j a b hij ha hb => clashes_iff.1 h i j a b hij (by rw [List.getElem?_append_left (List.getElem?_eq_some_iff.1 ha).1]; exact ha) (by rw [List.getElem?_append_left (List.getElem?_eq_some_iff.1 hb).1]; exact hb)
/-- what the widths tell of a variable: the width of a node that is this variable, if nothing clashes -/
theorem widths_at {t : List Nd} : clashes t = false → (∀ y ∈ t, 0 ≤ y.imm) → ∀ {i : Nat} {x : Nd}, t[i]? = some x → x.op = 33 → x.imm < 4 → (widths t)[x.imm.toNat]? = some x.w := by
  refine snocInd (P := fun t => clashes t = false → (∀ y ∈ t, 0 ≤ y.imm) → ∀ {i : Nat} {x : Nd}, t[i]? = some x → x.op = 33 → x.imm < 4 → (widths t)[x.imm.toNat]? = some x.w) (fun _ _ i x hx => by simp at hx) (fun t y ih hc hp i x hx ho hi => ?_) t
  have hl := widths_len t
  rw [widths_snoc]
  by_cases hit : i < t.length
  · rw [List.getElem?_append_left hit] at hx
    have h1 := ih (clashes_front hc) (fun z hz => hp z (List.mem_append_left _ hz)) hx ho hi
    have hx0 := hp x (List.mem_append_left _ (List.mem_of_getElem? hx))
    have hy0 := hp y (by simp)
    split
    · rename_i hy
      by_cases he : y.imm.toNat = x.imm.toNat
      · rw [← he, List.getElem?_set_self (by omega)]
        have := clashes_iff.1 hc i t.length x y hit (by rw [List.getElem?_append_left hit]; exact hx) (by simp)
        unfold clash at this
        have e : x.imm = y.imm := by omega
        simp [ho, hy, e] at this
        rw [this]
      · rw [List.getElem?_set_ne he]; exact h1
    · exact h1
  · have hit2 : i = t.length := by
      have := (List.getElem?_eq_some_iff.1 hx).1
      simp at this; omega
    subst hit2
    simp at hx
    subst hx
    rw [if_pos ho, List.getElem?_set_self (by omega)]
/-- a variable of which there is no node has no width -/
theorem widths_none {t : List Nd} {v : Nat} (h : ∀ x ∈ t, x.op = 33 → x.imm.toNat ≠ v) (hv : v < 4) : (widths t)[v]? = some 0 := by
  revert h
  refine snocInd (P := fun t => (∀ x ∈ t, x.op = 33 → x.imm.toNat ≠ v) → (widths t)[v]? = some 0) (fun _ => ?_) (fun t y ih h => ?_) t
  · have : v = 0 ∨ v = 1 ∨ v = 2 ∨ v = 3 := by omega
    rcases this with rfl | rfl | rfl | rfl <;> rfl
  · rw [widths_snoc]
    have h1 := ih fun x hx => h x (List.mem_append_left _ hx)
    split
    · rename_i hy
      rw [List.getElem?_set_ne (h y (by simp) hy)]; exact h1
    · exact h1
end Go.Proofs.YtcmlmjbpdaecbaaGreat.T
end
section
namespace Go.Proofs.YtcmlmjbpdaecbaaGreat
set_option linter.unusedVariables false
set_option linter.unusedSimpArgs false
namespace T

/-- what nodes stand for: a forest -/
inductive F where
  | nil
  | cons (op w fl imm : Int) (kids rest : F)

def F.app : F → F → F
  | .nil, g => g
  | .cons op w fl imm kids rest, g => .cons op w fl imm kids (rest.app g)
def F.ht : F → Nat
  | .nil => 0
  | .cons _ _ _ _ kids rest => max (kids.ht + 1) rest.ht

def addN (out : List Nd) (y : Nd) : List Nd × Int := (if y ∈ out then out else out ++ [y], (out.idxOf y : Int))

/-- a forest told onto a list of nodes -/
def cnn : F → List Nd → List Nd × List Int
  | .nil, out => (out, [])
  | .cons op w fl imm kids rest, out =>
    ((cnn rest (addN (cnn kids out).1 ⟨op, w, fl, (cnn kids out).2, imm⟩).1).1,
      (addN (cnn kids out).1 ⟨op, w, fl, (cnn kids out).2, imm⟩).2 :: (cnn rest (addN (cnn kids out).1 ⟨op, w, fl, (cnn kids out).2, imm⟩).1).2)

/-- the nodes of these numbers stand for a forest -/
inductive Rep (t : List Nd) : List Int → F → Prop where
  | nil : Rep t [] .nil
  | cons {a : Int} {la : List Int} {x : Nd} {kids rest : F} (h0 : 0 ≤ a) (hx : t[a.toNat]? = some x) (hk : Rep t x.args kids) (hr : Rep t la rest) : Rep t (a :: la) (.cons x.op x.w x.fl x.imm kids rest)

/-- each operand stands ahead -/
def Ord (t : List Nd) : Prop := ∀ (k : Nat) (x : Nd), t[k]? = some x → ∀ a ∈ x.args, 0 ≤ a ∧ a < (k : Int)

theorem Rep.mono {t u : List Nd} (h : ∀ (i : Nat) (x : Nd), t[i]? = some x → u[i]? = some x) {la : List Int} {f : F} (r : Rep t la f) : Rep u la f := by
  induction r with
  | nil => exact .nil
  | cons h0 hx _ _ ih1 ih2 => exact .cons h0 (h _ _ hx) ih1 ih2

theorem Rep.det {t : List Nd} {la : List Int} {f g : F} (r : Rep t la f) : Rep t la g → f = g := by
  induction r generalizing g with
  | nil => intro s; cases s; rfl
  | cons h0 hx _ _ ih1 ih2 =>
    intro s
    cases s with
    | cons h0' hx' hk' hr' =>
      rw [hx] at hx'
      cases hx'
      rw [ih1 hk', ih2 hr']

theorem Rep.app {t : List Nd} {la bs : List Int} {f g : F} (r : Rep t la f) (s : Rep t bs g) : Rep t (la ++ bs) (f.app g) := by
  induction r with
  | nil => exact s
  | cons h0 hx hk _ _ ih2 => exact .cons h0 hx hk ih2

theorem Rep.ex {t : List Nd} (ho : Ord t) : ∀ (n : Nat), n ≤ t.length → ∀ (la : List Int), (∀ a ∈ la, 0 ≤ a ∧ a < (n : Int)) → ∃ f, Rep t la f := by
  intro n
  induction n with
  | zero =>
    intro _ la h
    cases la with
    | nil => exact ⟨_, .nil⟩
    | cons a la => have := h a (by simp); omega
  | succ n ih =>
    intro hn la h
    induction la with
    | nil => exact ⟨_, .nil⟩
    | cons a la ih2 =>
      obtain ⟨g, hg⟩ := ih2 (fun b hb => h b (by simp [hb]))
      have ha := h a (by simp)
      have hl : a.toNat < t.length := by omega
      have hx := List.getElem?_eq_getElem hl
      obtain ⟨f, hf⟩ := ih (by omega) (t[a.toNat]).args (fun b hb => by have := ho _ _ hx b hb; omega)
      exact ⟨_, .cons ha.1 hx hf hg⟩

theorem Rep.one {t : List Nd} (ho : Ord t) {k : Nat} (hk : k < t.length) : ∃ f, Rep t [(k : Int)] f := Rep.ex ho (k + 1) hk _ (fun a ha => by simp at ha; omega)

theorem addN_spec {out : List Nd} {y : Nd} (hn : out.Nodup) : out <+: (addN out y).1 ∧ (addN out y).1.Nodup ∧ 0 ≤ (addN out y).2 ∧ (addN out y).2 < (addN out y).1.length ∧ (addN out y).1[(addN out y).2.toNat]? = some y := by
  unfold addN
  by_cases h : y ∈ out
  · rw [if_pos h]
    have hl := List.idxOf_lt_length_of_mem h
    exact ⟨List.prefix_rfl, hn, by omega, by dsimp only; omega, by dsimp only; rw [Int.toNat_natCast, List.getElem?_eq_getElem hl]; simp⟩
  · rw [if_neg h]
    have e : List.idxOf y out = out.length := List.idxOf_eq_length h
    refine ⟨List.prefix_append _ _, ?_, by omega, by dsimp only; rw [e]; simp; omega, by dsimp only; rw [e]; simp⟩
    rw [List.nodup_append]
    exact ⟨hn, by simp, fun a ha b hb => by simp at hb; subst hb; exact fun e => h (e ▸ ha)⟩

theorem addN_ord {out : List Nd} {y : Nd} (ho : Ord out) (hy : ∀ a ∈ y.args, 0 ≤ a ∧ a < (out.length : Int)) : Ord (addN out y).1 := by
  unfold addN
  by_cases h : y ∈ out
  · rw [if_pos h]; exact ho
  · rw [if_neg h]
    intro k x hx a ha
    rcases Nat.lt_or_ge k out.length with hk | hk
    · rw [List.getElem?_append_left hk] at hx; exact ho k x hx a ha
    · rw [List.getElem?_append_right hk] at hx
      have : k - out.length = 0 := by
        rcases Nat.eq_zero_or_pos (k - out.length) with e | e
        · exact e
        · rw [List.getElem?_eq_none (by simp; omega)] at hx; cases hx
      rw [this] at hx
      simp at hx
      subst hx
      have := hy a ha
      omega

theorem pre_at {α : Type} {l m : List α} (h : l <+: m) (i : Nat) (x : α) (hx : l[i]? = some x) : m[i]? = some x := by
  obtain ⟨u, rfl⟩ := h
  rw [List.getElem?_append_left (List.getElem?_eq_some_iff.1 hx).1]
  exact hx

theorem pre_le {α : Type} {l m : List α} (h : l <+: m) : l.length ≤ m.length := h.length_le

theorem idx_at {out : List Nd} (hn : out.Nodup) {a : Nat} {x : Nd} (hx : out[a]? = some x) : x ∈ out ∧ out.idxOf x = a := by
  obtain ⟨hl, e⟩ := List.getElem?_eq_some_iff.1 hx
  refine ⟨List.mem_of_getElem? hx, ?_⟩
  subst e
  exact hn.idxOf_getElem a hl

/-- what is there already is not told again -/
theorem cnn_stable {out : List Nd} (hn : out.Nodup) {la : List Int} {f : F} (r : Rep out la f) : cnn f out = (out, la) := by
  induction r with
  | nil => rfl
  | @cons a la x kids rest h0 hx _ _ ih1 ih2 =>
    obtain ⟨hm, hi⟩ := idx_at hn hx
    have e : addN out ⟨x.op, x.w, x.fl, x.args, x.imm⟩ = (out, a) := by
      show addN out x = _
      unfold addN
      rw [if_pos hm, hi, Int.toNat_of_nonneg h0]
    simp only [cnn, ih1, e, ih2]

structure Told (out : List Nd) (r : List Nd × List Int) (f : F) : Prop where
  pre : out <+: r.1
  nd : r.1.Nodup
  ord : Ord r.1
  rep : Rep r.1 r.2 f
  lo : ∀ a ∈ r.2, 0 ≤ a ∧ a < (r.1.length : Int)

theorem cnn_told (f : F) : ∀ {out : List Nd}, out.Nodup → Ord out → Told out (cnn f out) f := by
  induction f with
  | nil => intro out hn ho; exact ⟨List.prefix_rfl, hn, ho, .nil, fun a ha => by simp [cnn] at ha⟩
  | cons op w fl imm kids rest ih1 ih2 =>
    intro out hn ho
    obtain ⟨p1, n1, o1, r1, l1⟩ := ih1 hn ho
    simp only [cnn]
    generalize hc1 : cnn kids out = c1 at *
    obtain ⟨p2, n2, z2, l2, g2⟩ := addN_spec (y := ⟨op, w, fl, c1.2, imm⟩) n1
    have o2 := addN_ord (y := ⟨op, w, fl, c1.2, imm⟩) o1 l1
    generalize hc2 : addN c1.1 ⟨op, w, fl, c1.2, imm⟩ = c2 at *
    obtain ⟨p3, n3, o3, r3, l3⟩ := ih2 n2 o2
    generalize hc3 : cnn rest c2.1 = c3 at *
    have hp : c1.1 <+: c3.1 := p2.trans p3
    refine ⟨p1.trans hp, n3, o3, ?_, ?_⟩
    · exact Rep.cons (x := ⟨op, w, fl, c1.2, imm⟩) z2 (pre_at p3 _ _ g2) (r1.mono (pre_at hp)) r3
    · intro a ha
      rcases List.mem_cons.1 ha with rfl | ha
      · have := pre_le p3; dsimp only; omega
      · exact l3 a ha

theorem cnn_app (f g : F) : ∀ (out : List Nd), cnn (f.app g) out = ((cnn g (cnn f out).1).1, (cnn f out).2 ++ (cnn g (cnn f out).1).2) := by
  induction f with
  | nil => intro out; rfl
  | cons op w fl imm kids rest _ ih2 => intro out; simp only [F.app, cnn, ih2]; rfl

/-- of these nodes none is higher -/
def Low (out : List Nd) (h : Nat) : Prop := ∀ (i : Int) (f : F), Rep out [i] f → f.ht ≤ h

theorem ord_nil : Ord [] := fun k x h => by simp at h
theorem low_nil (h : Nat) : Low [] h := fun i f r => by cases r with | cons h0 hx _ _ => simp at hx

theorem Rep.cut {out u : List Nd} (ho : Ord out) {i : Int} {f : F} (hi : i < (out.length : Int)) (r : Rep (out ++ u) [i] f) : Rep out [i] f := by
  have h0 : 0 ≤ i := by cases r with | cons h0 _ _ _ => exact h0
  obtain ⟨g, hg⟩ := Rep.ex ho out.length (Nat.le_refl _) [i] (fun a ha => by simp at ha; omega)
  have := (hg.mono (u := out ++ u) (fun k x hx => pre_at (List.prefix_append _ _) k x hx)).det r
  rw [← this]; exact hg

theorem low_add {out : List Nd} {y : Nd} {h : Nat} {kids : F} (ho : Ord out) (hy : ∀ a ∈ y.args, 0 ≤ a ∧ a < (out.length : Int)) (hk : Rep out y.args kids) (hl : Low out h) : Low (addN out y).1 (max h (kids.ht + 1)) := by
  unfold addN
  by_cases hm : y ∈ out
  · rw [if_pos hm]; intro i f r; have := hl i f r; omega
  · rw [if_neg hm]
    intro i f r
    rcases Int.lt_or_le i out.length with hi | hi
    · have := hl i f (r.cut ho hi); omega
    · cases r with
      | @cons _ _ x kids' rest h0 hx hk' hr =>
        cases hr
        have hi' : i.toNat = out.length := by
          have := (List.getElem?_eq_some_iff.1 hx).1
          simp at this
          omega
        rw [hi'] at hx
        simp at hx
        subst hx
        have e := (hk.mono (u := out ++ [y]) (fun k x hx => pre_at (List.prefix_append _ _) k x hx)).det hk'
        subst e
        simp only [F.ht]
        omega

theorem cnn_low (f : F) : ∀ {out : List Nd} {h : Nat}, out.Nodup → Ord out → Low out h → Low (cnn f out).1 (max h f.ht) := by
  induction f with
  | nil => intro out h _ _ hl i f r; have := hl i f r; omega
  | cons op w fl imm kids rest ih1 ih2 =>
    intro out h hn ho hl
    have t1 := cnn_told kids hn ho
    have l1 := ih1 hn ho hl
    simp only [cnn]
    have s2 := addN_spec (y := ⟨op, w, fl, (cnn kids out).2, imm⟩) t1.nd
    have o2 := addN_ord (y := ⟨op, w, fl, (cnn kids out).2, imm⟩) t1.ord t1.lo
    have l2 := low_add (y := ⟨op, w, fl, (cnn kids out).2, imm⟩) t1.ord t1.lo t1.rep l1
    have l3 := ih2 s2.2.1 o2 l2
    intro i g r
    have := l3 i g r
    simp only [F.ht]
    omega

/-- the root of a tree that is told alone stands at the end -/
theorem cnn_last (op w fl imm : Int) (kids : F) : (cnn (.cons op w fl imm kids .nil) []).2 = [((cnn (.cons op w fl imm kids .nil) []).1.length : Int) - 1] ∧ 1 ≤ (cnn (.cons op w fl imm kids .nil) []).1.length := by
  have t1 := cnn_told kids List.nodup_nil ord_nil
  have l1 := cnn_low kids List.nodup_nil ord_nil (low_nil 0)
  simp only [cnn]
  have hm : (⟨op, w, fl, (cnn kids []).2, imm⟩ : Nd) ∉ (cnn kids []).1 := by
    intro hm
    obtain ⟨i, hi⟩ := List.mem_iff_getElem?.1 hm
    have := l1 i _ (Rep.cons (x := ⟨op, w, fl, (cnn kids []).2, imm⟩) (by omega) (by rw [Int.toNat_natCast]; exact hi) t1.rep .nil)
    simp only [F.ht] at this
    omega
  unfold addN
  rw [if_neg hm, List.idxOf_eq_length hm]
  simp
end T
end Go.Proofs.YtcmlmjbpdaecbaaGreat
end
section
namespace Go.Proofs.YtcmlmjbpdaecbaaGreat
set_option linter.unusedVariables false
set_option linter.unusedSimpArgs false
namespace T
deriving instance DecidableEq for F
def F.len : F → Nat
  | .nil => 0
  | .cons _ _ _ _ _ rest => rest.len + 1

theorem Rep.len {t : List Nd} {la : List Int} {f : F} (r : Rep t la f) : f.len = la.length := by
  induction r with
  | nil => rfl
  | cons _ _ _ _ _ ih => simp [F.len, ih]

/-- the tree of one node -/
def canon (f : F) : List Nd := (cnn f []).1

end T

namespace R
open T (Nd F)

end R
end Go.Proofs.YtcmlmjbpdaecbaaGreat
end
section
namespace Go.Proofs.YtcmlmjbpdaecbaaGreat
set_option linter.unusedVariables false
set_option linter.unusedSimpArgs false
namespace R
open T (Nd F)

theorem addN_mem {out : List Nd} {y z : Nd} : z ∈ (T.addN out y).1 ↔ z ∈ out ∨ z = y := by
  unfold T.addN
  by_cases h : y ∈ out
  · rw [if_pos h]
    exact ⟨.inl, fun h' => h'.elim id fun e => e ▸ h⟩
  · rw [if_neg h]; simp

end R
end Go.Proofs.YtcmlmjbpdaecbaaGreat
end
section
namespace Go.Proofs.YtcmlmjbpdaecbaaGreat
set_option linter.unusedVariables false
set_option linter.unusedSimpArgs false
namespace E

/-- what a class has become -/
def root (p : List Nat) (c : Nat) : Nat := if h : p.getD c c < c then root p (p.getD c c) else c
termination_by c

theorem root_le (p : List Nat) (c : Nat) : root p c ≤ c := by
  induction c using Nat.strongRecOn with
  | _ c ih =>
    unfold root
    split
    · rename_i h; have := ih _ h; omega
    · exact Nat.le_refl _

/-- each parent stands at or below its child -/
def Down (p : List Nat) : Prop := ∀ c, c < p.length → p.getD c c ≤ c
theorem getD_out {p : List Nat} {c : Nat} (h : p.length ≤ c) : p.getD c c = c := by
  rw [List.getD_eq_getElem?_getD, List.getElem?_eq_none h]; rfl
theorem root_fix {p : List Nat} (hd : Down p) (c : Nat) : p.getD (root p c) (root p c) = root p c := by
  induction c using Nat.strongRecOn with
  | _ c ih =>
    unfold root
    split
    · rename_i h; exact ih _ h
    · rename_i h
      rcases Nat.lt_or_ge c p.length with hc | hc
      · have := hd c hc; omega
      · exact getD_out hc
theorem root_of_fix {p : List Nat} {c : Nat} (h : p.getD c c = c) : root p c = c := by
  unfold root
  rw [dif_neg (by omega)]
theorem root_root {p : List Nat} (hd : Down p) (c : Nat) : root p (root p c) = root p c := root_of_fix (root_fix hd c)
theorem root_step {p : List Nat} {c : Nat} (h : p.getD c c ≤ c) : root p (p.getD c c) = root p c := by
  rcases Nat.lt_or_ge (p.getD c c) c with h1 | h1
  · conv => rhs; unfold root
    rw [dif_pos h1]
  · rw [show p.getD c c = c by omega]

theorem getD_set {p : List Nat} {m k c : Nat} (hm : m < p.length) : (p.set m k).getD c c = if c = m then k else p.getD c c := by
  rw [List.getD_eq_getElem?_getD, List.getD_eq_getElem?_getD, List.getElem?_set]
  by_cases e : m = c
  · subst e
    rw [if_pos rfl, if_pos hm, if_pos rfl]; rfl
  · rw [if_neg e, if_neg (fun h => e h.symm)]
theorem down_set {p : List Nat} {m k : Nat} (hd : Down p) (hm : m < p.length) (hk : k ≤ m) : Down (p.set m k) := fun c hc => by
  rw [getD_set hm]
  rw [List.length_set] at hc
  split
  · rename_i e; subst e; exact hk
  · exact hd c hc
/-- two roots made one -/
theorem root_set {p : List Nat} {m k : Nat} (hd : Down p) (hm : m < p.length) (hk : k < m) (hrm : p.getD m m = m) (hrk : p.getD k k = k) (c : Nat) : root (p.set m k) c = if root p c = m then k else root p c := by
  induction c using Nat.strongRecOn with
  | _ c ih =>
    by_cases e : c = m
    · subst e
      have h1 : (p.set c k).getD c c = k := by rw [getD_set hm, if_pos rfl]
      have h2 : (p.set c k).getD k k = k := by rw [getD_set hm, if_neg (by omega)]; exact hrk
      rw [root_of_fix hrm, if_pos rfl]
      unfold root
      rw [dif_pos (by rw [h1]; exact hk), h1]
      exact root_of_fix h2
    · have h1 : (p.set m k).getD c c = p.getD c c := by rw [getD_set hm, if_neg e]
      rcases Nat.lt_or_ge (p.getD c c) c with h2 | h2
      · have h3 := ih _ h2
        have e1 : root (p.set m k) c = root (p.set m k) (p.getD c c) := by
          conv => lhs; unfold root
          rw [dif_pos (by rw [h1]; exact h2), h1]
        have e2 : root p c = root p (p.getD c c) := by
          conv => lhs; unfold root
          rw [dif_pos h2]
        rw [e1, e2, h3]
      · have hc : p.getD c c = c := by
          rcases Nat.lt_or_ge c p.length with hc | hc
          · have := hd c hc; omega
          · exact getD_out hc
        rw [root_of_fix hc, root_of_fix (by rw [h1]; exact hc), if_neg e]
end E
end Go.Proofs.YtcmlmjbpdaecbaaGreat
end
section
namespace Go.Proofs.YtcmlmjbpdaecbaaGreat
set_option linter.unusedVariables false
set_option linter.unusedSimpArgs false
namespace E

structure Opn where
  op : Int
  w : Int
  imm : Int
  a0 : Int
  a1 : Int
  a2 : Int
deriving DecidableEq, Inhabited

def cr (p : List Nat) (a : Int) : Int := if a < 0 then a else (root p a.toNat : Int)
/-- an operation over what its classes have become -/
def can (p : List Nat) (x : Opn) : Opn := ⟨x.op, x.w, x.imm, cr p x.a0, cr p x.a1, cr p x.a2⟩

/-- p' joins whatever p joins -/
def Coarse (p p' : List Nat) : Prop := ∀ c d, root p c = root p d → root p' c = root p' d
theorem Coarse.rfl_ (p : List Nat) : Coarse p p := fun _ _ h => h
theorem Coarse.trans {p q r : List Nat} (h : Coarse p q) (k : Coarse q r) : Coarse p r := fun c d e => k c d (h c d e)
theorem Coarse.root {p p' : List Nat} (h : Coarse p p') (hd : Down p) (c : Nat) : root p' (root p c) = root p' c := h _ _ (root_root hd c)
theorem Coarse.cr {p p' : List Nat} (h : Coarse p p') {a b : Int} (e : cr p a = cr p b) : cr p' a = cr p' b := by
  unfold E.cr at e ⊢
  split at e
  · rename_i h1
    split at e
    · rw [if_pos h1, e]; rw [e] at h1; rw [if_pos h1]
    · omega
  · rename_i h1
    split at e
    · omega
    · rename_i h2
      rw [if_neg h1, if_neg h2]
      exact congrArg _ (h _ _ (by omega))
theorem Coarse.can {p p' : List Nat} (h : Coarse p p') {x y : Opn} (e : can p x = can p y) : can p' x = can p' y := by
  unfold E.can at e ⊢
  simp only [Opn.mk.injEq] at e ⊢
  obtain ⟨e1, e2, e3, e4, e5, e6⟩ := e
  exact ⟨e1, e2, e3, h.cr e4, h.cr e5, h.cr e6⟩
theorem cr_cr {p : List Nat} (hd : Down p) (a : Int) : cr p (cr p a) = cr p a := by
  unfold cr
  by_cases h : a < 0
  · rw [if_pos h, if_pos h]
  · rw [if_neg h, if_neg (by omega), Int.toNat_natCast, root_root hd]
theorem can_can {p : List Nat} (hd : Down p) (x : Opn) : can p (can p x) = can p x := by
  unfold can
  simp only [cr_cr hd]

/-- two classes made one: the greater root stands at the smaller one -/
def join (p : List Nat) (a b : Nat) : List Nat := if root p a = root p b then p else p.set (max (root p a) (root p b)) (min (root p a) (root p b))
theorem root_lt {p : List Nat} {c : Nat} (h : c < p.length) : root p c < p.length := Nat.lt_of_le_of_lt (root_le p c) h
theorem join_spec {p : List Nat} (hd : Down p) {a b : Nat} (ha : a < p.length) (hb : b < p.length) : Down (join p a b) ∧ (join p a b).length = p.length ∧ ∀ c, root (join p a b) c = if root p c = max (root p a) (root p b) then min (root p a) (root p b) else root p c := by
  unfold join
  by_cases h : root p a = root p b
  · rw [if_pos h, h]
    refine ⟨hd, rfl, fun c => ?_⟩
    rw [Nat.max_self, Nat.min_self]
    split
    · rename_i e; exact e
    · rfl
  · rw [if_neg h]
    have h1 := root_lt ha
    have h2 := root_lt hb
    have f1 := root_fix hd a
    have f2 := root_fix hd b
    rcases Nat.lt_or_ge (root p a) (root p b) with hl | hl
    · rw [Nat.max_eq_right (by omega), Nat.min_eq_left (by omega)]
      exact ⟨down_set hd h2 (by omega), List.length_set, fun c => root_set hd h2 hl f2 f1 c⟩
    · rw [Nat.max_eq_left hl, Nat.min_eq_right hl]
      exact ⟨down_set hd h1 (by omega), List.length_set, fun c => root_set hd h1 (by omega) f1 f2 c⟩
theorem join_coarse {p : List Nat} (hd : Down p) {a b : Nat} (ha : a < p.length) (hb : b < p.length) : Coarse p (join p a b) ∧ root (join p a b) a = root (join p a b) b := by
  obtain ⟨_, _, h⟩ := join_spec hd ha hb
  refine ⟨fun c d e => by rw [h c, h d, e], ?_⟩
  rw [h a, h b]
  rcases Nat.le_total (root p a) (root p b) with hl | hl
  · rw [Nat.max_eq_right hl, Nat.min_eq_left hl, if_pos rfl]
    split <;> omega
  · rw [Nat.max_eq_left hl, Nat.min_eq_right hl, if_pos rfl]
    split <;> omega
end E
end Go.Proofs.YtcmlmjbpdaecbaaGreat
end
