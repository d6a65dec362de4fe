/- Merged: PlainT, PlainS, PlainM. -/
import Derived.Test.YtcmlmjbpdaecbaaGreatC01
set_option linter.unusedVariables false
set_option linter.unusedSimpArgs false
section
namespace Go.Proofs.YtcmlmjbpdaecbaaGreat.T
set_option linter.unusedVariables false
set_option linter.unusedSimpArgs false

/-- a node -/
structure Nd where
  op : Int
  w : Int
  fl : Int
  args : List Int
  imm : Int
deriving DecidableEq, Inhabited

/-- how many operands an operation has; -1: it is none of terms -/
def ar (op : Int) : Int := if op = 0 ∨ op = 33 then 0 else if 1 ≤ op ∧ op ≤ 14 then 2 else if op = 15 then 3 else if 16 ≤ op ∧ op ≤ 18 then 1 else -1
def immOk (x : Nd) : Bool := if x.op = 0 then B.isW x.w x.imm else if x.op = 33 then decide (x.imm < 4) else if x.op = 14 then decide (x.imm ≤ 9) else decide (x.imm = 0)
def argsOk (k : Nat) (l : List Int) : Bool := l.all fun a => decide (0 ≤ a) && decide (a < k)
/-- the node number k is as it must be, but for the widths of its operands; z: its flags must be 0 -/
def shaped (z : Bool) (k : Nat) (x : Nd) : Bool :=
  decide (0 ≤ ar x.op) && decide (1 ≤ x.w) && decide (x.w ≤ 32) && (!z || decide (x.fl = 0)) && decide ((x.args.length : Int) = ar x.op) && immOk x && (!decide (x.op = 14) || decide (x.w = 1)) && argsOk k x.args
/-- the width of operand number i -/
def wd (t : List Nd) (x : Nd) (i : Nat) : Int := (t.getD (x.args.getD i 0).toNat default).w
def typed (t : List Nd) (x : Nd) : Bool :=
  if 1 ≤ x.op ∧ x.op ≤ 13 then decide (wd t x 0 = x.w) && decide (wd t x 1 = x.w)
  else if x.op = 14 then decide (wd t x 0 = wd t x 1)
  else if x.op = 15 then decide (wd t x 0 = 1) && decide (wd t x 1 = x.w) && decide (wd t x 2 = x.w)
  else if x.op = 16 ∨ x.op = 17 then decide (wd t x 0 < x.w)
  else if x.op = 18 then decide (x.w < wd t x 0)
  else true
/-- two nodes are one variable at two widths -/
def clash (x y : Nd) : Bool := decide (x.op = 33) && decide (y.op = 33) && decide (x.imm = y.imm) && !decide (x.w = y.w)
def clashes : List Nd → Bool
  | [] => false
  | x :: t => t.any (clash x) || clashes t
/-- the first error of a term; z: flags must be 0 -/
def valid (z : Bool) (t : List Nd) : Int :=
  if t.length < 1 ∨ 300 < t.length then 3
  else if (t.zipIdx.all fun p => shaped z p.2 p.1) = false then 1
  else if (t.all (typed t)) = false then 6
  else if clashes t = true then 7 else 0
/-- the widths of the variables -/
def widths (t : List Nd) : List Int := t.foldl (fun l x => if x.op = 33 then l.set x.imm.toNat x.w else l) [0, 0, 0, 0]

/-- the first nodes are all right -/
def shapedTo (z : Bool) (t : List Nd) (j : Nat) : Prop := ∀ i x, i < j → t[i]? = some x → shaped z i x = true
theorem shaped_all {z : Bool} {t : List Nd} : (t.zipIdx.all fun p => shaped z p.2 p.1) = true ↔ ∀ i x, t[i]? = some x → shaped z i x = true := by
  rw [List.all_eq_true]
  constructor
  · intro h i x hx
    exact h (x, i) (List.mem_zipIdx_iff_getElem?.2 hx)
  · rintro h ⟨x, i⟩ hp
    exact h i x (List.mem_zipIdx_iff_getElem?.1 hp)
theorem shapedTo.all {z : Bool} {t : List Nd} {j : Nat} (h : shapedTo z t j) (hj : t.length ≤ j) : (t.zipIdx.all fun p => shaped z p.2 p.1) = true :=
  shaped_all.2 fun i x hx => h i x (by have := (List.getElem?_eq_some_iff.1 hx).1; omega) hx
theorem shapedTo.next {z : Bool} {t : List Nd} {j : Nat} {x : Nd} (h : shapedTo z t j) (hx : t[j]? = some x) (h2 : shaped z j x = true) : shapedTo z t (j + 1) := fun i y hi hy => by
  by_cases e : i = j
  · subst e; rw [hx] at hy; cases hy; exact h2
  · exact h i y (by omega) hy
theorem shaped_bad {z : Bool} {t : List Nd} {j : Nat} {x : Nd} (hx : t[j]? = some x) (h : shaped z j x = false) : (t.zipIdx.all fun p => shaped z p.2 p.1) = false := by
  cases e : t.zipIdx.all fun p => shaped z p.2 p.1
  · rfl
  · have := shaped_all.1 e j x hx
    rw [h] at this
    cases this
/-- what a right node has -/
theorem shaped_args {z : Bool} {k : Nat} {x : Nd} (h : shaped z k x = true) : (x.args.length : Int) = ar x.op ∧ 0 ≤ ar x.op ∧ 1 ≤ x.w ∧ x.w ≤ 32 ∧ immOk x = true ∧ ∀ a ∈ x.args, 0 ≤ a ∧ a < k := by
  unfold shaped at h
  simp only [Bool.and_eq_true, decide_eq_true_eq] at h
  obtain ⟨⟨⟨⟨⟨⟨⟨h1, h2⟩, h3⟩, _⟩, h5⟩, h6⟩, _⟩, h8⟩ := h
  refine ⟨h5, h1, h2, h3, h6, fun a ha => ?_⟩
  have := List.all_eq_true.1 h8 a ha
  simpa using this
def typedTo (t : List Nd) (j : Nat) : Prop := ∀ i x, i < j → t[i]? = some x → typed t x = true
theorem typedTo.all {t : List Nd} {j : Nat} (h : typedTo t j) (hj : t.length ≤ j) : (t.all (typed t)) = true := by
  rw [List.all_eq_true]
  intro x hx
  obtain ⟨i, hi⟩ := List.mem_iff_getElem?.1 hx
  exact h i x (by have := (List.getElem?_eq_some_iff.1 hi).1; omega) hi
theorem typedTo.next {t : List Nd} {j : Nat} {x : Nd} (h : typedTo t j) (hx : t[j]? = some x) (h2 : typed t x = true) : typedTo t (j + 1) := fun i y hi hy => by
  by_cases e : i = j
  · subst e; rw [hx] at hy; cases hy; exact h2
  · exact h i y (by omega) hy
theorem typed_bad {t : List Nd} {j : Nat} {x : Nd} (hx : t[j]? = some x) (h : typed t x = false) : (t.all (typed t)) = false := by
  cases e : t.all (typed t)
  · rfl
  · have := List.all_eq_true.1 e x (List.mem_of_getElem? hx)
    rw [h] at this
    cases this

/-- no two of the nodes clash -/
theorem clashes_iff {t : List Nd} : clashes t = false ↔ ∀ (i j : Nat) (x y : Nd), i < j → t[i]? = some x → t[j]? = some y → clash x y = false := by
  induction t with
  | nil => simp [clashes]
  | cons a t ih =>
    rw [clashes, Bool.or_eq_false_iff, ih]
    constructor
    · rintro ⟨h1, h2⟩ i j x y hij hx hy
      cases j with
      | zero => omega
      | succ j =>
        simp at hy
        cases i with
        | zero =>
          simp at hx; subst hx
          cases e : clash a y
          · rfl
          · exact absurd (List.any_eq_true.2 ⟨y, List.mem_of_getElem? hy, e⟩) (by rw [h1]; simp)
        | succ i => simp at hx; exact h2 i j x y (by omega) hx hy
    · intro h
      refine ⟨?_, fun i j x y hij hx hy => h (i + 1) (j + 1) x y (by omega) (by simpa using hx) (by simpa using hy)⟩
      cases e : t.any (clash a)
      · rfl
      · obtain ⟨y, hy, hc⟩ := List.any_eq_true.1 e
        obtain ⟨j, hj⟩ := List.mem_iff_getElem?.1 hy
        have := h 0 (j + 1) a y (by omega) rfl (by simpa using hj)
        rw [hc] at this
        cases this

/-- the widths of the first nodes' variables -/
def widthsTo (t : List Nd) (j : Nat) : List Int := widths (t.take j)
theorem widths_snoc (t : List Nd) (x : Nd) : widths (t ++ [x]) = if x.op = 33 then (widths t).set x.imm.toNat x.w else widths t := by
  unfold widths; rw [List.foldl_append]; rfl
theorem snocInd {α : Type} {P : List α → Prop} (h0 : P []) (hs : ∀ l x, P l → P (l ++ [x])) (l : List α) : P l := by
  have h : ∀ r : List α, P r.reverse := by
    intro r
    induction r with
    | nil => exact h0
    | cons a r ih => rw [List.reverse_cons]; exact hs _ _ ih
  have := h l.reverse
  rwa [List.reverse_reverse] at this
theorem widths_len (t : List Nd) : (widths t).length = 4 := by
  refine snocInd (P := fun t => (widths t).length = 4) rfl (fun t x ih => ?_) t
  rw [widths_snoc]; split <;> simp [ih]
theorem clashes_front {t : List Nd} {y : Nd} (h : clashes (t ++ [y]) = false) : clashes t = false :=
  clashes_iff.2 fun i j a b hij ha hb => clashes_iff.1 h i j a b hij (by rw [List.getElem?_append_left (List.getElem?_eq_some_iff.1 ha).1]; exact ha) (by rw [List.getElem?_append_left (List.getElem?_eq_some_iff.1 hb).1]; exact hb)
/-- what the widths tell of a variable: the width of a node that is this variable, if nothing clashes -/
theorem widths_at {t : List Nd} : clashes t = false → (∀ y ∈ t, 0 ≤ y.imm) → ∀ {i : Nat} {x : Nd}, t[i]? = some x → x.op = 33 → x.imm < 4 → (widths t)[x.imm.toNat]? = some x.w := by
  refine snocInd (P := fun t => clashes t = false → (∀ y ∈ t, 0 ≤ y.imm) → ∀ {i : Nat} {x : Nd}, t[i]? = some x → x.op = 33 → x.imm < 4 → (widths t)[x.imm.toNat]? = some x.w) (fun _ _ i x hx => by simp at hx) (fun t y ih hc hp i x hx ho hi => ?_) t
  have hl := widths_len t
  rw [widths_snoc]
  by_cases hit : i < t.length
  · rw [List.getElem?_append_left hit] at hx
    have h1 := ih (clashes_front hc) (fun z hz => hp z (List.mem_append_left _ hz)) hx ho hi
    have hx0 := hp x (List.mem_append_left _ (List.mem_of_getElem? hx))
    have hy0 := hp y (by simp)
    split
    · rename_i hy
      by_cases he : y.imm.toNat = x.imm.toNat
      · rw [← he, List.getElem?_set_self (by omega)]
        have := clashes_iff.1 hc i t.length x y hit (by rw [List.getElem?_append_left hit]; exact hx) (by simp)
        unfold clash at this
        have e : x.imm = y.imm := by omega
        simp [ho, hy, e] at this
        rw [this]
      · rw [List.getElem?_set_ne he]; exact h1
    · exact h1
  · have hit2 : i = t.length := by
      have := (List.getElem?_eq_some_iff.1 hx).1
      simp at this; omega
    subst hit2
    simp at hx
    subst hx
    rw [if_pos ho, List.getElem?_set_self (by omega)]
/-- a variable of which there is no node has no width -/
theorem widths_none {t : List Nd} {v : Nat} (h : ∀ x ∈ t, x.op = 33 → x.imm.toNat ≠ v) (hv : v < 4) : (widths t)[v]? = some 0 := by
  revert h
  refine snocInd (P := fun t => (∀ x ∈ t, x.op = 33 → x.imm.toNat ≠ v) → (widths t)[v]? = some 0) (fun _ => ?_) (fun t y ih h => ?_) t
  · have : v = 0 ∨ v = 1 ∨ v = 2 ∨ v = 3 := by omega
    rcases this with rfl | rfl | rfl | rfl <;> rfl
  · rw [widths_snoc]
    have h1 := ih fun x hx => h x (List.mem_append_left _ hx)
    split
    · rename_i hy
      rw [List.getElem?_set_ne (h y (by simp) hy)]; exact h1
    · exact h1
end Go.Proofs.YtcmlmjbpdaecbaaGreat.T
end
section
namespace Go.Proofs.YtcmlmjbpdaecbaaGreat
set_option linter.unusedVariables false
set_option linter.unusedSimpArgs false
namespace T

/-- what nodes stand for: a forest -/
inductive F where
  | nil
  | cons (op w fl imm : Int) (kids rest : F)

def F.app : F → F → F
  | .nil, g => g
  | .cons op w fl imm kids rest, g => .cons op w fl imm kids (rest.app g)
def F.ht : F → Nat
  | .nil => 0
  | .cons _ _ _ _ kids rest => max (kids.ht + 1) rest.ht

def addN (out : List Nd) (y : Nd) : List Nd × Int := (if y ∈ out then out else out ++ [y], (out.idxOf y : Int))

/-- a forest told onto a list of nodes -/
def cnn : F → List Nd → List Nd × List Int
  | .nil, out => (out, [])
  | .cons op w fl imm kids rest, out =>
    ((cnn rest (addN (cnn kids out).1 ⟨op, w, fl, (cnn kids out).2, imm⟩).1).1,
      (addN (cnn kids out).1 ⟨op, w, fl, (cnn kids out).2, imm⟩).2 :: (cnn rest (addN (cnn kids out).1 ⟨op, w, fl, (cnn kids out).2, imm⟩).1).2)

/-- the nodes of these numbers stand for a forest -/
inductive Rep (t : List Nd) : List Int → F → Prop where
  | nil : Rep t [] .nil
  | cons {a : Int} {la : List Int} {x : Nd} {kids rest : F} (h0 : 0 ≤ a) (hx : t[a.toNat]? = some x) (hk : Rep t x.args kids) (hr : Rep t la rest) : Rep t (a :: la) (.cons x.op x.w x.fl x.imm kids rest)

/-- each operand stands ahead -/
def Ord (t : List Nd) : Prop := ∀ (k : Nat) (x : Nd), t[k]? = some x → ∀ a ∈ x.args, 0 ≤ a ∧ a < (k : Int)

theorem Rep.mono {t u : List Nd} (h : ∀ (i : Nat) (x : Nd), t[i]? = some x → u[i]? = some x) {la : List Int} {f : F} (r : Rep t la f) : Rep u la f := by
  induction r with
  | nil => exact .nil
  | cons h0 hx _ _ ih1 ih2 => exact .cons h0 (h _ _ hx) ih1 ih2

theorem Rep.det {t : List Nd} {la : List Int} {f g : F} (r : Rep t la f) : Rep t la g → f = g := by
  induction r generalizing g with
  | nil => intro s; cases s; rfl
  | cons h0 hx _ _ ih1 ih2 =>
    intro s
    cases s with
    | cons h0' hx' hk' hr' =>
      rw [hx] at hx'
      cases hx'
      rw [ih1 hk', ih2 hr']

theorem Rep.app {t : List Nd} {la bs : List Int} {f g : F} (r : Rep t la f) (s : Rep t bs g) : Rep t (la ++ bs) (f.app g) := by
  induction r with
  | nil => exact s
  | cons h0 hx hk _ _ ih2 => exact .cons h0 hx hk ih2

theorem Rep.ex {t : List Nd} (ho : Ord t) : ∀ (n : Nat), n ≤ t.length → ∀ (la : List Int), (∀ a ∈ la, 0 ≤ a ∧ a < (n : Int)) → ∃ f, Rep t la f := by
  intro n
  induction n with
  | zero =>
    intro _ la h
    cases la with
    | nil => exact ⟨_, .nil⟩
    | cons a la => have := h a (by simp); omega
  | succ n ih =>
    intro hn la h
    induction la with
    | nil => exact ⟨_, .nil⟩
    | cons a la ih2 =>
      obtain ⟨g, hg⟩ := ih2 (fun b hb => h b (by simp [hb]))
      have ha := h a (by simp)
      have hl : a.toNat < t.length := by omega
      have hx := List.getElem?_eq_getElem hl
      obtain ⟨f, hf⟩ := ih (by omega) (t[a.toNat]).args (fun b hb => by have := ho _ _ hx b hb; omega)
      exact ⟨_, .cons ha.1 hx hf hg⟩

theorem Rep.one {t : List Nd} (ho : Ord t) {k : Nat} (hk : k < t.length) : ∃ f, Rep t [(k : Int)] f := Rep.ex ho (k + 1) hk _ (fun a ha => by simp at ha; omega)

theorem addN_spec {out : List Nd} {y : Nd} (hn : out.Nodup) : out <+: (addN out y).1 ∧ (addN out y).1.Nodup ∧ 0 ≤ (addN out y).2 ∧ (addN out y).2 < (addN out y).1.length ∧ (addN out y).1[(addN out y).2.toNat]? = some y := by
  unfold addN
  by_cases h : y ∈ out
  · rw [if_pos h]
    have hl := List.idxOf_lt_length_of_mem h
    exact ⟨List.prefix_rfl, hn, by omega, by dsimp only; omega, by dsimp only; rw [Int.toNat_natCast, List.getElem?_eq_getElem hl]; simp⟩
  · rw [if_neg h]
    have e : List.idxOf y out = out.length := List.idxOf_eq_length h
    refine ⟨List.prefix_append _ _, ?_, by omega, by dsimp only; rw [e]; simp; omega, by dsimp only; rw [e]; simp⟩
    rw [List.nodup_append]
    exact ⟨hn, by simp, fun a ha b hb => by simp at hb; subst hb; exact fun e => h (e ▸ ha)⟩

theorem addN_ord {out : List Nd} {y : Nd} (ho : Ord out) (hy : ∀ a ∈ y.args, 0 ≤ a ∧ a < (out.length : Int)) : Ord (addN out y).1 := by
  unfold addN
  by_cases h : y ∈ out
  · rw [if_pos h]; exact ho
  · rw [if_neg h]
    intro k x hx a ha
    rcases Nat.lt_or_ge k out.length with hk | hk
    · rw [List.getElem?_append_left hk] at hx; exact ho k x hx a ha
    · rw [List.getElem?_append_right hk] at hx
      have : k - out.length = 0 := by
        rcases Nat.eq_zero_or_pos (k - out.length) with e | e
        · exact e
        · rw [List.getElem?_eq_none (by simp; omega)] at hx; cases hx
      rw [this] at hx
      simp at hx
      subst hx
      have := hy a ha
      omega

theorem pre_at {α : Type} {l m : List α} (h : l <+: m) (i : Nat) (x : α) (hx : l[i]? = some x) : m[i]? = some x := by
  obtain ⟨u, rfl⟩ := h
  rw [List.getElem?_append_left (List.getElem?_eq_some_iff.1 hx).1]
  exact hx

theorem pre_le {α : Type} {l m : List α} (h : l <+: m) : l.length ≤ m.length := h.length_le

theorem idx_at {out : List Nd} (hn : out.Nodup) {a : Nat} {x : Nd} (hx : out[a]? = some x) : x ∈ out ∧ out.idxOf x = a := by
  obtain ⟨hl, e⟩ := List.getElem?_eq_some_iff.1 hx
  refine ⟨List.mem_of_getElem? hx, ?_⟩
  subst e
  exact hn.idxOf_getElem a hl

/-- what is there already is not told again -/
theorem cnn_stable {out : List Nd} (hn : out.Nodup) {la : List Int} {f : F} (r : Rep out la f) : cnn f out = (out, la) := by
  induction r with
  | nil => rfl
  | @cons a la x kids rest h0 hx _ _ ih1 ih2 =>
    obtain ⟨hm, hi⟩ := idx_at hn hx
    have e : addN out ⟨x.op, x.w, x.fl, x.args, x.imm⟩ = (out, a) := by
      show addN out x = _
      unfold addN
      rw [if_pos hm, hi, Int.toNat_of_nonneg h0]
    simp only [cnn, ih1, e, ih2]

structure Told (out : List Nd) (r : List Nd × List Int) (f : F) : Prop where
  pre : out <+: r.1
  nd : r.1.Nodup
  ord : Ord r.1
  rep : Rep r.1 r.2 f
  lo : ∀ a ∈ r.2, 0 ≤ a ∧ a < (r.1.length : Int)

theorem cnn_told (f : F) : ∀ {out : List Nd}, out.Nodup → Ord out → Told out (cnn f out) f := by
  induction f with
  | nil => intro out hn ho; exact ⟨List.prefix_rfl, hn, ho, .nil, fun a ha => by simp [cnn] at ha⟩
  | cons op w fl imm kids rest ih1 ih2 =>
    intro out hn ho
    obtain ⟨p1, n1, o1, r1, l1⟩ := ih1 hn ho
    simp only [cnn]
    generalize hc1 : cnn kids out = c1 at *
    obtain ⟨p2, n2, z2, l2, g2⟩ := addN_spec (y := ⟨op, w, fl, c1.2, imm⟩) n1
    have o2 := addN_ord (y := ⟨op, w, fl, c1.2, imm⟩) o1 l1
    generalize hc2 : addN c1.1 ⟨op, w, fl, c1.2, imm⟩ = c2 at *
    obtain ⟨p3, n3, o3, r3, l3⟩ := ih2 n2 o2
    generalize hc3 : cnn rest c2.1 = c3 at *
    have hp : c1.1 <+: c3.1 := p2.trans p3
    refine ⟨p1.trans hp, n3, o3, ?_, ?_⟩
    · exact Rep.cons (x := ⟨op, w, fl, c1.2, imm⟩) z2 (pre_at p3 _ _ g2) (r1.mono (pre_at hp)) r3
    · intro a ha
      rcases List.mem_cons.1 ha with rfl | ha
      · have := pre_le p3; dsimp only; omega
      · exact l3 a ha

theorem cnn_app (f g : F) : ∀ (out : List Nd), cnn (f.app g) out = ((cnn g (cnn f out).1).1, (cnn f out).2 ++ (cnn g (cnn f out).1).2) := by
  induction f with
  | nil => intro out; rfl
  | cons op w fl imm kids rest _ ih2 => intro out; simp only [F.app, cnn, ih2]; rfl

/-- of these nodes none is higher -/
def Low (out : List Nd) (h : Nat) : Prop := ∀ (i : Int) (f : F), Rep out [i] f → f.ht ≤ h

theorem ord_nil : Ord [] := fun k x h => by simp at h
theorem low_nil (h : Nat) : Low [] h := fun i f r => by cases r with | cons h0 hx _ _ => simp at hx

theorem Rep.cut {out u : List Nd} (ho : Ord out) {i : Int} {f : F} (hi : i < (out.length : Int)) (r : Rep (out ++ u) [i] f) : Rep out [i] f := by
  have h0 : 0 ≤ i := by cases r with | cons h0 _ _ _ => exact h0
  obtain ⟨g, hg⟩ := Rep.ex ho out.length (Nat.le_refl _) [i] (fun a ha => by simp at ha; omega)
  have := (hg.mono (u := out ++ u) (fun k x hx => pre_at (List.prefix_append _ _) k x hx)).det r
  rw [← this]; exact hg

theorem low_add {out : List Nd} {y : Nd} {h : Nat} {kids : F} (ho : Ord out) (hy : ∀ a ∈ y.args, 0 ≤ a ∧ a < (out.length : Int)) (hk : Rep out y.args kids) (hl : Low out h) : Low (addN out y).1 (max h (kids.ht + 1)) := by
  unfold addN
  by_cases hm : y ∈ out
  · rw [if_pos hm]; intro i f r; have := hl i f r; omega
  · rw [if_neg hm]
    intro i f r
    rcases Int.lt_or_le i out.length with hi | hi
    · have := hl i f (r.cut ho hi); omega
    · cases r with
      | @cons _ _ x kids' rest h0 hx hk' hr =>
        cases hr
        have hi' : i.toNat = out.length := by
          have := (List.getElem?_eq_some_iff.1 hx).1
          simp at this
          omega
        rw [hi'] at hx
        simp at hx
        subst hx
        have e := (hk.mono (u := out ++ [y]) (fun k x hx => pre_at (List.prefix_append _ _) k x hx)).det hk'
        subst e
        simp only [F.ht]
        omega

theorem cnn_low (f : F) : ∀ {out : List Nd} {h : Nat}, out.Nodup → Ord out → Low out h → Low (cnn f out).1 (max h f.ht) := by
  induction f with
  | nil => intro out h _ _ hl i f r; have := hl i f r; omega
  | cons op w fl imm kids rest ih1 ih2 =>
    intro out h hn ho hl
    have t1 := cnn_told kids hn ho
    have l1 := ih1 hn ho hl
    simp only [cnn]
    have s2 := addN_spec (y := ⟨op, w, fl, (cnn kids out).2, imm⟩) t1.nd
    have o2 := addN_ord (y := ⟨op, w, fl, (cnn kids out).2, imm⟩) t1.ord t1.lo
    have l2 := low_add (y := ⟨op, w, fl, (cnn kids out).2, imm⟩) t1.ord t1.lo t1.rep l1
    have l3 := ih2 s2.2.1 o2 l2
    intro i g r
    have := l3 i g r
    simp only [F.ht]
    omega

/-- the root of a tree that is told alone stands at the end -/
theorem cnn_last (op w fl imm : Int) (kids : F) : (cnn (.cons op w fl imm kids .nil) []).2 = [((cnn (.cons op w fl imm kids .nil) []).1.length : Int) - 1] ∧ 1 ≤ (cnn (.cons op w fl imm kids .nil) []).1.length := by
  have t1 := cnn_told kids List.nodup_nil ord_nil
  have l1 := cnn_low kids List.nodup_nil ord_nil (low_nil 0)
  simp only [cnn]
  have hm : (⟨op, w, fl, (cnn kids []).2, imm⟩ : Nd) ∉ (cnn kids []).1 := by
    intro hm
    obtain ⟨i, hi⟩ := List.mem_iff_getElem?.1 hm
    have := l1 i _ (Rep.cons (x := ⟨op, w, fl, (cnn kids []).2, imm⟩) (by omega) (by rw [Int.toNat_natCast]; exact hi) t1.rep .nil)
    simp only [F.ht] at this
    omega
  unfold addN
  rw [if_neg hm, List.idxOf_eq_length hm]
  simp
end T
end Go.Proofs.YtcmlmjbpdaecbaaGreat
end
section
namespace Go.Proofs.YtcmlmjbpdaecbaaGreat
set_option linter.unusedVariables false
set_option linter.unusedSimpArgs false
namespace T
deriving instance DecidableEq for F
def F.len : F → Nat
  | .nil => 0
  | .cons _ _ _ _ _ rest => rest.len + 1

theorem Rep.len {t : List Nd} {la : List Int} {f : F} (r : Rep t la f) : f.len = la.length := by
  induction r with
  | nil => rfl
  | cons _ _ _ _ _ ih => simp [F.len, ih]

/-- the tree of one node -/
def canon (f : F) : List Nd := (cnn f []).1

theorem canon_inj {o1 w1 f1 i1 o2 w2 f2 i2 : Int} {k1 k2 : F} (h : canon (.cons o1 w1 f1 i1 k1 .nil) = canon (.cons o2 w2 f2 i2 k2 .nil)) : F.cons o1 w1 f1 i1 k1 .nil = F.cons o2 w2 f2 i2 k2 .nil := by
  have a1 := cnn_told (.cons o1 w1 f1 i1 k1 .nil) List.nodup_nil ord_nil
  have a2 := cnn_told (.cons o2 w2 f2 i2 k2 .nil) List.nodup_nil ord_nil
  have b1 := (cnn_last o1 w1 f1 i1 k1).1
  have b2 := (cnn_last o2 w2 f2 i2 k2).1
  unfold canon at h
  have r1 := a1.rep
  have r2 := a2.rep
  rw [b1] at r1
  rw [b2, ← h] at r2
  exact r1.det r2
end T

namespace R
open T (Nd F)

/-- what is bound -/
structure St where
  v : Int → Option F
  h : Int → Option Int

def St.setV (s : St) (i : Int) (f : F) : St := ⟨fun j => if j = i then some f else s.v j, s.h⟩
def St.setH (s : St) (i : Int) (n : Int) : St := ⟨s.v, fun j => if j = i then some n else s.h j⟩
def St.none : St := ⟨fun _ => Option.none, fun _ => Option.none⟩

/-- binds a variable -/
def bindV (s : St) (i : Int) (f : F) : Option St :=
  match s.v i with
  | .none => some (s.setV i f)
  | .some g => if g = f then some s else .none
def bindH (s : St) (i : Int) (n : Int) : Option St :=
  match s.h i with
  | .none => some (s.setH i n)
  | .some m => if m = n then some s else .none

def immAt (op w imm : Int) : Int := if op = 0 then imm % B.pw w else imm

/-- the program's way: from the root down, all at once -/
def fit (w : Int) : F → F → St → Option St
  | .cons pop pw pfl pimm pk pr, .cons op tw fl imm tk tr, s =>
    let w' := if pw = 0 then w else pw
    if tw ≠ w' then .none
    else if pop = 33 then (bindV s pimm (.cons op tw fl imm tk .nil)).bind (fit w pr tr)
    else if pop = 34 then (if op = 0 then (bindH s pimm imm).bind (fit w pr tr) else .none)
    else if op ≠ pop ∨ imm ≠ immAt pop w' pimm ∨ fl ≠ pfl ∨ pk.len ≠ tk.len then .none
    else (fit w pk tk s).bind (fit w pr tr)
  | .nil, .nil, s => some s
  | _, _, _ => .none

/-- a node of a pattern without its operands, and a tree -/
structure Pr where
  op : Int
  w : Int
  fl : Int
  imm : Int
  top : Int
  tw : Int
  tfl : Int
  timm : Int
  tk : F

/-- the reference's way: first the pairs -/
def prs : F → F → Option (List Pr)
  | .cons pop pw pfl pimm pk pr, .cons op tw fl imm tk tr =>
    if pop = 33 then (prs pr tr).map (⟨pop, pw, pfl, pimm, op, tw, fl, imm, tk⟩ :: ·)
    else if pop = 34 then (if op = 0 then (prs pr tr).map (⟨pop, pw, pfl, pimm, op, tw, fl, imm, tk⟩ :: ·) else .none)
    else if op ≠ pop ∨ pk.len ≠ tk.len then .none
    else (prs pk tk).bind fun l => (prs pr tr).map fun m => ⟨pop, pw, pfl, pimm, op, tw, fl, imm, tk⟩ :: (l ++ m)
  | .nil, .nil => some []
  | _, _ => .none

def bnd (w : Int) (s : St) (x : Pr) : Option St :=
  if x.op = 33 then (if x.tw ≠ w then .none else bindV s x.imm (.cons x.top x.tw x.tfl x.timm x.tk .nil))
  else if x.op = 34 then (if x.tw ≠ w then .none else bindH s x.imm x.timm)
  else
    let w' := if x.w = 0 then w else x.w
    if x.tw = w' ∧ x.timm = immAt x.op w' x.imm ∧ x.tfl = x.fl then some s else .none

def bnds (w : Int) : List Pr → St → Option St
  | [], s => some s
  | x :: l, s => (bnd w s x).bind (bnds w l)

theorem bnds_app (w : Int) (l m : List Pr) (s : St) : bnds w (l ++ m) s = (bnds w l s).bind (bnds w m) := by
  induction l generalizing s with
  | nil => rfl
  | cons x l ih =>
    simp only [List.cons_append, bnds]
    cases bnd w s x with
    | none => rfl
    | some s' => simp [ih]

/-- in a pattern variables and holes have no width of their own -/
def Bare : F → Prop
  | .nil => True
  | .cons op w _ _ kids rest => ((op = 33 ∨ op = 34) → w = 0) ∧ Bare kids ∧ Bare rest

theorem fit_prs (w : Int) : ∀ (p t : F), Bare p → ∀ (s : St), fit w p t s = (prs p t).bind fun l => bnds w l s := by
  intro p
  induction p with
  | nil => intro t _ s; cases t <;> simp [fit, prs, bnds]
  | cons pop pw pfl pimm pk pr ih1 ih2 =>
    intro t hb s
    obtain ⟨h0, hb1, hb2⟩ := hb
    cases t with
    | nil => simp [fit, prs]
    | cons op tw fl imm tk tr =>
      have i1 := ih1 tk hb1
      have i2 := ih2 tr hb2
      simp only [fit, prs]
      by_cases e1 : pop = 33
      · have := h0 (.inl e1)
        simp only [if_pos e1, this, if_true]
        cases hq : prs pr tr with
        | none =>
          simp only [hq, Option.map_none, Option.bind_none]
          split
          · rfl
          · cases bindV s pimm (.cons op tw fl imm tk .nil) with
            | none => rfl
            | some s' => simp [i2, hq]
        | some l =>
          simp only [hq, Option.map_some, Option.bind_some, bnds, bnd, if_pos e1]
          split
          · rfl
          · cases bindV s pimm (.cons op tw fl imm tk .nil) with
            | none => rfl
            | some s' => simp [i2, hq]
      · rw [if_neg e1, if_neg e1]
        by_cases e2 : pop = 34
        · have := h0 (.inr e2)
          simp only [if_pos e2, this, if_true]
          by_cases e3 : op = 0
          · simp only [if_pos e3]
            cases hq : prs pr tr with
            | none =>
              simp only [hq, Option.map_none, Option.bind_none]
              split
              · rfl
              · cases bindH s pimm imm with
                | none => rfl
                | some s' => simp [i2, hq]
            | some l =>
              simp only [hq, Option.map_some, Option.bind_some, bnds, bnd, if_neg e1, if_pos e2]
              split
              · rfl
              · cases bindH s pimm imm with
                | none => rfl
                | some s' => simp [i2, hq]
          · simp [e3]
        · rw [if_neg e2, if_neg e2]
          by_cases e4 : op ≠ pop ∨ pk.len ≠ tk.len
          · rw [if_pos e4]
            have : op ≠ pop ∨ imm ≠ immAt pop (if pw = 0 then w else pw) pimm ∨ fl ≠ pfl ∨ pk.len ≠ tk.len := by
              rcases e4 with e | e
              · exact .inl e
              · exact .inr (.inr (.inr e))
            simp [this]
          · have e5 : op = pop ∧ pk.len = tk.len := by
              constructor
              · exact Decidable.byContradiction fun h => e4 (.inl h)
              · exact Decidable.byContradiction fun h => e4 (.inr h)
            rw [if_neg e4]
            generalize hw' : (if pw = 0 then w else pw) = w'
            have hfit : (if tw ≠ w' then Option.none else if op ≠ pop ∨ imm ≠ immAt pop w' pimm ∨ fl ≠ pfl ∨ pk.len ≠ tk.len then Option.none else (fit w pk tk s).bind (fit w pr tr)) = (if tw = w' ∧ imm = immAt pop w' pimm ∧ fl = pfl then (fit w pk tk s).bind (fit w pr tr) else Option.none) := by
              by_cases a1 : tw = w'
              · by_cases a2 : imm = immAt pop w' pimm
                · by_cases a3 : fl = pfl <;> simp [a1, a2, a3, e5.1, e5.2]
                · simp [a1, a2]
              · simp [a1]
            rw [hfit]
            cases hp : prs pk tk with
            | none =>
              simp only [Option.bind_none, i1, hp]
              split <;> rfl
            | some l =>
              cases hq : prs pr tr with
              | none =>
                simp only [Option.bind_some, Option.map_none, Option.bind_none, i1, hp]
                split
                · cases bnds w l s with
                  | none => rfl
                  | some s' => simp [i2, hq]
                · rfl
              | some m =>
                simp only [Option.bind_some, Option.map_some, bnds, bnd, if_neg e1, if_neg e2, hw', i1, hp]
                by_cases e7 : tw = w' ∧ imm = immAt pop w' pimm ∧ fl = pfl
                · rw [if_pos e7, if_pos e7]
                  simp only [Option.bind_some]
                  rw [bnds_app]
                  cases bnds w l s with
                  | none => rfl
                  | some s' => simp [i2, hq]
                · rw [if_neg e7, if_neg e7]
                  rfl

/-- the width at the first variable or hole -/
def wd1 : F → F → Int
  | .cons pop _ _ _ pk pr, .cons _ tw _ _ tk tr =>
    if 0 < (if pop = 33 ∨ pop = 34 then tw else if pk.len ≠ tk.len then 0 else wd1 pk tk) then (if pop = 33 ∨ pop = 34 then tw else if pk.len ≠ tk.len then 0 else wd1 pk tk) else wd1 pr tr
  | _, _ => 0

def wd2 : List Pr → Int
  | [] => 0
  | x :: l => if x.op = 33 ∨ x.op = 34 then x.tw else wd2 l

theorem wd2_app (l m : List Pr) (h : ∀ x ∈ l, 0 < x.tw) : wd2 (l ++ m) = if 0 < wd2 l then wd2 l else wd2 m := by
  induction l with
  | nil => simp [wd2]
  | cons x l ih =>
    have ih := ih fun y hy => h y (by simp [hy])
    have hx := h x (by simp)
    simp only [List.cons_append, wd2]
    by_cases e : x.op = 33 ∨ x.op = 34
    · simp [e, hx]
    · simp only [if_neg e]
      exact ih

/-- all widths are above 0 -/
def Wide : F → Prop
  | .nil => True
  | .cons _ w _ _ kids rest => 0 < w ∧ Wide kids ∧ Wide rest

theorem prs_wide : ∀ (p t : F), Wide t → ∀ l, prs p t = some l → ∀ x ∈ l, 0 < x.tw := by
  intro p
  induction p with
  | nil => intro t _ l h; cases t <;> simp [prs] at h; subst h; simp
  | cons pop pw pfl pimm pk pr ih1 ih2 =>
    intro t hw l h
    cases t with
    | nil => simp [prs] at h
    | cons op tw fl imm tk tr =>
      obtain ⟨w0, w1, w2⟩ := hw
      have i1 := ih1 tk w1
      have i2 := ih2 tr w2
      simp only [prs] at h
      have fin : ∀ m, prs pr tr = some m → ∀ x ∈ (⟨pop, pw, pfl, pimm, op, tw, fl, imm, tk⟩ : Pr) :: m, 0 < x.tw := by
        intro m hm x hx
        rcases List.mem_cons.1 hx with rfl | hx
        · exact w0
        · exact i2 m hm x hx
      split at h
      · obtain ⟨m, hm, rfl⟩ := Option.map_eq_some_iff.1 h
        exact fin m hm
      · split at h
        · split at h
          · obtain ⟨m, hm, rfl⟩ := Option.map_eq_some_iff.1 h
            exact fin m hm
          · cases h
        · split at h
          · cases h
          · obtain ⟨k, hk, h⟩ := Option.bind_eq_some_iff.1 h
            obtain ⟨m, hm, rfl⟩ := Option.map_eq_some_iff.1 h
            intro x hx
            rcases List.mem_cons.1 hx with rfl | hx
            · exact w0
            · rcases List.mem_append.1 hx with hx | hx
              · exact i1 k hk x hx
              · exact i2 m hm x hx

theorem wd_prs : ∀ (p t : F), Wide t → ∀ l, prs p t = some l → wd1 p t = wd2 l := by
  intro p
  induction p with
  | nil => intro t _ l h; cases t <;> simp [prs] at h; subst h; rfl
  | cons pop pw pfl pimm pk pr ih1 ih2 =>
    intro t hw l h
    cases t with
    | nil => simp [prs] at h
    | cons op tw fl imm tk tr =>
      obtain ⟨w0, w1, w2⟩ := hw
      have i1 := ih1 tk w1
      have i2 := ih2 tr w2
      simp only [prs] at h
      simp only [wd1]
      split at h
      · rename_i e
        obtain ⟨m, hm, rfl⟩ := Option.map_eq_some_iff.1 h
        simp [wd2, e, w0]
      · rename_i e1
        split at h
        · rename_i e
          split at h
          · obtain ⟨m, hm, rfl⟩ := Option.map_eq_some_iff.1 h
            simp [wd2, e, w0]
          · cases h
        · rename_i e2
          split at h
          · cases h
          · rename_i e3
            obtain ⟨k, hk, h⟩ := Option.bind_eq_some_iff.1 h
            obtain ⟨m, hm, rfl⟩ := Option.map_eq_some_iff.1 h
            have e4 : pk.len = tk.len := Decidable.byContradiction fun h => e3 (.inr h)
            have e5 : ¬ (pop = 33 ∨ pop = 34) := by rintro (h | h) <;> contradiction
            simp only [if_neg e5, e4, ne_eq, not_true_eq_false, if_false, wd2]
            rw [wd2_app _ _ (prs_wide pk tk w1 k hk), i1 k hk, i2 m hm]

/-- variables replaced by trees -/
def sub (b : Int → F) : F → F
  | .nil => .nil
  | .cons op w fl imm kids rest => if op = 33 then (b imm).app (sub b rest) else .cons op w fl imm (sub b kids) (sub b rest)
end R
end Go.Proofs.YtcmlmjbpdaecbaaGreat
end
