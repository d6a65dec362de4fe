/- Plain words of the layer of terms: nodes, which lists of nodes are terms, their variables; no program. -/
import Derived.Test.YtcmlmjbpdaecbaaH01
set_option linter.unusedVariables false
set_option linter.unusedSimpArgs false
namespace Go.Proofs.Ytcmlmjbpdaecbaa.T
set_option linter.unusedVariables false
set_option linter.unusedSimpArgs false

/-- a node -/
structure Nd where
  op : Int
  w : Int
  fl : Int
  args : List Int
  imm : Int
deriving DecidableEq, Inhabited

/-- how many operands an operation has; -1: it is none of terms -/
def ar (op : Int) : Int := if op = 0 ∨ op = 33 then 0 else if 1 ≤ op ∧ op ≤ 14 then 2 else if op = 15 then 3 else if 16 ≤ op ∧ op ≤ 18 then 1 else -1
def immOk (x : Nd) : Bool := if x.op = 0 then B.isW x.w x.imm else if x.op = 33 then decide (x.imm < 4) else if x.op = 14 then decide (x.imm ≤ 9) else decide (x.imm = 0)
def argsOk (k : Nat) (l : List Int) : Bool := l.all fun a => decide (0 ≤ a) && decide (a < k)
/-- the node number k is as it must be, but for the widths of its operands; z: its flags must be 0 -/
def shaped (z : Bool) (k : Nat) (x : Nd) : Bool :=
  decide (0 ≤ ar x.op) && decide (1 ≤ x.w) && decide (x.w ≤ 32) && (!z || decide (x.fl = 0)) && decide ((x.args.length : Int) = ar x.op) && immOk x && (!decide (x.op = 14) || decide (x.w = 1)) && argsOk k x.args
/-- the width of operand number i -/
def wd (t : List Nd) (x : Nd) (i : Nat) : Int := (t.getD (x.args.getD i 0).toNat default).w
def typed (t : List Nd) (x : Nd) : Bool :=
  if 1 ≤ x.op ∧ x.op ≤ 13 then decide (wd t x 0 = x.w) && decide (wd t x 1 = x.w)
  else if x.op = 14 then decide (wd t x 0 = wd t x 1)
  else if x.op = 15 then decide (wd t x 0 = 1) && decide (wd t x 1 = x.w) && decide (wd t x 2 = x.w)
  else if x.op = 16 ∨ x.op = 17 then decide (wd t x 0 < x.w)
  else if x.op = 18 then decide (x.w < wd t x 0)
  else true
/-- two nodes are one variable at two widths -/
def clash (x y : Nd) : Bool := decide (x.op = 33) && decide (y.op = 33) && decide (x.imm = y.imm) && !decide (x.w = y.w)
def clashes : List Nd → Bool
  | [] => false
  | x :: t => t.any (clash x) || clashes t
/-- the first error of a term; z: flags must be 0 -/
def valid (z : Bool) (t : List Nd) : Int :=
  if t.length < 1 ∨ 300 < t.length then 3
  else if (t.zipIdx.all fun p => shaped z p.2 p.1) = false then 1
  else if (t.all (typed t)) = false then 6
  else if clashes t = true then 7 else 0
/-- the widths of the variables -/
def widths (t : List Nd) : List Int := t.foldl (fun l x => if x.op = 33 then l.set x.imm.toNat x.w else l) [0, 0, 0, 0]

/-- the first nodes are all right -/
def shapedTo (z : Bool) (t : List Nd) (j : Nat) : Prop := ∀ i x, i < j → t[i]? = some x → shaped z i x = true
theorem shaped_all {z : Bool} {t : List Nd} : (t.zipIdx.all fun p => shaped z p.2 p.1) = true ↔ ∀ i x, t[i]? = some x → shaped z i x = true := by
  rw [List.all_eq_true]
  constructor
  · intro h i x hx
    exact h (x, i) (List.mem_zipIdx_iff_getElem?.2 hx)
  · rintro h ⟨x, i⟩ hp
    exact h i x (List.mem_zipIdx_iff_getElem?.1 hp)
theorem shapedTo.all {z : Bool} {t : List Nd} {j : Nat} (h : shapedTo z t j) (hj : t.length ≤ j) : (t.zipIdx.all fun p => shaped z p.2 p.1) = true :=
  shaped_all.2 fun i x hx => h i x (by have := (List.getElem?_eq_some_iff.1 hx).1; omega) hx
theorem shapedTo.next {z : Bool} {t : List Nd} {j : Nat} {x : Nd} (h : shapedTo z t j) (hx : t[j]? = some x) (h2 : shaped z j x = true) : shapedTo z t (j + 1) := fun i y hi hy => by
  by_cases e : i = j
  · subst e; rw [hx] at hy; cases hy; exact h2
  · exact h i y (by omega) hy
theorem shaped_bad {z : Bool} {t : List Nd} {j : Nat} {x : Nd} (hx : t[j]? = some x) (h : shaped z j x = false) : (t.zipIdx.all fun p => shaped z p.2 p.1) = false := by
  cases e : t.zipIdx.all fun p => shaped z p.2 p.1
  · rfl
  · have := shaped_all.1 e j x hx
    rw [h] at this
    cases this
/-- what a right node has -/
theorem shaped_args {z : Bool} {k : Nat} {x : Nd} (h : shaped z k x = true) : (x.args.length : Int) = ar x.op ∧ 0 ≤ ar x.op ∧ 1 ≤ x.w ∧ x.w ≤ 32 ∧ immOk x = true ∧ ∀ a ∈ x.args, 0 ≤ a ∧ a < k := by
  unfold shaped at h
  simp only [Bool.and_eq_true, decide_eq_true_eq] at h
  obtain ⟨⟨⟨⟨⟨⟨⟨h1, h2⟩, h3⟩, _⟩, h5⟩, h6⟩, _⟩, h8⟩ := h
  refine ⟨h5, h1, h2, h3, h6, fun a ha => ?_⟩
  have := List.all_eq_true.1 h8 a ha
  simpa using this
def typedTo (t : List Nd) (j : Nat) : Prop := ∀ i x, i < j → t[i]? = some x → typed t x = true
theorem typedTo.all {t : List Nd} {j : Nat} (h : typedTo t j) (hj : t.length ≤ j) : (t.all (typed t)) = true := by
  rw [List.all_eq_true]
  intro x hx
  obtain ⟨i, hi⟩ := List.mem_iff_getElem?.1 hx
  exact h i x (by have := (List.getElem?_eq_some_iff.1 hi).1; omega) hi
theorem typedTo.next {t : List Nd} {j : Nat} {x : Nd} (h : typedTo t j) (hx : t[j]? = some x) (h2 : typed t x = true) : typedTo t (j + 1) := fun i y hi hy => by
  by_cases e : i = j
  · subst e; rw [hx] at hy; cases hy; exact h2
  · exact h i y (by omega) hy
theorem typed_bad {t : List Nd} {j : Nat} {x : Nd} (hx : t[j]? = some x) (h : typed t x = false) : (t.all (typed t)) = false := by
  cases e : t.all (typed t)
  · rfl
  · have := List.all_eq_true.1 e x (List.mem_of_getElem? hx)
    rw [h] at this
    cases this

/-- no two of the nodes clash -/
theorem clashes_iff {t : List Nd} : clashes t = false ↔ ∀ (i j : Nat) (x y : Nd), i < j → t[i]? = some x → t[j]? = some y → clash x y = false := by
  induction t with
  | nil => simp [clashes]
  | cons a t ih =>
    rw [clashes, Bool.or_eq_false_iff, ih]
    constructor
    · rintro ⟨h1, h2⟩ i j x y hij hx hy
      cases j with
      | zero => omega
      | succ j =>
        simp at hy
        cases i with
        | zero =>
          simp at hx; subst hx
          cases e : clash a y
          · rfl
          · exact absurd (List.any_eq_true.2 ⟨y, List.mem_of_getElem? hy, e⟩) (by rw [h1]; simp)
        | succ i => simp at hx; exact h2 i j x y (by omega) hx hy
    · intro h
      refine ⟨?_, fun i j x y hij hx hy => h (i + 1) (j + 1) x y (by omega) (by simpa using hx) (by simpa using hy)⟩
      cases e : t.any (clash a)
      · rfl
      · obtain ⟨y, hy, hc⟩ := List.any_eq_true.1 e
        obtain ⟨j, hj⟩ := List.mem_iff_getElem?.1 hy
        have := h 0 (j + 1) a y (by omega) rfl (by simpa using hj)
        rw [hc] at this
        cases this

/-- the widths of the first nodes' variables -/
def widthsTo (t : List Nd) (j : Nat) : List Int := widths (t.take j)
theorem widths_snoc (t : List Nd) (x : Nd) : widths (t ++ [x]) = if x.op = 33 then (widths t).set x.imm.toNat x.w else widths t := by
  unfold widths; rw [List.foldl_append]; rfl
theorem snocInd {α : Type} {P : List α → Prop} (h0 : P []) (hs : ∀ l x, P l → P (l ++ [x])) (l : List α) : P l := by
  have h : ∀ r : List α, P r.reverse := by
    intro r
    induction r with
    | nil => exact h0
    | cons a r ih => rw [List.reverse_cons]; exact hs _ _ ih
  have := h l.reverse
  rwa [List.reverse_reverse] at this
theorem widths_len (t : List Nd) : (widths t).length = 4 := by
  refine snocInd (P := fun t => (widths t).length = 4) rfl (fun t x ih => ?_) t
  rw [widths_snoc]; split <;> simp [ih]
theorem clashes_front {t : List Nd} {y : Nd} (h : clashes (t ++ [y]) = false) : clashes t = false :=
  clashes_iff.2 fun i j a b hij ha hb => clashes_iff.1 h i j a b hij (by rw [List.getElem?_append_left (List.getElem?_eq_some_iff.1 ha).1]; exact ha) (by rw [List.getElem?_append_left (List.getElem?_eq_some_iff.1 hb).1]; exact hb)
/-- what the widths tell of a variable: the width of a node that is this variable, if nothing clashes -/
theorem widths_at {t : List Nd} : clashes t = false → (∀ y ∈ t, 0 ≤ y.imm) → ∀ {i : Nat} {x : Nd}, t[i]? = some x → x.op = 33 → x.imm < 4 → (widths t)[x.imm.toNat]? = some x.w := by
  refine snocInd (P := fun t => clashes t = false → (∀ y ∈ t, 0 ≤ y.imm) → ∀ {i : Nat} {x : Nd}, t[i]? = some x → x.op = 33 → x.imm < 4 → (widths t)[x.imm.toNat]? = some x.w) (fun _ _ i x hx => by simp at hx) (fun t y ih hc hp i x hx ho hi => ?_) t
  have hl := widths_len t
  rw [widths_snoc]
  by_cases hit : i < t.length
  · rw [List.getElem?_append_left hit] at hx
    have h1 := ih (clashes_front hc) (fun z hz => hp z (List.mem_append_left _ hz)) hx ho hi
    have hx0 := hp x (List.mem_append_left _ (List.mem_of_getElem? hx))
    have hy0 := hp y (by simp)
    split
    · rename_i hy
      by_cases he : y.imm.toNat = x.imm.toNat
      · rw [← he, List.getElem?_set_self (by omega)]
        have := clashes_iff.1 hc i t.length x y hit (by rw [List.getElem?_append_left hit]; exact hx) (by simp)
        unfold clash at this
        have e : x.imm = y.imm := by omega
        simp [ho, hy, e] at this
        rw [this]
      · rw [List.getElem?_set_ne he]; exact h1
    · exact h1
  · have hit2 : i = t.length := by
      have := (List.getElem?_eq_some_iff.1 hx).1
      simp at this; omega
    subst hit2
    simp at hx
    subst hx
    rw [if_pos ho, List.getElem?_set_self (by omega)]
/-- a variable of which there is no node has no width -/
theorem widths_none {t : List Nd} {v : Nat} (h : ∀ x ∈ t, x.op = 33 → x.imm.toNat ≠ v) (hv : v < 4) : (widths t)[v]? = some 0 := by
  revert h
  refine snocInd (P := fun t => (∀ x ∈ t, x.op = 33 → x.imm.toNat ≠ v) → (widths t)[v]? = some 0) (fun _ => ?_) (fun t y ih h => ?_) t
  · have : v = 0 ∨ v = 1 ∨ v = 2 ∨ v = 3 := by omega
    rcases this with rfl | rfl | rfl | rfl <;> rfl
  · rw [widths_snoc]
    have h1 := ih fun x hx => h x (List.mem_append_left _ hx)
    split
    · rename_i hy
      rw [List.getElem?_set_ne (h y (by simp) hy)]; exact h1
    · exact h1
end Go.Proofs.Ytcmlmjbpdaecbaa.T
