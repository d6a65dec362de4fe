/- Plain words of the layer of proofs: literals, what follows by unit propagation, proofs; no program. -/
namespace Go.Proofs.Ytceelipcclfdmaa.S

def isLit (n l : Int) : Bool := decide (-n ≤ l ∧ l ≤ n ∧ l ≠ 0)
def isClause (n : Int) (c : List Int) : Bool := c.all (isLit n)
def validate (n : Int) (cs : List (List Int)) : Int := if n < 0 ∨ 4000 < n ∨ 24000 < cs.length then 3 else if cs.all (isClause n) then 0 else 1
def long (cs : List (List Int)) : Bool := decide (400 < cs.length) || cs.any (fun c => decide (100 < c.length))
def many (n : Int) (cs : List (List Int)) : Bool := decide (300 < n ∧ n ≤ 4000) || long cs

/-- What follows from clauses and literals by unit propagation. -/
inductive Der (cs : List (List Int)) (given : List Int) : Int → Prop
  | given_ {l : Int} : l ∈ given → Der cs given l
  | unit_ {l : Int} {c : List Int} : c ∈ cs → l ∈ c → (∀ m ∈ c, m ≠ l → Der cs given (-m)) → Der cs given l

/-- There is a conflict. -/
def Incons (cs : List (List Int)) (given : List Int) : Prop :=
  (∃ l, Der cs given l ∧ Der cs given (-l)) ∨ ∃ c ∈ cs, ∀ m ∈ c, Der cs given (-m)

def negs (c : List Int) : List Int := c.map fun x => -x

/-- The clause follows by propagation. -/
noncomputable def fol (cs : List (List Int)) (c : List Int) : Bool := @decide (Incons cs (negs c)) (Classical.propDecidable _)

theorem fol_iff {cs : List (List Int)} {c : List Int} : fol cs c = true ↔ Incons cs (negs c) := by unfold fol; exact @decide_eq_true_iff _ (Classical.propDecidable _)

/-- The place of the first clause of a list that does not follow from what stands before it. -/
noncomputable def bad (cs : List (List Int)) : List (List Int) → Option Nat
  | [] => none
  | x :: r => if fol cs x then (bad (cs ++ [x]) r).map (· + 1) else some 0

/-- none: the list is a proof; else the number that the checker tells. -/
noncomputable def failure (cs l : List (List Int)) : Option Nat :=
  match bad cs l with
  | some k => some k
  | none => if l.getLast? = some [] then none else some l.length

noncomputable def check (n : Int) (cs l : List (List Int)) : Int × Int :=
  if validate n cs ≠ 0 then (0, validate n cs) else if validate n l ≠ 0 then (0, validate n l) else
  match failure cs l with
  | some k => (k, 8)
  | none => (l.length, 0)

/-- Clauses are left out, from the place k - 1 on down. -/
noncomputable def trimTo (cs : List (List Int)) : Nat → List (List Int) → List (List Int)
  | 0, l => l
  | k + 1, l => trimTo cs k (if failure cs (l.eraseIdx k) = none then l.eraseIdx k else l)

noncomputable def trim (cs l : List (List Int)) : List (List Int) := trimTo cs (l.length - 1) l

/-- The clause has a true literal. -/
def sat (model : List Bool) (c : List Int) : Bool := c.any fun x => model.getD (x.natAbs - 1) false == decide (0 < x)

/-- The first place at which p does not hold. -/
def firstBad {α : Type} (p : α → Bool) : List α → Option Nat
  | [] => none
  | c :: r => if p c then (firstBad p r).map (· + 1) else some 0
theorem firstBad_all {α : Type} {p : α → Bool} {l : List α} (h : l.all p = true) : firstBad p l = none := by
  induction l with
  | nil => rfl
  | cons x r ih =>
    simp only [List.all_cons, Bool.and_eq_true] at h
    simp [firstBad, h.1, ih h.2]
theorem firstBad_at {α : Type} {p : α → Bool} {l : List α} {k : Nat} {x : α} (ht : (l.take k).all p = true) (h : l[k]? = some x) (hp : p x = false) : firstBad p l = some k := by
  induction l generalizing k with
  | nil => simp at h
  | cons y r ih =>
    cases k with
    | zero => simp at h; subst h; simp [firstBad, hp]
    | succ k =>
      simp only [List.take_succ_cons, List.all_cons, Bool.and_eq_true] at ht
      simp at h
      simp [firstBad, ht.1, ih ht.2 h]

def checkModel (n : Int) (cs : List (List Int)) (model : List Bool) : Int × Int :=
  if validate n cs ≠ 0 then (0, validate n cs) else if (model.length : Int) ≠ n then (0, 1) else
  match firstBad (sat model) cs with
  | some k => (k, 8)
  | none => (0, 0)

end Go.Proofs.Ytceelipcclfdmaa.S
