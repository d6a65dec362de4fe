/- Plain words: the columns of a row (the program's way to its meaning), the rows behind a row; no program. -/
import Derived.Test.YtableoihgkmbjaaPlainK
namespace Go.Proofs.Ytableoihgkmbjaa.K

/-- column number j of a row: for every input the value number j -/
def col (k w : Nat) (r : List Stp) (j : Nat) : List Int := (inputs k w).map fun l => (vals w (base w l) r).getD j 0
def cols (k w : Nat) (r : List Stp) : List (List Int) := (List.range (k + 2 + r.length)).map (col k w r)
/-- the results of a step on columns -/
def column (k w : Nat) (cs : List (List Int)) (s : Stp) : List Int :=
  (List.range (size k w)).map fun a => (B.total s.1 w ((cs.getD s.2.1.toNat []).getD a 0) ((cs.getD s.2.2.toNat []).getD a 0)).1

theorem cols_len (k w : Nat) (r : List Stp) : (cols k w r).length = k + 2 + r.length := by simp [cols]
theorem col_len (k w : Nat) (r : List Stp) (j : Nat) : (col k w r j).length = size k w := by simp [col, inputs]
theorem cols_at {k w : Nat} {r : List Stp} {j : Nat} (h : j < k + 2 + r.length) : (cols k w r)[j]? = some (col k w r j) := by simp [cols, h]
theorem col_at {k w : Nat} {r : List Stp} {j a : Nat} (h : a < size k w) : (col k w r j)[a]? = some ((vals w (base w (inp k w a)) r).getD j 0) := by simp [col, inputs, h]
theorem base_len {k w a : Nat} (hk : k = 1 ∨ k = 2) : (base w (inp k w a)).length = k + 2 := by simp [base, inp_len hk]
theorem cols_getD {k w : Nat} {r : List Stp} {j a : Nat} (hj : j < k + 2 + r.length) (h : a < size k w) : ((cols k w r).getD j []).getD a 0 = (vals w (base w (inp k w a)) r).getD j 0 := by
  have e : (cols k w r).getD j [] = col k w r j := by rw [List.getD_eq_getElem?_getD, cols_at hj, Option.getD_some]
  rw [e, List.getD_eq_getElem?_getD, col_at h, Option.getD_some]

theorem cols_snoc {k w : Nat} (hk : k = 1 ∨ k = 2) (r : List Stp) {s : Stp} (hs : okStep k r.length s) : cols k w (r ++ [s]) = cols k w r ++ [column k w (cols k w r) s] := by
  obtain ⟨_, h1, h2, h3, h4⟩ := hs
  apply List.ext_getElem?
  intro j
  have hl : (r ++ [s]).length = r.length + 1 := by simp
  by_cases hj : j < k + 2 + r.length
  · rw [cols_at (by omega), List.getElem?_append_left (by rw [cols_len]; exact hj), cols_at hj]
    congr 1
    unfold col inputs
    rw [List.map_map, List.map_map]
    apply List.map_congr_left
    intro a ha
    simp only [Function.comp]
    rw [vals_snoc, List.getD_eq_getElem?_getD, List.getD_eq_getElem?_getD, List.getElem?_append_left (by rw [vals_len, base_len hk]; omega)]
  · by_cases hj2 : j = k + 2 + r.length
    · subst hj2
      rw [cols_at (by omega), List.getElem?_append_right (by rw [cols_len]; omega), cols_len, Nat.sub_self]
      simp only [List.getElem?_cons_zero, Option.some.injEq]
      unfold col inputs column
      rw [List.map_map]
      apply List.map_congr_left
      intro a ha
      have ha' := List.mem_range.1 ha
      simp only [Function.comp]
      rw [cols_getD (by omega) ha', cols_getD (by omega) ha', vals_snoc, List.getD_eq_getElem?_getD, List.getElem?_append_right (by rw [vals_len, base_len hk]; omega), vals_len, base_len hk, Nat.sub_self]
      rfl
    · rw [List.getElem?_eq_none (by rw [cols_len]; omega), List.getElem?_eq_none (by rw [List.length_append, cols_len]; simp; omega)]

theorem meaning_cols {k w : Nat} (hk : k = 1 ∨ k = 2) (r : List Stp) : (cols k w r)[if r.length = 0 then 0 else k + 2 + r.length - 1]? = some (meaning k w r) := by
  have key : ∀ j, j < k + 2 + r.length → (∀ a, resultOf w r (inp k w a) = (vals w (base w (inp k w a)) r).getD j 0) → (cols k w r)[j]? = some (meaning k w r) := by
    intro j hj h
    rw [cols_at hj]
    congr 1
    unfold col meaning inputs
    rw [List.map_map, List.map_map]
    apply List.map_congr_left
    intro a _
    exact (h a).symm
  split
  · rename_i h0
    exact key 0 (by omega) fun a => by rw [resultOf, if_pos h0]
  · rename_i h0
    exact key _ (by omega) fun a => by rw [resultOf, if_neg h0, vals_len, base_len hk]

/-- the columns of no step: the inputs, 1, all ones -/
theorem cols_nil {k w : Nat} (hk : k = 1 ∨ k = 2) : cols k w [] = ((List.range k).map fun i => (List.range (size k w)).map fun a => (inp k w a).getD i 0) ++ [List.replicate (size k w) 1, List.replicate (size k w) (B.pw w - 1)] := by
  have hb : ∀ a j, (vals w (base w (inp k w a)) []).getD j 0 = (inp k w a ++ [1, B.pw w - 1]).getD j 0 := fun a j => rfl
  have hin : ∀ j, col k w [] j = (List.range (size k w)).map fun a => (inp k w a ++ [1, B.pw w - 1]).getD j 0 := by
    intro j
    unfold col inputs
    rw [List.map_map]
    rfl
  unfold cols
  rcases hk with rfl | rfl
  · show [col 1 w [] 0, col 1 w [] 1, col 1 w [] 2] = _
    simp only [hin]
    simp [inp, List.range_succ, List.map_const']
  · show [col 2 w [] 0, col 2 w [] 1, col 2 w [] 2, col 2 w [] 3] = _
    simp only [hin]
    simp [inp, List.range_succ, List.map_const']

/-- the rows of n steps more behind a row, in the order of the program's walk -/
def below (k : Nat) : Nat → List Stp → List (List Stp)
  | 0, r => [r]
  | n + 1, r => (steps k r.length).flatMap fun s => below k n (r ++ [s])

theorem flatMap_same {α β : Type} {l : List α} {f g : α → List β} (h : ∀ x ∈ l, f x = g x) : l.flatMap f = l.flatMap g := by
  induction l with
  | nil => rfl
  | cons x l ih => rw [List.flatMap_cons, List.flatMap_cons, h x (List.mem_cons_self ..), ih fun y hy => h y (List.mem_cons_of_mem _ hy)]
theorem rows_below (k m : Nat) : ∀ n, rows k (m + n) = (rows k m).flatMap (below k n) := by
  intro n
  induction n generalizing m with
  | zero => simp [below]
  | succ n ih =>
    rw [show m + (n + 1) = (m + 1) + n by omega, ih (m + 1)]
    show ((rows k m).flatMap fun r => (steps k m).map fun s => r ++ [s]).flatMap (below k n) = _
    rw [List.flatMap_assoc]
    refine flatMap_same fun r hr => ?_
    rw [List.flatMap_map]
    show _ = (steps k r.length).flatMap fun s => below k n (r ++ [s])
    rw [rows_len hr]
theorem rows_eq_below (k n : Nat) : rows k n = below k n [] := by
  have := rows_below k 0 n
  rw [Nat.zero_add] at this
  rw [this]
  simp [rows]
theorem mem_below {k n : Nat} {r q : List Stp} (hr : okRow k r) (h : q ∈ below k n r) : okRow k q ∧ q.length = r.length + n := by
  induction n generalizing r with
  | zero => simp [below] at h; subst h; exact ⟨hr, rfl⟩
  | succ n ih =>
    simp only [below, List.mem_flatMap] at h
    obtain ⟨s, hs, hq⟩ := h
    have hok : okRow k (r ++ [s]) := by
      intro i x hx
      by_cases hi : i < r.length
      · rw [List.getElem?_append_left hi] at hx; exact hr i x hx
      · have hl : i < (r ++ [s]).length := (List.getElem?_eq_some_iff.1 hx).1
        simp at hl
        obtain rfl : i = r.length := by omega
        simp at hx
        subst hx
        exact mem_steps hs
    obtain ⟨h1, h2⟩ := ih hok hq
    exact ⟨h1, by rw [h2]; simp; omega⟩
end Go.Proofs.Ytableoihgkmbjaa.K
