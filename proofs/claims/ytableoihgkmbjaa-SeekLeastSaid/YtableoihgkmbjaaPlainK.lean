/- Plain words of the layer of rows of operations (seek): rows, their meanings, the first row; no program. -/
import Derived.Test.YtableoihgkmbjaaPlainB
namespace Go.Proofs.Ytableoihgkmbjaa.K

/-- a step: its operation and its two operands -/
abbrev Stp := Int × Int × Int
def ops : List Int := [1, 2, 8, 9, 10, 11, 12]
def size (k w : Nat) : Nat := 2 ^ (k * w)
def inp (k w i : Nat) : List Int := if k = 1 then [(i : Int)] else [((i / 2 ^ w : Nat) : Int), ((i % 2 ^ w : Nat) : Int)]
def stepv (w : Nat) (l : List Int) (s : Stp) : Int := (B.total s.1 w (l.getD s.2.1.toNat 0) (l.getD s.2.2.toNat 0)).1
def vals (w : Nat) (l : List Int) (r : List Stp) : List Int := r.foldl (fun l s => l ++ [stepv w l s]) l
def base (w : Nat) (l : List Int) : List Int := l ++ [1, B.pw w - 1]
def resultOf (w : Nat) (r : List Stp) (l : List Int) : Int :=
  if r.length = 0 then (vals w (base w l) r).getD 0 0 else (vals w (base w l) r).getD ((vals w (base w l) r).length - 1) 0
def inputs (k w : Nat) : List (List Int) := (List.range (size k w)).map (inp k w)
def meaning (k w : Nat) (r : List Stp) : List Int := (inputs k w).map (resultOf w r)
def steps (k p : Nat) : List Stp := ops.flatMap fun o => (List.range (k + 2 + p)).flatMap fun a : Nat => (List.range (k + 2 + p)).map fun b : Nat => ((o, (a : Int), (b : Int)) : Stp)
def rows (k : Nat) : Nat → List (List Stp)
  | 0 => [[]]
  | n + 1 => (rows k n).flatMap fun r => (steps k n).map fun s => r ++ [s]
def over (k w : Int) : Bool := decide (1 ≤ k) && decide (k ≤ 2) && decide (1 ≤ w) && decide (w ≤ 3)
def isTable (k w : Nat) (t : List Int) : Bool := decide (t.length = size k w) && t.all fun x => decide (x < B.pw w)
def upTo (k most : Nat) : List (List Stp) := (List.range most).flatMap (rows k)
def first (k w : Nat) (t : List Int) (most : Nat) : Option (List Stp) := (upTo k most).find? fun r => decide (meaning k w r = t)
def shortest (k w : Int) (t : List Int) : List Stp × Bool × Int :=
  if over k w = false then ([], false, 1) else if isTable k.toNat w.toNat t = false then ([], false, 1) else
  match first k.toNat w.toNat t 3 with
  | some r => (r, true, 0)
  | none => ([], false, 0)

/-- a row of which each step is one, with operands that lie before it -/
def okStep (k i : Nat) (s : Stp) : Prop := s.1 ∈ ops ∧ 0 ≤ s.2.1 ∧ s.2.1 < k + 2 + i ∧ 0 ≤ s.2.2 ∧ s.2.2 < k + 2 + i
def okRow (k : Nat) (r : List Stp) : Prop := ∀ i s, r[i]? = some s → okStep k i s

theorem ops_range {o : Int} (h : o ∈ ops) : 1 ≤ o ∧ o ≤ 13 := by
  simp only [ops, List.mem_cons, List.not_mem_nil, or_false] at h
  omega
theorem mem_steps {k p : Nat} {s : Stp} (h : s ∈ steps k p) : okStep k p s := by
  unfold steps at h
  simp only [List.mem_flatMap, List.mem_map, List.mem_range] at h
  obtain ⟨o, ho, a, ha, b, hb, rfl⟩ := h
  exact ⟨ho, by simp, by simp only; omega, by simp, by simp only; omega⟩
theorem rows_len {k n : Nat} {r : List Stp} (h : r ∈ rows k n) : r.length = n := by
  induction n generalizing r with
  | zero => simp [rows] at h; simp [h]
  | succ n ih =>
    simp only [rows, List.mem_flatMap, List.mem_map] at h
    obtain ⟨q, hq, s, _, rfl⟩ := h
    simp [ih hq]
theorem rows_ok {k n : Nat} {r : List Stp} (h : r ∈ rows k n) : okRow k r := by
  induction n generalizing r with
  | zero => simp [rows] at h; subst h; intro i s hi; simp at hi
  | succ n ih =>
    simp only [rows, List.mem_flatMap, List.mem_map] at h
    obtain ⟨q, hq, s, hs, rfl⟩ := h
    intro i x hx
    by_cases hi : i < q.length
    · rw [List.getElem?_append_left hi] at hx
      exact ih hq i x hx
    · have hl := rows_len hq
      have hi2 : i < (q ++ [s]).length := (List.getElem?_eq_some_iff.1 hx).1
      simp at hi2
      obtain rfl : i = q.length := by omega
      simp at hx
      subst hx
      rw [hl]
      exact mem_steps hs

theorem vals_nil (w : Nat) (l : List Int) : vals w l [] = l := rfl
theorem vals_cons (w : Nat) (l : List Int) (s : Stp) (r : List Stp) : vals w l (s :: r) = vals w (l ++ [stepv w l s]) r := rfl
theorem vals_snoc (w : Nat) (l : List Int) (r : List Stp) (s : Stp) : vals w l (r ++ [s]) = vals w l r ++ [stepv w (vals w l r) s] := by
  unfold vals; rw [List.foldl_append]; rfl
theorem vals_len (w : Nat) (l : List Int) (r : List Stp) : (vals w l r).length = l.length + r.length := by
  induction r generalizing l with
  | nil => rfl
  | cons s r ih => rw [vals_cons, ih]; simp; omega
theorem take_succ_at {α : Type} {xs : List α} {k : Nat} {x : α} (h : xs[k]? = some x) : xs.take (k + 1) = xs.take k ++ [x] := by
  rw [List.take_add_one, h]; rfl
theorem vals_take (w : Nat) (l : List Int) (r : List Stp) {i : Nat} {s : Stp} (h : r[i]? = some s) : vals w l (r.take (i + 1)) = vals w l (r.take i) ++ [stepv w (vals w l (r.take i)) s] := by
  rw [take_succ_at h, vals_snoc]
/-- words of 32 bits -/
def W32 (l : List Int) : Prop := ∀ x ∈ l, 0 ≤ x ∧ x < 4294967296
theorem W32.at {l : List Int} (h : W32 l) (i : Nat) : 0 ≤ l.getD i 0 ∧ l.getD i 0 < 4294967296 := by
  rw [List.getD_eq_getElem?_getD]
  cases hx : l[i]? with
  | none => simp
  | some x => simpa using h x (List.mem_of_getElem? hx)
theorem W32.step {w : Nat} {l : List Int} (h : W32 l) (s : Stp) : W32 (l ++ [stepv w l s]) := by
  intro x hx
  rcases List.mem_append.1 hx with hx | hx
  · exact h x hx
  · rw [List.mem_singleton.1 hx]
    exact B.total_word (h.at _).1 (h.at _).1
theorem W32.vals {w : Nat} {l : List Int} (h : W32 l) (r : List Stp) : W32 (vals w l r) := by
  induction r generalizing l with
  | nil => exact h
  | cons s r ih => rw [vals_cons]; exact ih (h.step s)
theorem inp_len {k w i : Nat} (hk : k = 1 ∨ k = 2) : (inp k w i).length = k := by
  unfold inp
  rcases hk with rfl | rfl <;> rfl
theorem size_pos (k w : Nat) : 0 < size k w := Nat.two_pow_pos _
theorem size_le {k w : Nat} (hk : k ≤ 2) (hw : w ≤ 3) : size k w ≤ 64 := by
  have : k * w ≤ 2 * 3 := Nat.mul_le_mul hk hw
  exact Nat.le_trans (Nat.pow_le_pow_right (by decide) this) (by decide)
theorem W32.base {k w i : Nat} (hk : k = 1 ∨ k = 2) (hw : w ≤ 3) (hi : i < size k w) : W32 (base w (inp k w i)) := by
  have h64 := size_le (k := k) (w := w) (by omega) hw
  have hp : B.pw w ≤ 4294967296 := B.pw_le (by omega)
  have hp1 := B.pw_pos w
  intro x hx
  unfold K.base inp at hx
  rcases hk with rfl | rfl
  · simp at hx
    omega
  · simp only [show ¬ (2 = 1) by decide, if_false, List.cons_append, List.nil_append, List.mem_cons, List.not_mem_nil, or_false] at hx
    have h1 : i / 2 ^ w ≤ i := Nat.div_le_self _ _
    have h2 : i % 2 ^ w ≤ i := Nat.mod_le _ _
    generalize i / 2 ^ w = u at *
    generalize i % 2 ^ w = v at *
    omega
theorem inputs_len (k w : Nat) : (inputs k w).length = size k w := by simp [inputs]
theorem inputs_at {k w i : Nat} (h : i < size k w) : (inputs k w)[i]? = some (inp k w i) := by simp [inputs, h]
theorem meaning_len (k w : Nat) (r : List Stp) : (meaning k w r).length = size k w := by simp [meaning, inputs]
theorem meaning_at {k w i : Nat} (r : List Stp) (h : i < size k w) : (meaning k w r)[i]? = some (resultOf w r (inp k w i)) := by simp [meaning, inputs, h]
theorem steps_len {k p : Nat} (hk : k ≤ 2) (hp : p ≤ 2) : (steps k p).length ≤ 252 := by
  have : (k = 0 ∨ k = 1 ∨ k = 2) ∧ (p = 0 ∨ p = 1 ∨ p = 2) := by omega
  obtain ⟨hk, hp⟩ := this
  rcases hk with rfl | rfl | rfl <;> rcases hp with rfl | rfl | rfl <;> decide +kernel
theorem rows_count_succ (k n : Nat) : (rows k (n + 1)).length = (rows k n).length * (steps k n).length := by
  simp only [rows, List.length_flatMap, List.length_map]
  induction rows k n with
  | nil => simp
  | cons r l ih => simp only [List.map_cons, List.sum_cons, ih, List.length_cons, Nat.succ_mul]; omega
theorem rows_count {k n : Nat} (hk : k ≤ 2) (hn : n ≤ 2) : (rows k n).length ≤ 100000 := by
  have h0 : (rows k 0).length = 1 := rfl
  have s0 := steps_len (k := k) (p := 0) hk (by omega)
  have s1 := steps_len (k := k) (p := 1) hk (by omega)
  have h1 := rows_count_succ k 0
  rw [show (0 : Nat) + 1 = 1 from rfl] at h1
  have h2 := rows_count_succ k 1
  rw [show (1 : Nat) + 1 = 2 from rfl] at h2
  rw [h0, Nat.one_mul] at h1
  have h3 : (rows k 1).length * (steps k 1).length ≤ 252 * 252 := Nat.mul_le_mul (by omega) s1
  have : n = 0 ∨ n = 1 ∨ n = 2 := by omega
  rcases this with rfl | rfl | rfl <;> omega
end Go.Proofs.Ytableoihgkmbjaa.K
