/- Merged: Sl, Q1, Q2, Q3, PlainC, Q4, Q4s, Q5. -/
import Derived.Test.YtcmlmjbpdaecbaaGreatC00
import Derived.Test.YtcmlmjbpdaecbaaGreatC09
import Derived.Test.YtcmlmjbpdaecbaaGreatC01
import Derived.Laws.CopyOwn
import Derived.Deep.RegionLaw
import Derived.StillTailTactics
import Derived.Deep.RegionHeld3
set_option linter.unusedVariables false
set_option linter.unusedSimpArgs false
section
namespace Go.Proofs.YtcmlmjbpdaecbaaGreat
set_option linter.unusedVariables false
set_option linter.unusedSimpArgs false
open Go.RowKit
theorem run_slice_to {P : Program} {t e : TypeId} {z : Value} {s bytes : Nat} (ht : P.underlying t = some (.slice e)) (hinfo : (P.info? e).map (fun i => (i.zero, i.size, i.bytes)) = some (some z, s, bytes)) (g off n cap k : Nat) (hk : k ≤ cap) (w : World) :
    (Instr.slice t (.slice (some ⟨g, off, none⟩) n cap) none (some (.int .i64 (k : Int))) none).run P w = .ok (.slice (some ⟨g, off, none⟩) k cap) w := by
  obtain ⟨i, hi, hz, hsz, hby⟩ := info_parts hinfo
  simp [Instr.slice, Instr.sliceBounds, Instr.sliceBound, run_underlying ht, asIntOf, sizeOf, typeInfo, hi, hsz, hk, addr_add_zero]
theorem run_slice_fromN {P : Program} {t e : TypeId} {z : Value} {s bytes : Nat} (ht : P.underlying t = some (.slice e)) (hinfo : (P.info? e).map (fun i => (i.zero, i.size, i.bytes)) = some (some z, s, bytes)) (g off n cap K : Nat) (hk : K ≤ n) (w : World) :
    (Instr.slice t (.slice (some ⟨g, off, none⟩) n cap) (some (.int .i64 (K : Int))) none none).run P w = .ok (.slice (if cap = K then some ⟨g, off, none⟩ else some ⟨g, off + K * s, none⟩) (n - K) (cap - K)) w := by
  obtain ⟨i, hi, hz, hsz, hby⟩ := info_parts hinfo
  simp [Instr.slice, Instr.sliceBounds, Instr.sliceBound, run_underlying ht, asIntOf, sizeOf, typeInfo, hi, hsz, hk]
  by_cases hck : cap = K
  · simp [hck]
  · simp [hck, addr_add_zero]
end Go.Proofs.YtcmlmjbpdaecbaaGreat
end
section
namespace Go.Proofs.YtcmlmjbpdaecbaaGreat
open Go.RowKit
set_option linter.unusedVariables false

/-- a space by value -/
def spV (k w : Int) : Value := .agg #[.int .i64 k, .int .i64 w]

theorem any_take_step {α : Type} {p : α → Bool} {xs : List α} {k : Nat} {x : α} (hx : xs[k]? = some x) (h : (xs.take k).any p = false) (hp : p x = false) : (xs.take (k + 1)).any p = false := by
  rw [take_succ_of hx, List.any_append, h]; simp [hp]
theorem any_true_at {α : Type} {p : α → Bool} {xs : List α} {k : Nat} {x : α} (hx : xs[k]? = some x) (hp : p x = true) : xs.any p = true :=
  List.any_eq_true.2 ⟨x, List.mem_of_getElem? hx, hp⟩

theorem isTable_all (k w : Nat) (t : List Int) : K.isTable k w t = (decide (t.length = K.size k w) && !(t.any fun x => decide (B.pw w - 1 < x))) := by
  unfold K.isTable
  congr 1
  induction t with
  | nil => rfl
  | cons x r ih =>
    rw [List.all_cons, List.any_cons, ih, Bool.not_or]
    congr 1
    by_cases h : x < B.pw w
    · rw [decide_eq_true h, decide_eq_false (by omega)]; rfl
    · rw [decide_eq_false h, decide_eq_true (by omega)]; rfl

end Go.Proofs.YtcmlmjbpdaecbaaGreat
end
section
namespace Go.Proofs.YtcmlmjbpdaecbaaGreat
open Go.RowKit
set_option linter.unusedVariables false

end Go.Proofs.YtcmlmjbpdaecbaaGreat
end
section
namespace Go.Proofs.YtcmlmjbpdaecbaaGreat
open Go.RowKit
set_option linter.unusedVariables false

theorem and_small : ∀ a : Fin 64, bits .and .i64 (a.val : Int) 1 = ((a.val % 2 : Nat) : Int) ∧ bits .and .i64 (a.val : Int) 3 = ((a.val % 4 : Nat) : Int) ∧ bits .and .i64 (a.val : Int) 7 = ((a.val % 8 : Nat) : Int) := by decide
theorem and_s {a : Nat} (h : a < 64) : bits .and .i64 (a : Int) 1 = ((a % 2 : Nat) : Int) ∧ bits .and .i64 (a : Int) 3 = ((a % 4 : Nat) : Int) ∧ bits .and .i64 (a : Int) 7 = ((a % 8 : Nat) : Int) := and_small ⟨a, h⟩

theorem splice_twice (x : Value) (z : Value) (n c : Nat) (h : n + n ≤ c) : splice (List.replicate n x ++ List.replicate (c - n) z) n (List.replicate n x) = List.replicate (n + n) x ++ List.replicate (c - (n + n)) z := by
  unfold splice
  rw [List.take_append_of_le_length (by simp), List.take_of_length_le (by simp), List.length_replicate, List.drop_append, List.drop_of_length_le (by simp), List.length_replicate, List.nil_append, List.drop_replicate, ← List.append_assoc, List.replicate_append_replicate]
  congr 2
  omega

theorem src_rep {w : World} {g : Nat} {x z : Value} {n c : Nat} {T : TypeId} (hg : w.heap[g]? = some (.cells (List.replicate n x ++ List.replicate (c - n) z).toArray T (0, 0))) :
    ∀ (j : Nat) (v : Value), (List.replicate n x)[j]? = some v → w.cell? ((⟨g, 0, none⟩ : Addr).add j) = some v := by
  intro j v hv
  rw [addr_add_zero, cell_of_row w g _ _ T (0, 0) hg]
  show (List.replicate n x ++ List.replicate (c - n) z).toArray[0 + j]? = some v
  rw [Nat.zero_add, List.getElem?_toArray, List.getElem?_append_left (List.getElem?_eq_some_iff.1 hv).1]
  exact hv

theorem sizeU32 : (Tryz.prog.info? 61).map (·.size) = some 1 := by kernel_rfl

theorem first_src {W w : World} {g : Nat} {x : Value} {T : TypeId} (hb : Below W.heap.size W w) (hg : W.heap[g]? = some (.cells #[x] T (0, 0))) :
    ∀ (j : Nat) (v : Value), [x][j]? = some v → w.cell? ((⟨g, 0, none⟩ : Addr).add j) = some v := by
  intro j v hv
  have hlt : g < W.heap.size := (Array.getElem?_eq_some_iff.1 hg).1
  rw [addr_add_zero, hb.cell (p := ⟨g, 0 + j, none⟩) hlt, cell_of_row W g _ _ T (0, 0) hg]
  rw [Nat.zero_add]
  simpa using hv
def repC (x : Int) (n c : Nat) : List Value := List.replicate n (.int .u32 x) ++ List.replicate (c - n) (.int .u32 0)
theorem repC_len {x : Int} {n c : Nat} (h : n ≤ c) : (repC x n c).length = c := by simp [repC]; omega
theorem one_rep {x : Int} {n : Nat} : ∀ u ∈ List.replicate n (Value.int .u32 x), u.oneCell' = true := fun u hu => by rw [List.eq_of_mem_replicate hu]; rfl
theorem rep_n {x : Int} {n c : Nat} (h : n + n ≤ c) : (List.replicate n (Value.int .u32 x)).length = Nat.min n (c - n) := by
  rw [List.length_replicate]; exact (Nat.min_eq_left (by omega)).symm
theorem rep_fit {x : Int} {n c : Nat} (h : n + n ≤ c) : n + (List.replicate n (Value.int .u32 x)).length ≤ (repC x n c).length := by
  rw [List.length_replicate, repC_len (by omega)]; exact h
theorem first_n {c : Nat} (h : 2 ≤ c) {x : Value} : [x].length = Nat.min 1 c := (Nat.min_eq_left (Nat.le_of_succ_le h)).symm
theorem one_int1 {q : IntKind} (x : Int) : ∀ u ∈ [Value.int q x], u.oneCell' = true := by simp [Value.oneCell']
theorem first_fit {c : Nat} (h : 2 ≤ c) {x z : Value} : 0 + [x].length ≤ (List.replicate c z).length := by simp; omega
theorem splice_first {c : Nat} (h : 2 ≤ c) {x z : Value} : splice (List.replicate c z) 0 [x] = List.replicate 1 x ++ List.replicate (c - 1) z := by
  simp [splice]
theorem pow_step {c J n : Nat} (hc : c = 2 ^ J) (h : ∃ j, n = 2 ^ j ∧ j ≤ J) (hlt : n < c) : n + n ≤ c ∧ 1 ≤ n := by
  obtain ⟨j, rfl, hj⟩ := h
  subst hc
  have hjJ : j < J := (Nat.pow_lt_pow_iff_right (by decide)).1 hlt
  have := Nat.pow_le_pow_right (n := 2) (by decide) hjJ
  rw [Nat.pow_succ] at this
  exact ⟨by omega, Nat.pos_of_ne_zero (by simp)⟩
theorem pow_next {c J n : Nat} (hc : c = 2 ^ J) (h : ∃ j, n = 2 ^ j ∧ j ≤ J) (hlt : n < c) : ∃ j, n + n = 2 ^ j ∧ j ≤ J := by
  obtain ⟨j, rfl, hj⟩ := h
  subst hc
  have hjJ : j < J := (Nat.pow_lt_pow_iff_right (by decide)).1 hlt
  exact ⟨j + 1, by rw [Nat.pow_succ]; omega, hjJ⟩

theorem copy_twice {P : Program} {T E : TypeId} {W w : World} (x : Int) {n c : Nat} {t : TypeId} (hu : P.underlying T = some (.slice E)) (hsz : (P.info? E).map (·.size) = some 1) (h : n + n ≤ c) {g : Nat}
    (hg : w.heap[g]? = some (.cells (repC x n c).toArray t (0, 0))) {B : Nat} (hb : Below B W w) (hBg : B ≤ g) (o : TypeId) :
    ∃ w', (Builtin.copy_ #[T, T] o #[.slice (some ⟨g, n, none⟩) (c - n) (c - n), .slice (some ⟨g, 0, none⟩) n c]).run P w = .ok (.int .i64 (n : Int)) w' ∧ Hid (w'.heap[g]? = some (.cells (repC x (n + n) c).toArray t (0, 0))) ∧ Hid (Below B W w') := by
  have hrun := run_copy_row (P := P) w T T o E g n (c - n) (c - n) ⟨g, 0, none⟩ n c (repC x n c).toArray t (List.replicate n (.int .u32 x)) hu hsz hg (rep_n h) (src_rep hg) (by simpa using rep_fit (x := x) h) one_rep
  rw [List.length_replicate] at hrun
  refine ⟨_, hrun, ?_, below_setRow hb hBg _⟩
  have := setRow_heap w g (repC x n c).toArray (splice (repC x n c) n (List.replicate n (.int .u32 x))).toArray t (0, 0) hg
  rw [show repC x (n + n) c = splice (repC x n c) n (List.replicate n (.int .u32 x)) from (splice_twice _ _ _ _ h).symm]
  refine Lib.hid ?_
  simpa [splice] using this
end Go.Proofs.YtcmlmjbpdaecbaaGreat
end
section
namespace Go.Proofs.YtcmlmjbpdaecbaaGreat.K

/-- column number j of a row: for every input the value number j -/
def col (k w : Nat) (r : List Stp) (j : Nat) : List Int := (inputs k w).map fun l => (vals w (base w l) r).getD j 0
def cols (k w : Nat) (r : List Stp) : List (List Int) := (List.range (k + 2 + r.length)).map (col k w r)
/-- the results of a step on columns -/
def column (k w : Nat) (cs : List (List Int)) (s : Stp) : List Int :=
  (List.range (size k w)).map fun a => (B.total s.1 w ((cs.getD s.2.1.toNat []).getD a 0) ((cs.getD s.2.2.toNat []).getD a 0)).1

theorem cols_len (k w : Nat) (r : List Stp) : (cols k w r).length = k + 2 + r.length := by simp [cols]
theorem col_len (k w : Nat) (r : List Stp) (j : Nat) : (col k w r j).length = size k w := by simp [col, inputs]
theorem cols_at {k w : Nat} {r : List Stp} {j : Nat} (h : j < k + 2 + r.length) : (cols k w r)[j]? = some (col k w r j) := by simp [cols, h]
theorem col_at {k w : Nat} {r : List Stp} {j a : Nat} (h : a < size k w) : (col k w r j)[a]? = some ((vals w (base w (inp k w a)) r).getD j 0) := by simp [col, inputs, h]
theorem base_len {k w a : Nat} (hk : k = 1 ∨ k = 2) : (base w (inp k w a)).length = k + 2 := by simp [base, inp_len hk]
theorem cols_getD {k w : Nat} {r : List Stp} {j a : Nat} (hj : j < k + 2 + r.length) (h : a < size k w) : ((cols k w r).getD j []).getD a 0 = (vals w (base w (inp k w a)) r).getD j 0 := by
  have e : (cols k w r).getD j [] = col k w r j := by rw [List.getD_eq_getElem?_getD, cols_at hj, Option.getD_some]
  rw [e, List.getD_eq_getElem?_getD, col_at h, Option.getD_some]

theorem cols_snoc {k w : Nat} (hk : k = 1 ∨ k = 2) (r : List Stp) {s : Stp} (hs : okStep k r.length s) : cols k w (r ++ [s]) = cols k w r ++ [column k w (cols k w r) s] := by
  obtain ⟨_, h1, h2, h3, h4⟩ := hs
  apply List.ext_getElem?
  intro j
  have hl : (r ++ [s]).length = r.length + 1 := by simp
  by_cases hj : j < k + 2 + r.length
  · rw [cols_at (by omega), List.getElem?_append_left (by rw [cols_len]; exact hj), cols_at hj]
    congr 1
    unfold col inputs
    rw [List.map_map, List.map_map]
    apply List.map_congr_left
    intro a ha
    simp only [Function.comp]
    rw [vals_snoc, List.getD_eq_getElem?_getD, List.getD_eq_getElem?_getD, List.getElem?_append_left (by rw [vals_len, base_len hk]; omega)]
  · by_cases hj2 : j = k + 2 + r.length
    · subst hj2
      rw [cols_at (by omega), List.getElem?_append_right (by rw [cols_len]; omega), cols_len, Nat.sub_self]
      simp only [List.getElem?_cons_zero, Option.some.injEq]
      unfold col inputs column
      rw [List.map_map]
      apply List.map_congr_left
      intro a ha
      have ha' := List.mem_range.1 ha
      simp only [Function.comp]
      rw [cols_getD (by omega) ha', cols_getD (by omega) ha', vals_snoc, List.getD_eq_getElem?_getD, List.getElem?_append_right (by rw [vals_len, base_len hk]; omega), vals_len, base_len hk, Nat.sub_self]
      rfl
    · rw [List.getElem?_eq_none (by rw [cols_len]; omega), List.getElem?_eq_none (by rw [List.length_append, cols_len]; simp; omega)]

theorem meaning_cols {k w : Nat} (hk : k = 1 ∨ k = 2) (r : List Stp) : (cols k w r)[if r.length = 0 then 0 else k + 2 + r.length - 1]? = some (meaning k w r) := by
  have key : ∀ j, j < k + 2 + r.length → (∀ a, resultOf w r (inp k w a) = (vals w (base w (inp k w a)) r).getD j 0) → (cols k w r)[j]? = some (meaning k w r) := by
    intro j hj h
    rw [cols_at hj]
    congr 1
    unfold col meaning inputs
    rw [List.map_map, List.map_map]
    apply List.map_congr_left
    intro a _
    exact (h a).symm
  split
  · rename_i h0
    exact key 0 (by omega) fun a => by rw [resultOf, if_pos h0]
  · rename_i h0
    exact key _ (by omega) fun a => by rw [resultOf, if_neg h0, vals_len, base_len hk]

/-- the columns of no step: the inputs, 1, all ones -/
theorem cols_nil {k w : Nat} (hk : k = 1 ∨ k = 2) : cols k w [] = ((List.range k).map fun i => (List.range (size k w)).map fun a => (inp k w a).getD i 0) ++ [List.replicate (size k w) 1, List.replicate (size k w) (B.pw w - 1)] := by
  have hb : ∀ a j, (vals w (base w (inp k w a)) []).getD j 0 = (inp k w a ++ [1, B.pw w - 1]).getD j 0 := fun a j => rfl
  have hin : ∀ j, col k w [] j = (List.range (size k w)).map fun a => (inp k w a ++ [1, B.pw w - 1]).getD j 0 := by
    intro j
    unfold col inputs
    rw [List.map_map]
    rfl
  unfold cols
  rcases hk with rfl | rfl
  · show [col 1 w [] 0, col 1 w [] 1, col 1 w [] 2] = _
    simp only [hin]
    simp [inp, List.range_succ, List.map_const']
  · show [col 2 w [] 0, col 2 w [] 1, col 2 w [] 2, col 2 w [] 3] = _
    simp only [hin]
    simp [inp, List.range_succ, List.map_const']

/-- the rows of n steps more behind a row, in the order of the program's walk -/
def below (k : Nat) : Nat → List Stp → List (List Stp)
  | 0, r => [r]
  | n + 1, r => (steps k r.length).flatMap fun s => below k n (r ++ [s])

theorem flatMap_same {α β : Type} {l : List α} {f g : α → List β} (h : ∀ x ∈ l, f x = g x) : l.flatMap f = l.flatMap g := by
  induction l with
  | nil => rfl
  | cons x l ih => rw [List.flatMap_cons, List.flatMap_cons, h x (List.mem_cons_self ..), ih fun y hy => h y (List.mem_cons_of_mem _ hy)]
theorem rows_below (k m : Nat) : ∀ n, rows k (m + n) = (rows k m).flatMap (below k n) := by
  intro n
  induction n generalizing m with
  | zero => simp [below]
  | succ n ih =>
    rw [show m + (n + 1) = (m + 1) + n by omega, ih (m + 1)]
    show ((rows k m).flatMap fun r => (steps k m).map fun s => r ++ [s]).flatMap (below k n) = _
    rw [List.flatMap_assoc]
    refine flatMap_same fun r hr => ?_
    rw [List.flatMap_map]
    show _ = (steps k r.length).flatMap fun s => below k n (r ++ [s])
    rw [rows_len hr]
theorem rows_eq_below (k n : Nat) : rows k n = below k n [] := by
  have := rows_below k 0 n
  rw [Nat.zero_add] at this
  rw [this]
  simp [rows]
theorem mem_below {k n : Nat} {r q : List Stp} (hr : okRow k r) (h : q ∈ below k n r) : okRow k q ∧ q.length = r.length + n := by
  induction n generalizing r with
  | zero => simp [below] at h; subst h; exact ⟨hr, rfl⟩
  | succ n ih =>
    simp only [below, List.mem_flatMap] at h
    obtain ⟨s, hs, hq⟩ := h
    have hok : okRow k (r ++ [s]) := by
      intro i x hx
      by_cases hi : i < r.length
      · rw [List.getElem?_append_left hi] at hx; exact hr i x hx
      · have hl : i < (r ++ [s]).length := (List.getElem?_eq_some_iff.1 hx).1
        simp at hl
        obtain rfl : i = r.length := by omega
        simp at hx
        subst hx
        exact mem_steps hs
    obtain ⟨h1, h2⟩ := ih hok hq
    exact ⟨h1, by rw [h2]; simp; omega⟩
end Go.Proofs.YtcmlmjbpdaecbaaGreat.K
end
section
namespace Go.Proofs.YtcmlmjbpdaecbaaGreat
open Go.RowKit
set_option linter.unusedVariables false

/-- a column in a block of its own, behind B0 -/
def ColC (B0 : Nat) (w : World) (u : Value) (x : List Int) : Prop :=
  ∃ b, u = .slice (some ⟨b, 0, none⟩) x.length x.length ∧ B0 ≤ b ∧ w.heap[b]? = some (.cells (x.map (Value.int .u32)).toArray 61 (0, 0))

theorem ColC.mono {B0 : Nat} {w w' : World} {u : Value} {x : List Int} (h : ColC B0 w u x) (hb : Below w.heap.size w w') : ColC B0 w' u x := by
  obtain ⟨b, h1, h2, h3⟩ := h
  exact ⟨b, h1, h2, (hb.block b (Array.getElem?_eq_some_iff.1 h3).1).trans h3⟩
theorem ColC.less {B0 B1 : Nat} {w : World} {u : Value} {x : List Int} (h : ColC B0 w u x) (hB : B1 ≤ B0) : ColC B1 w u x := by
  obtain ⟨b, h1, h2, h3⟩ := h
  exact ⟨b, h1, by omega, h3⟩

theorem ColC.grown {B0 : Nat} {w w' : World} {u : Value} {x : List Int} {own : Option Nat} (h : ColC B0 w u x) (hg : w.grownBy w' own) {T : TypeId} (hT : ∀ q, own = some q → ∃ cur, w.heap[q]? = some (.cells cur T (0, 0))) (hne : T ≠ 61) : ColC B0 w' u x := by
  obtain ⟨b, h1, h2, h3⟩ := h
  refine ⟨b, h1, h2, (hg.block b (Array.getElem?_eq_some_iff.1 h3).1 fun e => ?_).trans h3⟩
  obtain ⟨cur, hc⟩ := hT b e.symm
  rw [h3] at hc
  injection hc with hc
  injection hc with _ hc
  exact hne hc.symm
theorem OwnAt.typed {w : World} {e : TypeId} {s n : Nat} {v : Value} {xs : List Value} (h : OwnAt w e s v n xs) : ∀ q, v.ownBlock = some q → ∃ cur, w.heap[q]? = some (.cells cur e (0, 0)) := by
  intro q hq
  rcases h.2 with ⟨rfl, _⟩ | ⟨g, off, cap, cur, rfl, hg, _⟩
  · simp [Value.ownBlock] at hq
  · simp [Value.ownBlock] at hq
    subst hq
    exact ⟨cur, hg⟩

/-- W1, with what came behind it -/
def Bel (W1 X : World) : Prop := Below W1.heap.size W1 X
theorem Bel.alloc {W1 X : World} (h : Bel W1 X) (o : Obj) : Bel W1 (X.alloc o) := Below.alloc h h.size o
theorem Bel.step {W1 X Y : World} (h : Bel W1 X) (hb : Hid (Below X.heap.size X Y)) : Bel W1 Y := Below.trans h (hb.out.mono h.size)
theorem Bel.drew {W1 X : World} (h : Bel W1 X) : Bel W1 X.drew := Below.trans h ((Below.refl _ _).drew)
theorem row_alloc {X : World} {g : Nat} {o : Obj} (h : X.heap[g]? = some o) (o' : Obj) : (X.alloc o').heap[g]? = some o := (Below.heap_alloc _ _ _ (Array.getElem?_eq_some_iff.1 h).1).trans h
theorem row_step {X Y : World} {g : Nat} {o : Obj} (hb : Hid (Below X.heap.size X Y)) (h : X.heap[g]? = some o) : Y.heap[g]? = some o := (hb.out.block g (Array.getElem?_eq_some_iff.1 h).1).trans h
theorem own_step {X Y : World} {e : TypeId} {s n : Nat} {v : Value} {xs : List Value} (hb : Hid (Below X.heap.size X Y)) (h : OwnAt X e s v n xs) : OwnAt Y e s v n xs := h.below hb.out h.lt
theorem row_drew {X : World} {g : Nat} {o : Obj} (h : X.heap[g]? = some o) : X.drew.heap[g]? = some o := h
theorem own_drew {X : World} {e : TypeId} {s n : Nat} {v : Value} {xs : List Value} (h : OwnAt X e s v n xs) : OwnAt X.drew e s v n xs := h
theorem new_two (X : World) (o o' : Obj) : ((X.alloc o).alloc o').heap[X.heap.size + 1]? = some o' := by
  have := heap_alloc_new (X.alloc o) o'
  rwa [World.size_alloc] at this
theorem bel_app {W1 X Y : World} {own : Option Nat} (h : Bel W1 X) (hg : X.grownBy Y own) (ho : ∀ g, own = some g → W1.heap.size ≤ g) : Bel W1 Y := Below.grown h hg h.size ho
theorem new_drew (X : World) (o : Obj) : (X.drew.alloc o).heap[X.heap.size]? = some o := heap_alloc_new X.drew o

/-- a row that is being filled -/
def fillC (xs : List Int) (c : Nat) : List Value := xs.map (Value.int .u32) ++ List.replicate (c - xs.length) (.int .u32 0)
theorem fillC_nil (c : Nat) : (fillC [] c).toArray = Array.replicate c (.int .u32 0) := by
  unfold fillC
  simp
theorem fillC_full {xs : List Int} {c : Nat} (h : xs.length = c) : fillC xs c = xs.map (Value.int .u32) := by
  unfold fillC
  rw [h, Nat.sub_self]
  simp
theorem fill_step {w : World} {p : Nat} {xs : List Int} {c : Nat} {x : Int} {T : TypeId} (h : w.heap[p]? = some (.cells (fillC xs c).toArray T (0, 0))) {a : Nat} (ha : xs.length = a) (hc : a < c) :
    (w.setCell ⟨p, a, none⟩ (.int .u32 x)).heap[p]? = some (.cells (fillC (xs ++ [x]) c).toArray T (0, 0)) := by
  rw [heap_setCell_same w p a _ _ _ h]
  congr 3
  subst ha
  apply Array.toList_inj.1
  simp [fillC]
  rw [show c - xs.length = (c - (xs.length + 1)) + 1 by omega, List.replicate_succ]
  simp
theorem fill_cell {w : World} {p : Nat} {xs : List Int} {c : Nat} {T : TypeId} (h : w.heap[p]? = some (.cells (fillC xs c).toArray T (0, 0))) {a : Nat} (ha : xs.length ≤ c) (hc : a < c) :
    (w.cell? ⟨p, a, none⟩).isSome = true ∧ w.frozen? ⟨p, a, none⟩ = false := by
  refine ⟨?_, by simp [World.frozen?, h]⟩
  rw [cell_of_row w p _ _ T (0, 0) h]
  have : a < (fillC xs c).length := by simp [fillC]; omega
  simp [this]

/-- the column of input number i -/
def incol (k w i : Nat) : List Int := (List.range (K.size k w)).map fun a => (K.inp k w a).getD i 0
theorem incol_len (k w i : Nat) : (incol k w i).length = K.size k w := by simp [incol]
theorem take_incol {k w i a : Nat} (h : a < K.size k w) : (incol k w i).take (a + 1) = (incol k w i).take a ++ [(K.inp k w a).getD i 0] :=
  K.take_succ_at (by simp [incol, h])
theorem take_incol_len {k w i a : Nat} (h : a ≤ K.size k w) : ((incol k w i).take a).length = a := by rw [List.length_take, incol_len]; omega
theorem range_map_succ {α : Type} (f : Nat → α) (n : Nat) : (List.range (n + 1)).map f = (List.range n).map f ++ [f n] := by rw [List.range_succ, List.map_append]; rfl

theorem one_sl2 (A B : Option Addr) (N : Nat) : ∀ u ∈ [Value.slice A N N, Value.slice B N N], u.oneCell' = true := by simp [Value.oneCell']
theorem elC_alloc {B : Nat} {X : World} {us : List Value} {xs : List (List Int)} (h : Elems (ColC B) X us xs) (o : Obj) : Elems (ColC B) (X.alloc o) us xs := h.map_ fun u x hu => ColC.mono hu ((Below.refl _ _).alloc (Nat.le_refl _) _)
theorem elC_drew {B : Nat} {X : World} {us : List Value} {xs : List (List Int)} (h : Elems (ColC B) X us xs) : Elems (ColC B) X.drew us xs := h
theorem elC_step {B : Nat} {X Y : World} {us : List Value} {xs : List (List Int)} (hb : Hid (Below X.heap.size X Y)) (h : Elems (ColC B) X us xs) : Elems (ColC B) Y us xs := h.map_ fun u x hu => ColC.mono hu hb.out
theorem bel_size {W1 Y : World} (h : Bel W1 Y) : W1.heap.size ≤ Y.heap.size := h.size
theorem bel_size1 {W1 Y : World} (h : Bel W1 Y) : W1.heap.size ≤ Y.heap.size + 1 := Nat.le_succ_of_le h.size
theorem bel_size2 {W1 Y : World} (h : Bel W1 Y) : W1.heap.size ≤ Y.heap.size + 1 + 1 := by have := h.size; omega
theorem app_ge {W1 X : World} {v v' : Value} (h : Bel W1 X) (hv : ∀ g, v.ownBlock = some g → W1.heap.size ≤ g) (hat : v'.ownBlock = v.ownBlock ∨ v'.ownBlock = some X.heap.size) : ∀ g, v'.ownBlock = some g → W1.heap.size ≤ g := by
  intro g hg
  rcases hat with e | e
  · exact hv g (e ▸ hg)
  · rw [e] at hg; cases hg; exact h.size
end Go.Proofs.YtcmlmjbpdaecbaaGreat
end
section
namespace Go.Proofs.YtcmlmjbpdaecbaaGreat
open Go.RowKit
set_option linter.unusedVariables false

end Go.Proofs.YtcmlmjbpdaecbaaGreat
end
section
namespace Go.Proofs.YtcmlmjbpdaecbaaGreat
open Go.RowKit
set_option linter.unusedVariables false

theorem col_row {wf w3 : World} {g : Nat} {o : Obj} (hb : Below wf.drew.heap.size wf.drew w3) (h : wf.heap[g]? = some o) : w3.heap[g]? = some o := (hb.block g (Array.getElem?_eq_some_iff.1 h).1).trans h
theorem Bel.set {W1 X : World} (h : Bel W1 X) {g a : Nat} (hg : W1.heap.size ≤ g) (v : Value) : Bel W1 (X.setCell ⟨g, a, none⟩ v) := Below.setCell h (p := ⟨g, a, none⟩) hg v
theorem s8_of {N a : Nat} {p0 p1 q0 q1 q2 r1 r2 : Prop} {s1 s2 : Nat → Prop} (h : (p0 ∧ p1) ∧ (q0 ∧ q1 ∧ q2) ∧ r1 ∧ r2 ∧ ∀ a, a < N → s1 a ∧ s2 a) (ha : a < N) : p1 ∧ q0 ∧ q1 ∧ q2 ∧ r1 ∧ r2 ∧ s1 a ∧ s2 a :=
  ⟨h.1.2, h.2.1.1, h.2.1.2.1, h.2.1.2.2, h.2.2.1, h.2.2.2.1, (h.2.2.2.2 a ha).1, (h.2.2.2.2 a ha).2⟩
theorem column_len (k w : Nat) (cs : List (List Int)) (s : K.Stp) : (K.column k w cs s).length = K.size k w := by simp [K.column]
theorem take_column {k w a : Nat} {cs : List (List Int)} {s : K.Stp} (h : a < K.size k w) : (K.column k w cs s).take (a + 1) = (K.column k w cs s).take a ++ [(B.total s.1 w ((cs.getD s.2.1.toNat []).getD a 0) ((cs.getD s.2.2.toNat []).getD a 0)).1] :=
  K.take_succ_at (by simp [K.column, h])
theorem take_column_len {k w a : Nat} {cs : List (List Int)} {s : K.Stp} (h : a ≤ K.size k w) : ((K.column k w cs s).take a).length = a := by rw [List.length_take, column_len]; omega

end Go.Proofs.YtcmlmjbpdaecbaaGreat
end
