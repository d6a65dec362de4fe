/- Merged: PlainK, Open, St, K1, K2, K3, K4, K5, K6. -/
import Derived.Test.YtcmlmjbpdaecbaaGreatC01
import Derived.Test.YtcmlmjbpdaecbaaGreatC00
import Derived.WalkKit
import Derived.ProofKit
import Derived.OpenShut
import Derived.Deep.Slices
import Derived.Carry
import Derived.Deep.Fields
import Derived.ChangeSame
import Derived.Test.YtcmlmjbpdaecbaaGreatC08
import Derived.Deep.LoopGhost
import Derived.Deep.RegionLaw
import Derived.Deep.RegionHeld3
set_option linter.unusedVariables false
set_option linter.unusedSimpArgs false
section
namespace Go.Proofs.YtcmlmjbpdaecbaaGreat.K

/-- a step: its operation and its two operands -/
abbrev Stp := Int × Int × Int
def ops : List Int := [1, 2, 8, 9, 10, 11, 12]
def size (k w : Nat) : Nat := 2 ^ (k * w)
def inp (k w i : Nat) : List Int := if k = 1 then [(i : Int)] else [((i / 2 ^ w : Nat) : Int), ((i % 2 ^ w : Nat) : Int)]
def stepv (w : Nat) (l : List Int) (s : Stp) : Int := (B.total s.1 w (l.getD s.2.1.toNat 0) (l.getD s.2.2.toNat 0)).1
def vals (w : Nat) (l : List Int) (r : List Stp) : List Int := r.foldl (fun l s => l ++ [stepv w l s]) l
def base (w : Nat) (l : List Int) : List Int := l ++ [1, B.pw w - 1]
def resultOf (w : Nat) (r : List Stp) (l : List Int) : Int :=
  if r.length = 0 then (vals w (base w l) r).getD 0 0 else (vals w (base w l) r).getD ((vals w (base w l) r).length - 1) 0
def inputs (k w : Nat) : List (List Int) := (List.range (size k w)).map (inp k w)
def meaning (k w : Nat) (r : List Stp) : List Int := (inputs k w).map (resultOf w r)
def steps (k p : Nat) : List Stp := ops.flatMap fun o => (List.range (k + 2 + p)).flatMap fun a : Nat => (List.range (k + 2 + p)).map fun b : Nat => ((o, (a : Int), (b : Int)) : Stp)
def rows (k : Nat) : Nat → List (List Stp)
  | 0 => [[]]
  | n + 1 => (rows k n).flatMap fun r => (steps k n).map fun s => r ++ [s]
def over (k w : Int) : Bool := decide (1 ≤ k) && decide (k ≤ 2) && decide (1 ≤ w) && decide (w ≤ 3)
def isTable (k w : Nat) (t : List Int) : Bool := decide (t.length = size k w) && t.all fun x => decide (x < B.pw w)
def upTo (k most : Nat) : List (List Stp) := (List.range most).flatMap (rows k)
def first (k w : Nat) (t : List Int) (most : Nat) : Option (List Stp) := (upTo k most).find? fun r => decide (meaning k w r = t)
def shortest (k w : Int) (t : List Int) : List Stp × Bool × Int :=
  if over k w = false then ([], false, 1) else if isTable k.toNat w.toNat t = false then ([], false, 1) else
  match first k.toNat w.toNat t 3 with
  | some r => (r, true, 0)
  | none => ([], false, 0)

/-- a row of which each step is one, with operands that lie before it -/
def okStep (k i : Nat) (s : Stp) : Prop := s.1 ∈ ops ∧ 0 ≤ s.2.1 ∧ s.2.1 < k + 2 + i ∧ 0 ≤ s.2.2 ∧ s.2.2 < k + 2 + i
def okRow (k : Nat) (r : List Stp) : Prop := ∀ i s, r[i]? = some s → okStep k i s

theorem ops_range {o : Int} (h : o ∈ ops) : 1 ≤ o ∧ o ≤ 13 := by
  simp only [ops, List.mem_cons, List.not_mem_nil, or_false] at h
  omega
theorem mem_steps {k p : Nat} {s : Stp} (h : s ∈ steps k p) : okStep k p s := by
  unfold steps at h
  simp only [List.mem_flatMap, List.mem_map, List.mem_range] at h
  obtain ⟨o, ho, a, ha, b, hb, rfl⟩ := h
  exact ⟨ho, by simp, by simp only; omega, by simp, by simp only; omega⟩
theorem rows_len {k n : Nat} {r : List Stp} (h : r ∈ rows k n) : r.length = n := by
  induction n generalizing r with
  | zero => simp [rows] at h; simp [h]
  | succ n ih =>
    simp only [rows, List.mem_flatMap, List.mem_map] at h
    obtain ⟨q, hq, s, _, rfl⟩ := h
    simp [ih hq]
theorem rows_ok {k n : Nat} {r : List Stp} (h : r ∈ rows k n) : okRow k r := by
  induction n generalizing r with
  | zero => simp [rows] at h; subst h; intro i s hi; simp at hi
  | succ n ih =>
    simp only [rows, List.mem_flatMap, List.mem_map] at h
    obtain ⟨q, hq, s, hs, rfl⟩ := h
    intro i x hx
    by_cases hi : i < q.length
    · rw [List.getElem?_append_left hi] at hx
      exact ih hq i x hx
    · have hl := rows_len hq
      have hi2 : i < (q ++ [s]).length := (List.getElem?_eq_some_iff.1 hx).1
      simp at hi2
      obtain rfl : i = q.length := by omega
      simp at hx
      subst hx
      rw [hl]
      exact mem_steps hs

theorem vals_nil (w : Nat) (l : List Int) : vals w l [] = l := rfl
theorem vals_cons (w : Nat) (l : List Int) (s : Stp) (r : List Stp) : vals w l (s :: r) = vals w (l ++ [stepv w l s]) r := rfl
theorem vals_snoc (w : Nat) (l : List Int) (r : List Stp) (s : Stp) : vals w l (r ++ [s]) = vals w l r ++ [stepv w (vals w l r) s] := by
  unfold vals; rw [List.foldl_append]; rfl
theorem vals_len (w : Nat) (l : List Int) (r : List Stp) : (vals w l r).length = l.length + r.length := by
  induction r generalizing l with
  | nil => rfl
  | cons s r ih => rw [vals_cons, ih]; simp; omega
theorem take_succ_at {α : Type} {xs : List α} {k : Nat} {x : α} (h : xs[k]? = some x) : xs.take (k + 1) = xs.take k ++ [x] := by
  rw [List.take_add_one, h]; rfl
theorem vals_take (w : Nat) (l : List Int) (r : List Stp) {i : Nat} {s : Stp} (h : r[i]? = some s) : vals w l (r.take (i + 1)) = vals w l (r.take i) ++ [stepv w (vals w l (r.take i)) s] := by
  rw [take_succ_at h, vals_snoc]
/-- words of 32 bits -/
def W32 (l : List Int) : Prop := ∀ x ∈ l, 0 ≤ x ∧ x < 4294967296
theorem W32.at {l : List Int} (h : W32 l) (i : Nat) : 0 ≤ l.getD i 0 ∧ l.getD i 0 < 4294967296 := by
  rw [List.getD_eq_getElem?_getD]
  cases hx : l[i]? with
  | none => simp
  | some x => simpa using h x (List.mem_of_getElem? hx)
theorem W32.step {w : Nat} {l : List Int} (h : W32 l) (s : Stp) : W32 (l ++ [stepv w l s]) := by
  intro x hx
  rcases List.mem_append.1 hx with hx | hx
  · exact h x hx
  · rw [List.mem_singleton.1 hx]
    exact B.total_word (h.at _).1 (h.at _).1
theorem W32.vals {w : Nat} {l : List Int} (h : W32 l) (r : List Stp) : W32 (vals w l r) := by
  induction r generalizing l with
  | nil => exact h
  | cons s r ih => rw [vals_cons]; exact ih (h.step s)
theorem inp_len {k w i : Nat} (hk : k = 1 ∨ k = 2) : (inp k w i).length = k := by
  unfold inp
  rcases hk with rfl | rfl <;> rfl
theorem size_pos (k w : Nat) : 0 < size k w := Nat.two_pow_pos _
theorem size_le {k w : Nat} (hk : k ≤ 2) (hw : w ≤ 3) : size k w ≤ 64 := by
  have : k * w ≤ 2 * 3 := Nat.mul_le_mul hk hw
  exact Nat.le_trans (Nat.pow_le_pow_right (by decide) this) (by decide)
theorem W32.base {k w i : Nat} (hk : k = 1 ∨ k = 2) (hw : w ≤ 3) (hi : i < size k w) : W32 (base w (inp k w i)) := by
  have h64 := size_le (k := k) (w := w) (by omega) hw
  have hp : B.pw w ≤ 4294967296 := B.pw_le (by omega)
  have hp1 := B.pw_pos w
  intro x hx
  unfold K.base inp at hx
  rcases hk with rfl | rfl
  · simp at hx
    omega
  · simp only [show ¬ (2 = 1) by decide, if_false, List.cons_append, List.nil_append, List.mem_cons, List.not_mem_nil, or_false] at hx
    have h1 : i / 2 ^ w ≤ i := Nat.div_le_self _ _
    have h2 : i % 2 ^ w ≤ i := Nat.mod_le _ _
    generalize i / 2 ^ w = u at *
    generalize i % 2 ^ w = v at *
    omega
theorem inputs_len (k w : Nat) : (inputs k w).length = size k w := by simp [inputs]
theorem inputs_at {k w i : Nat} (h : i < size k w) : (inputs k w)[i]? = some (inp k w i) := by simp [inputs, h]
theorem meaning_len (k w : Nat) (r : List Stp) : (meaning k w r).length = size k w := by simp [meaning, inputs]
theorem meaning_at {k w i : Nat} (r : List Stp) (h : i < size k w) : (meaning k w r)[i]? = some (resultOf w r (inp k w i)) := by simp [meaning, inputs, h]
theorem steps_len {k p : Nat} (hk : k ≤ 2) (hp : p ≤ 2) : (steps k p).length ≤ 252 := by
  have : (k = 0 ∨ k = 1 ∨ k = 2) ∧ (p = 0 ∨ p = 1 ∨ p = 2) := by omega
  obtain ⟨hk, hp⟩ := this
  rcases hk with rfl | rfl | rfl <;> rcases hp with rfl | rfl | rfl <;> decide +kernel
theorem rows_count_succ (k n : Nat) : (rows k (n + 1)).length = (rows k n).length * (steps k n).length := by
  simp only [rows, List.length_flatMap, List.length_map]
  induction rows k n with
  | nil => simp
  | cons r l ih => simp only [List.map_cons, List.sum_cons, ih, List.length_cons, Nat.succ_mul]; omega
theorem rows_count {k n : Nat} (hk : k ≤ 2) (hn : n ≤ 2) : (rows k n).length ≤ 100000 := by
  have h0 : (rows k 0).length = 1 := rfl
  have s0 := steps_len (k := k) (p := 0) hk (by omega)
  have s1 := steps_len (k := k) (p := 1) hk (by omega)
  have h1 := rows_count_succ k 0
  rw [show (0 : Nat) + 1 = 1 from rfl] at h1
  have h2 := rows_count_succ k 1
  rw [show (1 : Nat) + 1 = 2 from rfl] at h2
  rw [h0, Nat.one_mul] at h1
  have h3 : (rows k 1).length * (steps k 1).length ≤ 252 * 252 := Nat.mul_le_mul (by omega) s1
  have : n = 0 ∨ n = 1 ∨ n = 2 := by omega
  rcases this with rfl | rfl | rfl <;> omega
end Go.Proofs.YtcmlmjbpdaecbaaGreat.K
end
section
namespace Go.Proofs.YtcmlmjbpdaecbaaGreat
open Go.ChangeShapes Go.WideShapes Go.ChangeAt Go.RowKit Go.Deep
set_option linter.unusedVariables false

section
variable {H : Type} {enc : TypeId × Value → H} {P : Program} {W : World}

/-- 'one cell that reads at t is an element'. -/
def ReadsAs {α : Type} (enc : TypeId × Value → H) (P : Program) (W : World) (t : TypeId) (R : World → Value → α → Prop) : Prop :=
  ∀ n u x, DataW.trod enc P W 0 (fun _ => true) true n t [u] = some x → ∃ a, R W u a

theorem readsInt {t : TypeId} {q : IntKind} (ht : P.underlying t = some (.int q)) : ReadsAs enc P W t (IntR q) := by
  intro n u x h
  obtain ⟨m, e, _, _⟩ := DataW.trod_int ht h
  exact ⟨m, (List.cons.inj e).1⟩
theorem readsBool {t : TypeId} (ht : P.underlying t = some .bool) : ReadsAs enc P W t BoolR := by
  intro n u x h
  obtain ⟨m, e, _⟩ := DataW.trod_bool ht h
  exact ⟨m, (List.cons.inj e).1⟩

theorem slAt_of_cells {α : Type} [Inhabited α] {R : World → Value → α → Prop} {t e : TypeId} (ht : P.underlying t = some (.slice e)) (hc : P.cellsOf e = 1) (hR : ReadsAs enc P W e R) {n : Nat} {u : Value} {x : DataW H × List MemPlace}
    (h : DataW.trod enc P W 0 (fun _ => true) true n t [u] = some x) : ∃ A m c xs, u = .slice A m c ∧ SlAt R W A m xs := by
  rcases open_slice1 ht hc h with ⟨e1, _⟩ | ⟨a, len, cap, m, k, V, D, Pl, e1, _, hl, hm, hmm, _, hV⟩
  · exact ⟨none, 0, 0, [], by simpa using e1, SlAt.nil_ _⟩
  · simp at hmm
    subst hmm
    obtain ⟨X, hX⟩ := choose_lt (α := α) (p := fun i y => R W (V i) y) (n := m) (fun i hi => hR k (V i) _ (hV i hi).2)
    refine ⟨some a, len, m, (List.range len).map X, by simpa using e1, by simp, ?_, fun j y hy => ?_⟩
    · simp only [maxLen] at hm; omega
    · have hj : j < len := by
        have := (List.getElem?_eq_some_iff.1 hy).1
        simpa using this
      have hy' : y = X j := by simpa [hj] using hy.symm
      obtain ⟨b, off, spot⟩ := a
      have h0 : spot = none := World.cell?_spot (v := V 0) (by simpa [Addr.add] using (hV 0 (by omega)).1)
      subst h0
      have hcell := (hV j (by omega)).1
      rw [add_plain] at hcell
      exact ⟨b, off, V j, rfl, World.block_lt_of_cell? _ _ hcell, hcell, by rw [hy']; exact hX j (by omega)⟩

theorem readsSl {α : Type} [Inhabited α] {R : World → Value → α → Prop} {t e : TypeId} (ht : P.underlying t = some (.slice e)) (hc : P.cellsOf e = 1) (hR : ReadsAs enc P W e R) : ReadsAs enc P W t (SlR R) := by
  intro n u x h
  obtain ⟨A, m, c, xs, rfl, hs⟩ := slAt_of_cells ht hc hR h
  obtain rfl := hs.len
  exact ⟨xs, SlR.mk_ hs⟩

theorem open_sl {α : Type} [Inhabited α] {R : World → Value → α → Prop} {r : Reach} {b0 : Nat} {t e : TypeId} {v : Value} {d : DataW H} {ps : List MemPlace} (ht : P.underlying t = some (.slice e)) (hc : P.cellsOf e = 1) (hR : ReadsAs enc P W e R)
    (hval : Value.okWide P W r b0 t v) (h : DataW.Trod enc P W 0 (fun _ => true) true t v d ps) : ∃ A m c xs, v = .slice A m c ∧ SlAt R W A m xs := by
  obtain ⟨A, m, c, rfl⟩ := okWide_slice ht hval
  obtain ⟨n, hn⟩ := h
  obtain ⟨A', m', c', xs, e, hs⟩ := slAt_of_cells ht hc hR (u := .slice A m c) (by simpa [Value.cells] using hn)
  cases e
  exact ⟨A, m, c, xs, rfl, hs⟩

/-- All that came in reads behind the call as it did. -/
theorem trodAll_stays (hl : laidOutB P = true) {W' : World} (hb : Below W.heap.size W W') {sp : Nat → Bool} : ∀ {ts : List TypeId} {vs : List Value} {ds : List (DataW H)} {ps : List MemPlace},
    (ts.all fun t => P.readableRec t && decide (t < P.types.size)) = true → DataW.TrodAll enc P W 0 (fun _ => true) true ts vs ds ps → (∀ x ∈ ps, x.block < W.heap.size) → (∀ x ∈ ps, sp x.block = true) → DataW.TrodAll enc P W' 0 sp true ts vs ds ps
  | [], vs, ds, ps, _, h, _, _ => by
    obtain ⟨rfl, rfl, rfl⟩ := trodAll_nil h
    exact trodAll_mk0
  | t :: ts, vs, ds, ps, hr, h, hlt, hsp => by
    obtain ⟨v, vs', d, ds', p, q, rfl, rfl, rfl, h1, h2⟩ := trodAll_cons h
    simp only [List.all_cons, Bool.and_eq_true, decide_eq_true_eq] at hr
    exact trodAll_cons_mk (WideElems.Trod_stays hl hr.1.1 hr.1.2 h1 (fun x hx => hb.same (hlt x (List.mem_append_left _ hx))) (fun x hx => hsp x (List.mem_append_left _ hx)))
      (trodAll_stays hl hb hr.2 h2 (fun x hx => hlt x (List.mem_append_right _ hx)) (fun x hx => hsp x (List.mem_append_right _ hx)))

/-- THE LAW's POST: true; what came in reads as it did. -/
theorem post_true {f : Func} {s : ChangeSpec} {W' : World} {args : Array Value} {ds gs : List (DataW H)} {before : List MemPlace} {tb : TypeId} {apart fresh handsOn : Bool} (hl : laidOutB P = true) (hv : s.vars = [])
    (hr : (f.params.toList.all fun t => P.readableRec t && decide (t < P.types.size)) = true)
    (hW : DataW.Whole enc P f.params.toList s.vars apart W args.toList ds gs before) (hs : s.fn H (ds ++ gs) = { results := [.lit (.bool true)], args := ds }) (hrt : f.resultTypes = #[tb]) (htb : P.underlying tb = some .bool)
    (hb : Below W.heap.size W W') : s.post enc P f apart fresh handsOn false W args (.bool true) W' := by
  have hW' := hW
  obtain ⟨p, q, hA, hV, rfl, hfz, hnd⟩ := hW
  rw [hv] at hV
  obtain ⟨rfl, rfl⟩ := trodVars_none hV
  have hlt : ∀ x ∈ p, x.block < W.heap.size := fun x hx => by have := hW'.lt x (by simpa using hx); exact this
  refine ⟨ds, [], p ++ [], [], p, [], hW', ?_, ?_, ?_, hb.frame _, fun h => by cases h⟩
  · rw [hs, hrt]; exact trodAll_cons_mk (shut_bool htb _) trodAll_mk0
  · rw [hs]; exact trodAll_stays hl hb hr hA hlt (fun x hx => by simpa using hlt x hx)
  · rw [hv, hs]; rfl
end
end Go.Proofs.YtcmlmjbpdaecbaaGreat
end
section
namespace Go.Proofs.YtcmlmjbpdaecbaaGreat
open Go.ChangeShapes Go.WideShapes Go.ChangeAt Go.RowKit Go.Deep
set_option linter.unusedVariables false

/-- The slice at A of n elements of s cells each reads as the list xs, element by element by R. -/
def StAt {α : Type} (s : Nat) (R : World → List Value → α → Prop) (w : World) (A : Option Addr) (n : Nat) (xs : List α) : Prop :=
  xs.length = n ∧ n ≤ 9223372036854775807 ∧ ∀ k x, xs[k]? = some x → ∃ b off us, A = some ⟨b, off, none⟩ ∧ b < w.heap.size ∧ us.length = s ∧ (∀ j u, us[j]? = some u → w.cell? ⟨b, off + k * s + j, none⟩ = some u) ∧ R w us x

def MonoL {α : Type} (R : World → List Value → α → Prop) : Prop := ∀ w w' us x, Below w.heap.size w w' → R w us x → R w' us x

section
variable {α : Type} {s : Nat} {R : World → List Value → α → Prop} {w w' : World} {A : Option Addr} {n : Nat} {xs : List α}

theorem StAt.len (h : StAt s R w A n xs) : xs.length = n := h.1
theorem StAt.le (h : StAt s R w A n xs) : n ≤ 9223372036854775807 := h.2.1

theorem StAt.at_ (h : StAt s R w A n xs) {k : Nat} (hk : k < n) : ∃ x b off us, xs[k]? = some x ∧ A = some ⟨b, off, none⟩ ∧ b < w.heap.size ∧ us.length = s ∧ (∀ j u, us[j]? = some u → w.cell? ⟨b, off + k * s + j, none⟩ = some u) ∧ R w us x := by
  obtain ⟨h1, _, h2⟩ := h
  have hl : k < xs.length := by omega
  obtain ⟨b, off, us, r⟩ := h2 k xs[k] (List.getElem?_eq_getElem hl)
  exact ⟨_, b, off, us, List.getElem?_eq_getElem hl, r⟩

theorem StAt.below (hR : MonoL R) (h : StAt s R w A n xs) (hb : Below w.heap.size w w') : StAt s R w' A n xs := by
  refine ⟨h.1, h.2.1, fun k x hx => ?_⟩
  obtain ⟨b, off, us, hA, hlt, hs, hc, hr⟩ := h.2.2 k x hx
  exact ⟨b, off, us, hA, Nat.lt_of_lt_of_le hlt hb.size, hs, fun j u hu => (hb.cell (p := ⟨b, off + k * s + j, none⟩) hlt).trans (hc j u hu), hR _ _ _ _ hb hr⟩

theorem StAt.dr (hR : MonoL R) (h : StAt s R w A n xs) (hb : Dr w w') : StAt s R w' A n xs := h.below hR (hb.below _)

theorem StAt.nil_ (A : Option Addr) : StAt s R w A 0 ([] : List α) := ⟨rfl, by omega, fun k x h => by simp at h⟩

/-- A slice of the call's own, s cells an element, read. -/
theorem OwnAt.stAt {e : TypeId} {c : Nat} {vs : List Value} {ys : List α} (h : OwnAt w e s (.slice A n c) n vs) (hl : ys.length = n)
    (hR : ∀ (k : Nat) (x : α), ys[k]? = some x → R w ((vs.drop (k * s)).take s) x) : StAt s R w A n ys := by
  refine ⟨hl, h.le, fun k x hx => ?_⟩
  have hk : k < ys.length := (List.getElem?_eq_some_iff.1 hx).1
  rcases h.2 with ⟨h1, h2⟩ | ⟨g, off, cap, cur, h1, hg, _, _, _, hcur⟩
  · omega
  · injection h1 with h1 _ _
    have hvl := h.1
    have hks : k * s + s ≤ n * s := by rw [← Nat.succ_mul]; exact Nat.mul_le_mul_right _ (by omega)
    refine ⟨g, off, (vs.drop (k * s)).take s, h1, (Array.getElem?_eq_some_iff.1 hg).1, by rw [List.length_take, List.length_drop]; omega, fun j u hu => ?_, hR k x hx⟩
    rw [cell_of_row w g _ cur e (0, 0) hg, Nat.add_assoc]
    refine hcur _ _ ?_
    rw [List.getElem?_take] at hu
    split at hu
    · rw [List.getElem?_drop] at hu; exact hu
    · cases hu

/-- the cells of a slice of structs that reads as a list -/
theorem StAt.cells (h : StAt s R w A n xs) (hs0 : 0 < s) :
    ∃ us : List Value, us.length = n * s ∧ (∀ j u, us[j]? = some u → ∃ ad : Addr, A = some ad ∧ w.cell? (ad.add j) = some u) ∧ ∀ (k : Nat) (x : α), xs[k]? = some x → R w ((us.drop (k * s)).take s) x := by
  refine ⟨(List.range (n * s)).map fun k => (A.bind fun a => w.cell? (a.add k)).getD (.tuple #[]), by simp, fun j u hu => ?_, fun k x hx => ?_⟩
  · have hj : j < n * s := by have := (List.getElem?_eq_some_iff.1 hu).1; simpa using this
    have hjn : j / s < n := by rw [Nat.div_lt_iff_lt_mul hs0]; exact hj
    obtain ⟨x, b, off, us, _, rfl, _, hl, hc, _⟩ := h.at_ hjn
    have hm : j % s < us.length := by rw [hl]; exact Nat.mod_lt _ hs0
    have hcell := hc (j % s) us[j % s] (List.getElem?_eq_getElem hm)
    have hj' : off + j / s * s + j % s = off + j := by rw [Nat.add_assoc, Nat.mul_comm, Nat.div_add_mod]
    rw [hj'] at hcell
    refine ⟨⟨b, off, none⟩, rfl, ?_⟩
    rw [List.getElem?_map, List.getElem?_range hj] at hu
    simp only [Option.map_some, Option.bind_some, addr_add_zero, hcell, Option.getD_some, Option.some.injEq] at hu
    rw [addr_add_zero, hcell, hu]
  · have hk : k < n := by have := (List.getElem?_eq_some_iff.1 hx).1; have := h.1; omega
    obtain ⟨b, off, us, rfl, _, hl, hc, hr⟩ := h.2.2 k x hx
    have hks : k * s + s ≤ n * s := by rw [← Nat.succ_mul]; exact Nat.mul_le_mul_right _ (by omega)
    have e : (((List.range (n * s)).map fun k => ((some (⟨b, off, none⟩ : Addr)).bind fun a => w.cell? (a.add k)).getD (.tuple #[])).drop (k * s)).take s = us := by
      apply List.ext_getElem?
      intro j
      rw [List.getElem?_take]
      split
      · rename_i hj
        rw [List.getElem?_drop, List.getElem?_map, List.getElem?_range (by omega)]
        have hj' : j < us.length := by omega
        have hcell := hc j us[j] (List.getElem?_eq_getElem hj')
        rw [Nat.add_assoc] at hcell
        simp only [Option.map_some, Option.bind_some, addr_add_zero, hcell, Option.getD_some]
        exact (List.getElem?_eq_getElem hj').symm
      · rename_i hj
        rw [List.getElem?_eq_none (by omega)]
    rw [e]; exact hr
end

section
variable {H : Type} {enc : TypeId × Value → H} {P : Program} {W : World}

/-- 'the cells of a struct of fields fs read as an element'. -/
def ReadsSt {α : Type} (enc : TypeId × Value → H) (P : Program) (W : World) (fs : Array Field) (R : World → List Value → α → Prop) : Prop :=
  ∀ n (us : List Value), us.length = fs.size → (∀ (j : Nat) (f : Field), fs[j]? = some f → ∃ u y, us[j]? = some u ∧ DataW.trod enc P W 0 (fun _ => true) true n f.type [u] = some y) → ∃ a, R W us a

theorem stAt_of_cells {α : Type} [Inhabited α] {R : World → List Value → α → Prop} {t e : TypeId} {fs : Array Field} (ht : P.underlying t = some (.slice e)) (he : P.underlying e = some (.struct fs))
    (hone : oneCellFields P fs = true) (hC : P.cellsOf e = fs.size) (hs0 : 0 < fs.size) (hR : ReadsSt enc P W fs R) {n : Nat} {u : Value} {x : DataW H × List MemPlace}
    (h : DataW.trod enc P W 0 (fun _ => true) true n t [u] = some x) : ∃ A m c xs, u = .slice A m c ∧ StAt fs.size R W A m xs := by
  rcases open_slice ht h with ⟨e1, _⟩ | ⟨a, len, cap, m, k, D, Pl, e1, _, hl, hm, hmm, _, hV⟩
  · exact ⟨none, 0, 0, [], by simpa using e1, StAt.nil_ _⟩
  · simp at hmm
    subst hmm
    have each : ∀ i, i < m → ∃ q : α × List Value, q.2.length = fs.size ∧ (∀ j v, q.2[j]? = some v → W.cell? (a.add (i * fs.size + j)) = some v) ∧ R W q.2 q.1 := by
      intro i hi
      obtain ⟨cs', hc, ht'⟩ := hV i hi
      rw [hC] at hc
      obtain ⟨ys, n', hn', hy, hlen, hyl, hf⟩ := DataW.trod_struct he ht'
      obtain ⟨_, hcl, hat⟩ := World.cells?_some hc
      obtain ⟨y, hy'⟩ := hR n' cs' hcl (fun j f hj => by
        obtain ⟨ho, hk⟩ := hone_of hone j f hj
        have hjl : j < fs.size := (Array.getElem?_eq_some_iff.1 hj).1
        have h1 := hf j f hj
        rw [ho, hk] at h1
        have hone' : (cs'.drop j).take 1 = [cs'[j]'(by omega)] := by
          rw [List.drop_eq_getElem_cons (by omega)]
          rfl
        rw [hone'] at h1
        exact ⟨_, _, List.getElem?_eq_getElem (by omega), h1.trans (List.getElem?_eq_getElem (by omega))⟩)
      refine ⟨(y, cs'), hcl, fun j v hv => ?_, hy'⟩
      have hj : j < fs.size := by have := (List.getElem?_eq_some_iff.1 hv).1; simp at this; omega
      rw [← Go.Deep.add_add, hat j hj]
      exact hv
    obtain ⟨q, hq⟩ := choose_lt each
    refine ⟨some a, len, m, (List.range len).map fun i => (q i).1, by simpa using e1, by simp, ?_, fun j y hy => ?_⟩
    · simp only [maxLen] at hm; omega
    · have hj : j < len := by
        have := (List.getElem?_eq_some_iff.1 hy).1
        simpa using this
      have hy' : y = (q j).1 := by simpa [hj] using hy.symm
      obtain ⟨b, off, spot⟩ := a
      obtain ⟨h1, h2, h3⟩ := hq j (by omega)
      have hv : (q j).2[0]? = some ((q j).2[0]'(by omega)) := List.getElem?_eq_getElem (by omega)
      have hc0 := h2 0 _ hv
      have h0 : spot = none := by
        obtain ⟨g1, g2, _⟩ := hq 0 (by omega)
        have hv0 : (q 0).2[0]? = some ((q 0).2[0]'(by omega)) := List.getElem?_eq_getElem (by omega)
        have := World.cell?_spot (g2 0 _ hv0)
        simpa [Addr.add] using this
      subst h0
      rw [add_plain] at hc0
      refine ⟨b, off, (q j).2, rfl, World.block_lt_of_cell? _ _ hc0, h1, fun i v hv => ?_, by rw [hy']; exact h3⟩
      have := h2 i v hv
      rw [add_plain, ← Nat.add_assoc] at this
      exact this

theorem open_st {α : Type} [Inhabited α] {R : World → List Value → α → Prop} {r : Reach} {b0 : Nat} {t e : TypeId} {fs : Array Field} {v : Value} {d : DataW H} {ps : List MemPlace} (ht : P.underlying t = some (.slice e)) (he : P.underlying e = some (.struct fs))
    (hone : oneCellFields P fs = true) (hC : P.cellsOf e = fs.size) (hs0 : 0 < fs.size) (hR : ReadsSt enc P W fs R)
    (hval : Value.okWide P W r b0 t v) (h : DataW.Trod enc P W 0 (fun _ => true) true t v d ps) : ∃ A m c xs, v = .slice A m c ∧ StAt fs.size R W A m xs := by
  obtain ⟨A, m, c, rfl⟩ := okWide_slice ht hval
  obtain ⟨n, hn⟩ := h
  obtain ⟨A', m', c', xs, e, hs⟩ := stAt_of_cells ht he hone hC hs0 hR (u := .slice A m c) (by simpa [Value.cells] using hn)
  cases e
  exact ⟨A, m, c, xs, rfl, hs⟩
end
end Go.Proofs.YtcmlmjbpdaecbaaGreat
end
section
namespace Go.Proofs.YtcmlmjbpdaecbaaGreat
open Go.RowKit
set_option linter.unusedVariables false

/-- the elements us read, in w, as xs -/
def Elems {α : Type} (R : World → Value → α → Prop) (w : World) (us : List Value) (xs : List α) : Prop := us.length = xs.length ∧ ∀ (k : Nat) (x : α) (u : Value), xs[k]? = some x → us[k]? = some u → R w u x
theorem Elems.nil_ {α : Type} {R : World → Value → α → Prop} {w : World} : Elems R w [] [] := ⟨rfl, fun k x u hx => by simp at hx⟩
theorem Elems.snoc {α : Type} {R : World → Value → α → Prop} {w : World} {us : List Value} {xs : List α} {u : Value} {x : α} (h : Elems R w us xs) (hr : R w u x) : Elems R w (us ++ [u]) (xs ++ [x]) := by
  refine ⟨by simp [h.1], fun k y v hy hv => ?_⟩
  by_cases hk : k < xs.length
  · rw [List.getElem?_append_left hk] at hy
    rw [List.getElem?_append_left (by rw [h.1]; exact hk)] at hv
    exact h.2 k y v hy hv
  · rw [List.getElem?_append_right (by omega)] at hy
    rw [List.getElem?_append_right (by rw [h.1]; omega)] at hv
    rw [h.1] at hv
    have : k - xs.length = 0 := by
      have := (List.getElem?_eq_some_iff.1 hy).1
      simp at this; omega
    rw [this] at hy hv
    simp at hy hv
    rw [← hy, ← hv]; exact hr
theorem Elems.map_ {α : Type} {R R' : World → Value → α → Prop} {w w' : World} {us : List Value} {xs : List α} (h : Elems R w us xs) (hR : ∀ u x, R w u x → R' w' u x) : Elems R' w' us xs :=
  ⟨h.1, fun k x u hx hu => hR _ _ (h.2 k x u hx hu)⟩
theorem OwnAt.slElems {α : Type} {R : World → Value → α → Prop} {w0 w : World} {e : TypeId} {A : Option Addr} {n c : Nat} {us : List Value} {xs : List α} (h : OwnAt w e 1 (.slice A n c) n us) (hM : MonoR R) (hb : Below w0.heap.size w0 w) (he : Elems R w0 us xs) : SlAt R w A n xs :=
  h.slAt he.1.symm fun k x u hx hu => hM _ _ _ _ hb (he.2 k x u hx hu)
theorem below_append_src {w0 w w' : World} {B : Nat} {v v' : Value} (hb : Below B w0 w) (hB : B ≤ w.heap.size) (hv : ∀ g, v.ownBlock = some g → B ≤ g) (hg : w.grownBy w' v.ownBlock)
    (hat : v'.ownBlock = v.ownBlock ∨ v'.ownBlock = some w.heap.size) : Below B w0 w' ∧ ∀ g, v'.ownBlock = some g → B ≤ g := by
  refine ⟨hb.grown hg hB hv, fun g hgv => ?_⟩
  rcases hat with h | h
  · exact hv g (by rw [← h]; exact hgv)
  · rw [h] at hgv; cases hgv; exact hB
theorem below_append {w0 w w' : World} {B : Nat} {v v' : Value} {o : Obj} (hb : Below B w0 w) (hB : B ≤ w.heap.size) (hv : ∀ g, v.ownBlock = some g → B ≤ g) (hg : (w.alloc o).grownBy w' v.ownBlock)
    (hat : v'.ownBlock = v.ownBlock ∨ v'.ownBlock = some (w.heap.size + 1)) : Below B w0 w' ∧ ∀ g, v'.ownBlock = some g → B ≤ g := by
  refine ⟨(hb.alloc hB o).grown hg (by simp; omega) hv, fun g hgv => ?_⟩
  rcases hat with h | h
  · exact hv g (by rw [← h]; exact hgv)
  · rw [h] at hgv; cases hgv; omega
theorem ownAt_ne {w : World} {e e' : TypeId} {s s' : Nat} {v v' : Value} {n n' : Nat} {xs xs' : List Value} (h : OwnAt w e s v n xs) (h' : OwnAt w e' s' v' n' xs') (hne : e ≠ e') : v.ownBlock = none ∨ v.ownBlock ≠ v'.ownBlock := by
  rcases h.2 with ⟨rfl, _⟩ | ⟨g, off, cap, cur, rfl, hg, _⟩
  · exact .inl rfl
  · rcases h'.2 with ⟨rfl, _⟩ | ⟨g', off', cap', cur', rfl, hg', _⟩
    · exact .inr (by simp [Value.ownBlock])
    · refine .inr fun he => ?_
      have : g = g' := by simpa [Value.ownBlock] using he
      subst this
      rw [hg] at hg'
      injection hg' with hg'
      injection hg' with _ h2 _
      exact hne h2

/-- 'append(out, u)' of one element of one cell; the place of the new block as the walk spells it. -/
theorem wpList_append_one' {P : Program} {w : World} {ops : Array Oper} {rest : List Oper} {o : Oper} {a : Act} {Q : Exit → Act → World → Prop} (hgd : o.guard = none) (sx x : Operand) (t : TypeId)
    (ho : o.op = .call { callee := .builtin .append, args := #[sx, x], argTypes := #[t, t] })
    (e : TypeId) (z : Value) (bytes : Nat) (ht : P.underlying t = some (.slice e)) (hinfo : (P.info? e).map (fun i => (i.zero, i.size, i.bytes)) = some (some z, 1, bytes)) (hzs : z.cells.size = 1)
    (v : Value) (n : Nat) (xs : List Value) (hs : a.eval sx = v) (hown : OwnAt w e 1 v n xs) (u : Value) (h1 : u.oneCell' = true) (E : TypeId) (p : Nat) (hp : p = w.heap.size)
    (hx : a.eval x = .slice (some ⟨p, 0, none⟩) 1 1) (hn : n ≤ 1000000000) (hb : bytes ≤ 64)
    (h : ∀ v' w', OwnAt w' e 1 v' (n + 1) (xs ++ [u]) → (w.alloc (.cells #[u] E)).grownBy w' v.ownBlock → (v'.ownBlock = v.ownBlock ∨ v'.ownBlock = some (w.heap.size + 1)) → wpList P ops Q rest (a.put o.dst v') w') :
    wpList P ops Q (o :: rest) a (w.alloc (.cells #[u] E)) := by
  subst hp
  exact wpList_append_one w hgd sx x t ho e z bytes ht hinfo hzs v n xs hs hown u h1 E hx hn hb h

theorem infoU32 : (Tryz.prog.info? 61).map (fun i => (i.zero, i.size, i.bytes)) = some (some (.int .u32 0), 1, 4) := by kernel_rfl
theorem infoInt : (Tryz.prog.info? 3).map (fun i => (i.zero, i.size, i.bytes)) = some (some (.int .i64 0), 1, 8) := by kernel_rfl
/-- the numbers of inputs and the widths that are right -/
theorem kw_cases {k w : Nat} (hk : k = 1 ∨ k = 2) (hw : w = 1 ∨ w = 2 ∨ w = 3) : (k = 1 ∧ w = 1) ∨ (k = 1 ∧ w = 2) ∨ (k = 1 ∧ w = 3) ∨ (k = 2 ∧ w = 1) ∨ (k = 2 ∧ w = 2) ∨ (k = 2 ∧ w = 3) := by omega

/-- what '1 << (k * w)' comes to -/
theorem size_facts {k w : Nat} (hk : k = 1 ∨ k = 2) (hw : w = 1 ∨ w = 2 ∨ w = 3) : 0 ≤ (k : Int) * (w : Int) ∧ (k : Int) * (w : Int) ≤ 6 ∧ wrap64 (2 ^ (k * w)) = ((K.size k w : Nat) : Int) ∧ K.size k w ≤ 64 := by
  rcases kw_cases hk hw with ⟨rfl, rfl⟩ | ⟨rfl, rfl⟩ | ⟨rfl, rfl⟩ | ⟨rfl, rfl⟩ | ⟨rfl, rfl⟩ | ⟨rfl, rfl⟩
  all_goals exact ⟨by decide, by decide, by rw [B.wrap64_id (by decide) (by decide)]; rfl, by decide⟩

theorem isW_word {w : Nat} (hw : w = 1 ∨ w = 2 ∨ w = 3) (x : Int) : B.isW w x = decide (x < B.pw w) := by
  unfold B.isW; rw [B.isWd_iff.2 (by omega)]; rfl

end Go.Proofs.YtcmlmjbpdaecbaaGreat
end
section
namespace Go.Proofs.YtcmlmjbpdaecbaaGreat
open Go.RowKit
set_option linter.unusedVariables false

/-- a row of words that the call itself has made -/
def RowU (w : World) (u : Value) (x : List Int) : Prop := OwnAt w 61 1 u x.length (x.map (Value.int .u32))
theorem RowU.slR {w : World} {u : Value} {x : List Int} (h : RowU w u x) : SlR (IntR .u32) w u x := by
  have h' : OwnAt w 61 1 u x.length (x.map (Value.int .u32)) := h
  obtain ⟨A, c, rfl⟩ := h'.form
  exact ⟨A, c, rfl, h'.slInts⟩
theorem RowU.elems {w : World} {us : List Value} {xs : List (List Int)} (h : Elems RowU w us xs) : Elems (SlR (IntR .u32)) w us xs := h.map_ fun u x hu => RowU.slR hu
theorem RowU.kept {w w' : World} {u : Value} {x : List Int} {e : TypeId} {v : Value} {n : Nat} {vs : List Value} (h : RowU w u x) (hown : OwnAt w e 1 v n vs) (hne : 61 ≠ e) (o : Obj) (hg : (w.alloc o).grownBy w' v.ownBlock) : RowU w' u x :=
  OwnAt.kept (OwnAt.alloc h o) hg (ownAt_ne h hown hne)
theorem RowU.alloc {w : World} {u : Value} {x : List Int} (h : RowU w u x) (o : Obj) : RowU (w.alloc o) u x := OwnAt.alloc h o

theorem pow_facts {w : Nat} (hw : w = 1 ∨ w = 2 ∨ w = 3) : wrap64 (2 ^ w) = ((2 ^ w : Nat) : Int) ∧ 2 ^ w ≤ 8 ∧ 0 < 2 ^ w := by
  rcases hw with rfl | rfl | rfl
  all_goals exact ⟨by rw [B.wrap64_id (by decide) (by decide)]; rfl, by decide, by decide⟩

theorem inputs1 (w : Nat) : K.inputs 1 w = (List.range (2 ^ w)).map fun a : Nat => [(a : Int)] := by
  unfold K.inputs K.size K.inp; simp

/-- the inputs of two words, row by row -/
def inps (N i j : Nat) : List (List Int) := ((List.range i).flatMap fun a : Nat => (List.range N).map fun b : Nat => [(a : Int), (b : Int)]) ++ (List.range j).map fun b : Nat => [(i : Int), (b : Int)]
theorem inps_next (N i : Nat) : inps N i N = inps N (i + 1) 0 := by
  unfold inps
  rw [List.range_succ, List.flatMap_append]
  simp
theorem inps_succ (N i j : Nat) : inps N i (j + 1) = inps N i j ++ [[(i : Int), (j : Int)]] := by
  unfold inps
  rw [List.range_succ, List.map_append, List.append_assoc]
  simp
theorem inps_len (N i j : Nat) : (inps N i j).length = i * N + j := by
  unfold inps
  simp only [List.length_append, List.length_flatMap, List.length_map, List.length_range]
  congr 1
  induction i with
  | zero => simp
  | succ i ih => rw [List.range_succ, List.map_append, List.sum_append, ih, Nat.succ_mul]; simp
theorem inputs2 (w : Nat) : K.inputs 2 w = inps (2 ^ w) (2 ^ w) 0 := by
  apply List.ext_getElem?
  intro i
  have hl : (inps (2 ^ w) (2 ^ w) 0).length = K.size 2 w := by rw [inps_len]; unfold K.size; rw [Nat.two_mul, Nat.pow_add]; omega
  by_cases hi : i < K.size 2 w
  · rw [K.inputs_at hi]
    have hp : 0 < 2 ^ w := Nat.two_pow_pos w
    have key : ∀ q r : Nat, q < 2 ^ w → r < 2 ^ w → (inps (2 ^ w) (2 ^ w) 0)[q * 2 ^ w + r]? = some [(q : Int), (r : Int)] := by
      intro q r hq hr
      have e : ∀ m, q + 1 ≤ m → ∃ l, inps (2 ^ w) m 0 = inps (2 ^ w) q (r + 1) ++ l := by
        have e1 : ∀ d, ∃ l, inps (2 ^ w) q (r + 1 + d) = inps (2 ^ w) q (r + 1) ++ l := by
          intro d
          induction d with
          | zero => exact ⟨[], by simp⟩
          | succ d ih =>
            obtain ⟨l, hl⟩ := ih
            exact ⟨l ++ [[(q : Int), ((r + 1 + d : Nat) : Int)]], by rw [← Nat.add_assoc, inps_succ, hl, List.append_assoc]⟩
        have e2 : ∃ l, inps (2 ^ w) (q + 1) 0 = inps (2 ^ w) q (r + 1) ++ l := by
          rw [← inps_next]
          obtain ⟨l, hl⟩ := e1 (2 ^ w - (r + 1))
          rw [show r + 1 + (2 ^ w - (r + 1)) = 2 ^ w by omega] at hl
          exact ⟨l, hl⟩
        intro m hm
        obtain ⟨d, rfl⟩ : ∃ d, m = q + 1 + d := ⟨m - (q + 1), by omega⟩
        clear hm
        induction d with
        | zero => exact e2
        | succ d ih =>
          obtain ⟨l, hl⟩ := ih
          refine ⟨l ++ (List.range (2 ^ w)).map fun b : Nat => [((q + 1 + d : Nat) : Int), (b : Int)], ?_⟩
          rw [← Nat.add_assoc, ← inps_next, ← List.append_assoc, ← hl]
          unfold inps
          simp
      obtain ⟨l, hl'⟩ := e (2 ^ w) (by omega)
      have hlen := inps_len (2 ^ w) q r
      rw [hl', List.getElem?_append_left (by rw [inps_succ, List.length_append, hlen]; simp), inps_succ, List.getElem?_append_right (by omega), hlen]
      simp
    have hs : K.size 2 w = 2 ^ w * 2 ^ w := by unfold K.size; rw [Nat.two_mul, Nat.pow_add]
    have hq : i / 2 ^ w < 2 ^ w := by rw [Nat.div_lt_iff_lt_mul hp]; omega
    have hr : i % 2 ^ w < 2 ^ w := Nat.mod_lt _ hp
    have := key _ _ hq hr
    rw [show i / 2 ^ w * 2 ^ w + i % 2 ^ w = i by rw [Nat.mul_comm]; exact Nat.div_add_mod i _] at this
    rw [this]
    rfl
  · rw [List.getElem?_eq_none (by rw [K.inputs_len]; omega), List.getElem?_eq_none (by omega)]

end Go.Proofs.YtcmlmjbpdaecbaaGreat
end
section
namespace Go.Proofs.YtcmlmjbpdaecbaaGreat
open Go.RowKit
set_option linter.unusedVariables false

theorem flatMap_at {α β : Type} {f : α → List β} {m : Nat} (hm : ∀ x, (f x).length = m) : ∀ (l : List α) (i j : Nat), j < m → (l.flatMap f)[i * m + j]? = (l[i]?).bind fun x => (f x)[j]?
  | [], i, j, _ => by simp
  | x :: l, 0, j, h => by
    rw [List.flatMap_cons, Nat.zero_mul, Nat.zero_add, List.getElem?_append_left (by rw [hm]; exact h)]; rfl
  | x :: l, i + 1, j, h => by
    rw [List.flatMap_cons, List.getElem?_append_right (by rw [hm, Nat.succ_mul]; omega), hm, show (i + 1) * m + j - m = i * m + j by rw [Nat.succ_mul]; omega, flatMap_at hm l i j h]
    simp
theorem flatMap_len {α β : Type} {f : α → List β} {m : Nat} (hm : ∀ x, (f x).length = m) : ∀ (l : List α), (l.flatMap f).length = l.length * m
  | [] => by simp
  | x :: l => by rw [List.flatMap_cons, List.length_append, hm, flatMap_len hm l, List.length_cons, Nat.succ_mul]; omega

theorem steps_at {k p oi a b : Nat} {o : Int} (ho : K.ops[oi]? = some o) (ha : a < k + 2 + p) (hb : b < k + 2 + p) : (K.steps k p)[oi * ((k + 2 + p) * (k + 2 + p)) + (a * (k + 2 + p) + b)]? = some (o, (a : Int), (b : Int)) := by
  unfold K.steps
  have h1 : ∀ (o : Int) (a : Nat), ((List.range (k + 2 + p)).map fun b : Nat => ((o, (a : Int), (b : Int)) : K.Stp)).length = k + 2 + p := by intro o a; simp
  have h2 : ∀ o : Int, ((List.range (k + 2 + p)).flatMap fun a : Nat => (List.range (k + 2 + p)).map fun b : Nat => ((o, (a : Int), (b : Int)) : K.Stp)).length = (k + 2 + p) * (k + 2 + p) := by
    intro o
    rw [flatMap_len (h1 o)]; simp
  have hlt : a * (k + 2 + p) + b < (k + 2 + p) * (k + 2 + p) := by
    have : (a + 1) * (k + 2 + p) ≤ (k + 2 + p) * (k + 2 + p) := Nat.mul_le_mul_right _ ha
    rw [Nat.succ_mul] at this
    omega
  rw [flatMap_at h2 K.ops oi _ hlt, ho, Option.bind_some, flatMap_at (h1 o) _ a b hb, List.getElem?_range ha, Option.bind_some, List.getElem?_map, List.getElem?_range hb]
  rfl
theorem steps_length (k p : Nat) : (K.steps k p).length = 7 * ((k + 2 + p) * (k + 2 + p)) := by
  unfold K.steps
  rw [flatMap_len (m := (k + 2 + p) * (k + 2 + p))]
  · rfl
  · intro o
    rw [flatMap_len (m := k + 2 + p)]
    · simp
    · intro a; simp

/-- the cells of a step, of steps -/
def cellsS (s : K.Stp) : List Value := [.int .i64 s.1, .int .i64 s.2.1, .int .i64 s.2.2]
def flatS (l : List K.Stp) : List Value := l.flatMap cellsS
theorem flatS_len (l : List K.Stp) : (flatS l).length = l.length * 3 := flatMap_len (m := 3) (fun _ => rfl) l
theorem flatS_snoc (l : List K.Stp) (s : K.Stp) : flatS (l ++ [s]) = flatS l ++ cellsS s := by unfold flatS; rw [List.flatMap_append]; simp
theorem flatS_at (l : List K.Stp) {k : Nat} {s : K.Stp} (h : l[k]? = some s) : ((flatS l).drop (k * 3)).take 3 = cellsS s := by
  apply List.ext_getElem?
  intro j
  rw [List.getElem?_take]
  split
  · rename_i hj
    rw [List.getElem?_drop, flatS, flatMap_at (m := 3) (fun _ => rfl) l k j hj, h]; rfl
  · rename_i hj
    rw [List.getElem?_eq_none (by show 3 ≤ j; omega)]
def StepR (_ : World) (us : List Value) (s : K.Stp) : Prop := us = cellsS s
theorem monoStep : MonoL StepR := fun _ _ _ _ _ h => h
/-- a slice of steps -/
def SlS (w : World) (u : Value) (x : List K.Stp) : Prop := ∃ A c, u = .slice A x.length c ∧ StAt 3 StepR w A x.length x
theorem monoSlS : MonoR SlS := by
  rintro w w' u xs hb ⟨A, c, rfl, h⟩
  exact ⟨A, c, rfl, h.below monoStep hb⟩
/-- 'append(out, u)' of one element of several cells. -/
theorem wpList_append_cells {P : Program} {w : World} {ops : Array Oper} {rest : List Oper} {o : Oper} {a : Act} {Q : Exit → Act → World → Prop} (hgd : o.guard = none) (sx x : Operand) (t : TypeId)
    (ho : o.op = .call { callee := .builtin .append, args := #[sx, x], argTypes := #[t, t] })
    (e : TypeId) (z : Value) (s bytes : Nat) (ht : P.underlying t = some (.slice e)) (hinfo : (P.info? e).map (fun i => (i.zero, i.size, i.bytes)) = some (some z, s, bytes)) (hzs : z.cells.size = s)
    (v : Value) (n : Nat) (xs : List Value) (hs : a.eval sx = v) (hown : OwnAt w e s v n xs) (cs : Array Value) (hcs : cs.size = s) (h1 : ∀ u ∈ cs.toList, u.oneCell' = true) (E : TypeId) (p : Nat) (hp : p = w.heap.size)
    (hx : a.eval x = .slice (some ⟨p, 0, none⟩) 1 1) (hn : n ≤ 1000000000) (hb : bytes ≤ 64)
    (h : ∀ v' w', OwnAt w' e s v' (n + 1) (xs ++ cs.toList) → (w.alloc (.cells cs E)).grownBy w' v.ownBlock → (v'.ownBlock = v.ownBlock ∨ v'.ownBlock = some (w.heap.size + 1)) → wpList P ops Q rest (a.put o.dst v') w') :
    wpList P ops Q (o :: rest) a (w.alloc (.cells cs E)) := by
  subst hp
  obtain ⟨i, hi, hz, hsz, hby⟩ := info_parts hinfo
  have hmul : (n + 1) * bytes ≤ (n + 1) * 64 := Nat.mul_le_mul_left _ hb
  refine wpList_append_at _ hgd sx x t ho e i z s bytes ht hi hz hsz hby hzs v n xs hs (hown.alloc _) _ 1 1 cs.toList hx (by simpa using hcs) (fun j u hu => ?_) h1 (by simp only [maxLen]; omega) (by omega) ?_
  · rw [addr_add_zero, Nat.zero_add, cell_of_row _ _ _ cs E (0, 0) (heap_alloc_new w _)]
    simpa using hu
  · intro v' w' h2 h3 h4
    exact h v' w' h2 h3 (by simpa using h4)

end Go.Proofs.YtcmlmjbpdaecbaaGreat
end
section
namespace Go.Proofs.YtcmlmjbpdaecbaaGreat
open Go.RowKit
set_option linter.unusedVariables false

/-- a slice of no elements and no capacity -/
theorem own_zero {w : World} {e : TypeId} {s g : Nat} {cur : Array Value} (h : w.heap[g]? = some (.cells cur e (0, 0))) : OwnAt w e s (.slice (some ⟨g, 0, none⟩) 0 0) 0 [] :=
  ⟨by simp, .inr ⟨g, 0, 0, cur, rfl, h, Nat.le_refl _, Nat.zero_le _, by simp, fun j u hu => by simp at hu⟩⟩
/-- a step, in whatever world in which its cells lie -/
theorem news_step {w : World} {p : Nat} {s : K.Stp} {T : TypeId} (h : w.heap[p]? = some (.cells #[.int .i64 s.1, .int .i64 s.2.1, .int .i64 s.2.2] T (0, 0))) :
    ∀ (j : Nat) (u : Value), (cellsS s)[j]? = some u → ∃ ad : Addr, some (⟨p, 0, none⟩ : Addr) = some ad ∧ w.cell? (ad.add j) = some u := fun j u hu => ⟨_, rfl, by
  rw [addr_add_zero, Nat.zero_add, cell_of_row _ _ _ _ T (0, 0) h]
  simpa [cellsS] using hu⟩
theorem news_one {w : World} {p : Nat} {v : Value} {T : TypeId} (h : w.heap[p]? = some (.cells #[v] T (0, 0))) :
    ∀ (j : Nat) (u : Value), ([v] : List Value)[j]? = some u → ∃ ad : Addr, some (⟨p, 0, none⟩ : Addr) = some ad ∧ w.cell? (ad.add j) = some u := fun j u hu => ⟨_, rfl, by
  rw [addr_add_zero, Nat.zero_add, cell_of_row _ _ _ _ T (0, 0) h]
  simpa using hu⟩
theorem one_step (s : K.Stp) : ∀ u ∈ cellsS s, u.oneCell' = true := by simp [cellsS, Value.oneCell']
theorem one_flat (l : List K.Stp) : ∀ u ∈ flatS l, u.oneCell' = true := by
  intro u hu
  unfold flatS at hu
  obtain ⟨s, _, hs⟩ := List.mem_flatMap.1 hu
  exact one_step s u hs
theorem src_below {w w' : World} {A : Option Addr} {us : List Value} (h : ∀ (j : Nat) (u : Value), us[j]? = some u → ∃ ad : Addr, A = some ad ∧ w.cell? (ad.add j) = some u) (hb : Below w.heap.size w w') :
    ∀ (j : Nat) (u : Value), us[j]? = some u → ∃ ad : Addr, A = some ad ∧ w'.cell? (ad.add j) = some u := fun j u hu => by
  obtain ⟨ad, h1, h2⟩ := h j u hu
  exact ⟨ad, h1, (hb.cell (World.block_lt_of_cell? _ _ h2)).trans h2⟩
theorem own_src {w : World} {e : TypeId} {s n : Nat} {A : Option Addr} {c : Nat} {us : List Value} (h : OwnAt w e s (.slice A n c) n us) :
    ∀ (j : Nat) (u : Value), us[j]? = some u → ∃ ad : Addr, A = some ad ∧ w.cell? (ad.add j) = some u := fun j u hu => by
  rcases h.2 with ⟨h1, h2⟩ | ⟨g, off, cap, cur, h1, hg, _, _, _, hcur⟩
  · have := h.1
    subst h2
    have : us = [] := List.eq_nil_of_length_eq_zero (by omega)
    subst this; simp at hu
  · injection h1 with h1 _ _
    exact ⟨_, h1, by rw [addr_add_zero, cell_of_row w g _ cur e (0, 0) hg]; exact hcur _ _ hu⟩
theorem own_ge {B p n c : Nat} (h : B ≤ p) : ∀ g, (Value.slice (some ⟨p, 0, none⟩) n c).ownBlock = some g → B ≤ g := fun g hg => by
  simp [Value.ownBlock] at hg; omega
theorem own_other {p g n c : Nat} (h : g ≠ p) : some g ≠ (Value.slice (some ⟨p, 0, none⟩) n c).ownBlock := fun hg => by
  simp [Value.ownBlock] at hg; exact h hg
theorem OwnAt.at1 {w : World} {e : TypeId} {A : Option Addr} {n c : Nat} {vs : List Value} (h : OwnAt w e 1 (.slice A n c) n vs) {k : Nat} (hk : k < n) : ∃ b off u, A = some ⟨b, off, none⟩ ∧ b < w.heap.size ∧ w.cell? ⟨b, off + k, none⟩ = some u ∧ vs[k]? = some u := by
  have hs : SlAt (fun (_ : World) (u x : Value) => u = x) w A n vs := h.slAt rfl fun k x u h1 h2 => by rw [h1] at h2; exact (Option.some.inj h2).symm
  obtain ⟨x, b, off, u, h1, h2, h3, h4, h5⟩ := hs.at_ hk
  subst h5
  exact ⟨b, off, u, h2, h3, h4, h1⟩
theorem rows_at {k q a b : Nat} {row : List K.Stp} {s : K.Stp} (h1 : (K.rows k q)[a]? = some row) (h2 : (K.steps k q)[b]? = some s) : (K.rows k (q + 1))[a * (K.steps k q).length + b]? = some (row ++ [s]) := by
  have hb : b < (K.steps k q).length := (List.getElem?_eq_some_iff.1 h2).1
  show ((K.rows k q).flatMap fun r => (K.steps k q).map fun s => r ++ [s])[_]? = _
  rw [flatMap_at (m := (K.steps k q).length) (fun r => by simp) _ a b hb, h1, Option.bind_some, List.getElem?_map, h2]
  rfl
theorem le64 : 24 ≤ 64 := by decide
theorem pos1 : 0 < 1 := by decide
theorem one_slice (A : Option Addr) (n c : Nat) : ∀ u ∈ [Value.slice A n c], u.oneCell' = true := by simp [Value.oneCell']
theorem pos3 : 0 < 3 := by decide
/-- what an append to a slice of the call's own block g leaves of the worlds before -/
theorem below_own {w0 w w' : World} {v : Value} (hb : Below w0.heap.size w0 w) (hv : ∀ g, v.ownBlock = some g → w0.heap.size ≤ g) (hg : w.grownBy w' v.ownBlock) : Below w0.heap.size w0 w' := hb.grown hg hb.size hv

end Go.Proofs.YtcmlmjbpdaecbaaGreat
end
section
namespace Go.Proofs.YtcmlmjbpdaecbaaGreat
open Go.RowKit
set_option linter.unusedVariables false

theorem quiet_dr {P : Program} {f : FuncId} {args : Array Value} {w : World} {n : Nat} {v : Value}
    (h : Calls P f args (w.drewN n) fun e w' => e = .returned v ∧ Dr (w.drewN n) w') : Calls P f args (w.drewN n) fun e w'' => e = .returned v ∧ ∃ m, w'' = w.drewN m :=
  h.mono fun _ _ ⟨he, m, hm⟩ => ⟨he, n + m, by rw [hm, World.drewN_drewN]⟩
theorem le64' : 4 ≤ 64 := by decide
theorem one_ints {q : IntKind} (l : List Int) : ∀ u ∈ l.map (Value.int q), u.oneCell' = true := by
  intro u hu
  obtain ⟨x, _, rfl⟩ := List.mem_map.1 hu
  rfl
theorem src_slAt {q : IntKind} {w : World} {A : Option Addr} {n : Nat} {xs : List Int} (h : SlAt (IntR q) w A n xs) : ∀ (j : Nat) (u : Value), (xs.map (Value.int q))[j]? = some u → ∃ ad : Addr, A = some ad ∧ w.cell? (ad.add j) = some u := fun j u hu => by
  rw [List.getElem?_map] at hu
  obtain ⟨x, hx, rfl⟩ := Option.map_eq_some_iff.1 hu
  obtain ⟨b, off, u, hA, _, hc, hr⟩ := h.2.2 j x hx
  subst hr
  exact ⟨⟨b, off, none⟩, hA, by rw [addr_add_zero]; exact hc⟩
theorem src_block {w : World} {p : Nat} {cs : Array Value} {T : TypeId} (h : w.heap[p]? = some (.cells cs T (0, 0))) :
    ∀ (j : Nat) (u : Value), cs.toList[j]? = some u → ∃ ad : Addr, some (⟨p, 0, none⟩ : Addr) = some ad ∧ w.cell? (ad.add j) = some u := fun j u hu => ⟨_, rfl, by
  rw [addr_add_zero, Nat.zero_add, cell_of_row _ _ _ _ T (0, 0) h]
  simpa using hu⟩
/-- an element of a list of words, by a number -/
theorem getD_cell {q : IntKind} {w : World} {e : TypeId} {A : Option Addr} {n c : Nat} {xs : List Int} (h : OwnAt w e 1 (.slice A n c) n (xs.map (Value.int q))) {i : Nat} (hi : i < n) :
    ∃ b off, A = some ⟨b, off, none⟩ ∧ w.cell? ⟨b, off + i, none⟩ = some (.int q (xs.getD i 0)) := by
  obtain ⟨b, off, u, hA, _, hc, hv⟩ := h.at1 hi
  rw [List.getElem?_map] at hv
  obtain ⟨x, hx, rfl⟩ := Option.map_eq_some_iff.1 hv
  exact ⟨b, off, hA, by rw [List.getD_eq_getElem?_getD, hx]; exact hc⟩

end Go.Proofs.YtcmlmjbpdaecbaaGreat
end
section
namespace Go.Proofs.YtcmlmjbpdaecbaaGreat
open Go.RowKit
set_option linter.unusedVariables false

namespace K
/-- no row of a list has the meaning -/
def None_ (k w : Nat) (t : List Int) (l : List (List Stp)) : Prop := ∀ r ∈ l, meaning k w r ≠ t
theorem upTo_succ (k q : Nat) : upTo k (q + 1) = upTo k q ++ rows k q := by unfold upTo; rw [List.range_succ, List.flatMap_append]; simp
theorem upTo_pre (k q d : Nat) : ∃ l, upTo k (q + d) = upTo k q ++ l := by
  induction d with
  | zero => exact ⟨[], by simp⟩
  | succ d ih => obtain ⟨l, hl⟩ := ih; exact ⟨l ++ rows k (q + d), by rw [← Nat.add_assoc, upTo_succ, hl, List.append_assoc]⟩
theorem find_none {k w : Nat} {t : List Int} {l : List (List Stp)} (h : None_ k w t l) : (l.find? fun r => decide (meaning k w r = t)) = none := by
  rw [List.find?_eq_none]
  intro r hr
  simpa using h r hr
theorem first_none {k w : Nat} {t : List Int} {most : Nat} (h : None_ k w t (upTo k most)) : first k w t most = none := find_none h
theorem first_some {k w : Nat} {t : List Int} {most q i : Nat} {row : List Stp} (h : None_ k w t (upTo k q)) (h2 : None_ k w t ((rows k q).take i)) (hr : (rows k q)[i]? = some row) (hm : meaning k w row = t) (hq : q < most) : first k w t most = some row := by
  obtain ⟨l, hl⟩ := upTo_pre k (q + 1) (most - (q + 1))
  rw [show q + 1 + (most - (q + 1)) = most by omega] at hl
  unfold first
  have e : rows k q = (rows k q).take i ++ (row :: (rows k q).drop (i + 1)) := by
    have hi : i < (rows k q).length := (List.getElem?_eq_some_iff.1 hr).1
    have hd := List.drop_eq_getElem_cons hi
    rw [(List.getElem?_eq_some_iff.1 hr).2] at hd
    rw [← hd, List.take_append_drop]
  have e2 : (rows k q).find? (fun r => decide (meaning k w r = t)) = some row := by
    rw [e, List.find?_append, find_none h2, Option.none_or, List.find?_cons, decide_eq_true hm]
  rw [hl, upTo_succ, List.append_assoc, List.find?_append, find_none h, Option.none_or, List.find?_append, e2]
  rfl
theorem None_.take_succ {k w : Nat} {t : List Int} {l : List (List Stp)} {i : Nat} {row : List Stp} (h : None_ k w t (l.take i)) (hr : l[i]? = some row) (hm : meaning k w row ≠ t) : None_ k w t (l.take (i + 1)) := by
  intro r hr'
  rw [take_succ_at hr] at hr'
  rcases List.mem_append.1 hr' with h' | h'
  · exact h r h'
  · rw [List.mem_singleton.1 h']; exact hm
theorem None_.up {k w : Nat} {t : List Int} {q : Nat} (h : None_ k w t (upTo k q)) (h2 : None_ k w t (rows k q)) : None_ k w t (upTo k (q + 1)) := by
  intro r hr
  rw [upTo_succ] at hr
  rcases List.mem_append.1 hr with h' | h'
  · exact h r h'
  · exact h2 r h'
theorem over_iff {k w : Int} : over k w = true ↔ 1 ≤ k ∧ k ≤ 2 ∧ 1 ≤ w ∧ w ≤ 3 := by unfold over; simp [and_assoc]
end K

/-- a row, whether there is one, and an error -/
def Res3 (w : World) (r : List K.Stp × Bool × Int) (e : Ending) (w' : World) : Prop := ∃ A c, e = .returned (.tuple #[.slice A r.1.length c, .bool r.2.1, .int .i64 r.2.2]) ∧ StAt 3 StepR w' A r.1.length r.1 ∧ Below w.heap.size w w'

end Go.Proofs.YtcmlmjbpdaecbaaGreat
end
