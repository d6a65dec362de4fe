/- Plain words for slices of structs: n elements of s cells each, read element by element; what comes in, opened. No program. -/
import Derived.Test.YtableoihgkmbjaaBase
import Derived.Test.YtableoihgkmbjaaOpen
import Derived.Deep.Fields
import Derived.ChangeSame
namespace Go.Proofs.Ytableoihgkmbjaa
open Go.ChangeShapes Go.WideShapes Go.ChangeAt Go.RowKit Go.Deep
set_option linter.unusedVariables false

/-- The slice at A of n elements of s cells each reads as the list xs, element by element by R. -/
def StAt {α : Type} (s : Nat) (R : World → List Value → α → Prop) (w : World) (A : Option Addr) (n : Nat) (xs : List α) : Prop :=
  xs.length = n ∧ n ≤ 9223372036854775807 ∧ ∀ k x, xs[k]? = some x → ∃ b off us, A = some ⟨b, off, none⟩ ∧ b < w.heap.size ∧ us.length = s ∧ (∀ j u, us[j]? = some u → w.cell? ⟨b, off + k * s + j, none⟩ = some u) ∧ R w us x

def MonoL {α : Type} (R : World → List Value → α → Prop) : Prop := ∀ w w' us x, Below w.heap.size w w' → R w us x → R w' us x

section
variable {α : Type} {s : Nat} {R : World → List Value → α → Prop} {w w' : World} {A : Option Addr} {n : Nat} {xs : List α}

theorem StAt.len (h : StAt s R w A n xs) : xs.length = n := h.1
theorem StAt.le (h : StAt s R w A n xs) : n ≤ 9223372036854775807 := h.2.1

theorem StAt.at_ (h : StAt s R w A n xs) {k : Nat} (hk : k < n) : ∃ x b off us, xs[k]? = some x ∧ A = some ⟨b, off, none⟩ ∧ b < w.heap.size ∧ us.length = s ∧ (∀ j u, us[j]? = some u → w.cell? ⟨b, off + k * s + j, none⟩ = some u) ∧ R w us x := by
  obtain ⟨h1, _, h2⟩ := h
  have hl : k < xs.length := by omega
  obtain ⟨b, off, us, r⟩ := h2 k xs[k] (List.getElem?_eq_getElem hl)
  exact ⟨_, b, off, us, List.getElem?_eq_getElem hl, r⟩

theorem StAt.below (hR : MonoL R) (h : StAt s R w A n xs) (hb : Below w.heap.size w w') : StAt s R w' A n xs := by
  refine ⟨h.1, h.2.1, fun k x hx => ?_⟩
  obtain ⟨b, off, us, hA, hlt, hs, hc, hr⟩ := h.2.2 k x hx
  exact ⟨b, off, us, hA, Nat.lt_of_lt_of_le hlt hb.size, hs, fun j u hu => (hb.cell (p := ⟨b, off + k * s + j, none⟩) hlt).trans (hc j u hu), hR _ _ _ _ hb hr⟩

theorem StAt.dr (hR : MonoL R) (h : StAt s R w A n xs) (hb : Dr w w') : StAt s R w' A n xs := h.below hR (hb.below _)

theorem StAt.nil_ (A : Option Addr) : StAt s R w A 0 ([] : List α) := ⟨rfl, by omega, fun k x h => by simp at h⟩

/-- A slice of the call's own, s cells an element, read. -/
theorem OwnAt.stAt {e : TypeId} {c : Nat} {vs : List Value} {ys : List α} (h : OwnAt w e s (.slice A n c) n vs) (hl : ys.length = n)
    (hR : ∀ (k : Nat) (x : α), ys[k]? = some x → R w ((vs.drop (k * s)).take s) x) : StAt s R w A n ys := by
  refine ⟨hl, h.le, fun k x hx => ?_⟩
  have hk : k < ys.length := (List.getElem?_eq_some_iff.1 hx).1
  rcases h.2 with ⟨h1, h2⟩ | ⟨g, off, cap, cur, h1, hg, _, _, _, hcur⟩
  · omega
  · injection h1 with h1 _ _
    have hvl := h.1
    have hks : k * s + s ≤ n * s := by rw [← Nat.succ_mul]; exact Nat.mul_le_mul_right _ (by omega)
    refine ⟨g, off, (vs.drop (k * s)).take s, h1, (Array.getElem?_eq_some_iff.1 hg).1, by rw [List.length_take, List.length_drop]; omega, fun j u hu => ?_, hR k x hx⟩
    rw [cell_of_row w g _ cur e (0, 0) hg, Nat.add_assoc]
    refine hcur _ _ ?_
    rw [List.getElem?_take] at hu
    split at hu
    · rw [List.getElem?_drop] at hu; exact hu
    · cases hu

/-- the cells of a slice of structs that reads as a list -/
theorem StAt.cells (h : StAt s R w A n xs) (hs0 : 0 < s) :
    ∃ us : List Value, us.length = n * s ∧ (∀ j u, us[j]? = some u → ∃ ad : Addr, A = some ad ∧ w.cell? (ad.add j) = some u) ∧ ∀ (k : Nat) (x : α), xs[k]? = some x → R w ((us.drop (k * s)).take s) x := by
  refine ⟨(List.range (n * s)).map fun k => (A.bind fun a => w.cell? (a.add k)).getD (.tuple #[]), by simp, fun j u hu => ?_, fun k x hx => ?_⟩
  · have hj : j < n * s := by have := (List.getElem?_eq_some_iff.1 hu).1; simpa using this
    have hjn : j / s < n := by rw [Nat.div_lt_iff_lt_mul hs0]; exact hj
    obtain ⟨x, b, off, us, _, rfl, _, hl, hc, _⟩ := h.at_ hjn
    have hm : j % s < us.length := by rw [hl]; exact Nat.mod_lt _ hs0
    have hcell := hc (j % s) us[j % s] (List.getElem?_eq_getElem hm)
    have hj' : off + j / s * s + j % s = off + j := by rw [Nat.add_assoc, Nat.mul_comm, Nat.div_add_mod]
    rw [hj'] at hcell
    refine ⟨⟨b, off, none⟩, rfl, ?_⟩
    rw [List.getElem?_map, List.getElem?_range hj] at hu
    simp only [Option.map_some, Option.bind_some, addr_add_zero, hcell, Option.getD_some, Option.some.injEq] at hu
    rw [addr_add_zero, hcell, hu]
  · have hk : k < n := by have := (List.getElem?_eq_some_iff.1 hx).1; have := h.1; omega
    obtain ⟨b, off, us, rfl, _, hl, hc, hr⟩ := h.2.2 k x hx
    have hks : k * s + s ≤ n * s := by rw [← Nat.succ_mul]; exact Nat.mul_le_mul_right _ (by omega)
    have e : (((List.range (n * s)).map fun k => ((some (⟨b, off, none⟩ : Addr)).bind fun a => w.cell? (a.add k)).getD (.tuple #[])).drop (k * s)).take s = us := by
      apply List.ext_getElem?
      intro j
      rw [List.getElem?_take]
      split
      · rename_i hj
        rw [List.getElem?_drop, List.getElem?_map, List.getElem?_range (by omega)]
        have hj' : j < us.length := by omega
        have hcell := hc j us[j] (List.getElem?_eq_getElem hj')
        rw [Nat.add_assoc] at hcell
        simp only [Option.map_some, Option.bind_some, addr_add_zero, hcell, Option.getD_some]
        exact (List.getElem?_eq_getElem hj').symm
      · rename_i hj
        rw [List.getElem?_eq_none (by omega)]
    rw [e]; exact hr
end

section
variable {H : Type} {enc : TypeId × Value → H} {P : Program} {W : World}

/-- 'the cells of a struct of fields fs read as an element'. -/
def ReadsSt {α : Type} (enc : TypeId × Value → H) (P : Program) (W : World) (fs : Array Field) (R : World → List Value → α → Prop) : Prop :=
  ∀ n (us : List Value), us.length = fs.size → (∀ (j : Nat) (f : Field), fs[j]? = some f → ∃ u y, us[j]? = some u ∧ DataW.trod enc P W 0 (fun _ => true) true n f.type [u] = some y) → ∃ a, R W us a

theorem stAt_of_cells {α : Type} [Inhabited α] {R : World → List Value → α → Prop} {t e : TypeId} {fs : Array Field} (ht : P.underlying t = some (.slice e)) (he : P.underlying e = some (.struct fs))
    (hone : oneCellFields P fs = true) (hC : P.cellsOf e = fs.size) (hs0 : 0 < fs.size) (hR : ReadsSt enc P W fs R) {n : Nat} {u : Value} {x : DataW H × List MemPlace}
    (h : DataW.trod enc P W 0 (fun _ => true) true n t [u] = some x) : ∃ A m c xs, u = .slice A m c ∧ StAt fs.size R W A m xs := by
  rcases open_slice ht h with ⟨e1, _⟩ | ⟨a, len, cap, m, k, D, Pl, e1, _, hl, hm, hmm, _, hV⟩
  · exact ⟨none, 0, 0, [], by simpa using e1, StAt.nil_ _⟩
  · simp at hmm
    subst hmm
    have each : ∀ i, i < m → ∃ q : α × List Value, q.2.length = fs.size ∧ (∀ j v, q.2[j]? = some v → W.cell? (a.add (i * fs.size + j)) = some v) ∧ R W q.2 q.1 := by
      intro i hi
      obtain ⟨cs', hc, ht'⟩ := hV i hi
      rw [hC] at hc
      obtain ⟨ys, n', hn', hy, hlen, hyl, hf⟩ := DataW.trod_struct he ht'
      obtain ⟨_, hcl, hat⟩ := World.cells?_some hc
      obtain ⟨y, hy'⟩ := hR n' cs' hcl (fun j f hj => by
        obtain ⟨ho, hk⟩ := hone_of hone j f hj
        have hjl : j < fs.size := (Array.getElem?_eq_some_iff.1 hj).1
        have h1 := hf j f hj
        rw [ho, hk] at h1
        have hone' : (cs'.drop j).take 1 = [cs'[j]'(by omega)] := by
          rw [List.drop_eq_getElem_cons (by omega)]
          rfl
        rw [hone'] at h1
        exact ⟨_, _, List.getElem?_eq_getElem (by omega), h1.trans (List.getElem?_eq_getElem (by omega))⟩)
      refine ⟨(y, cs'), hcl, fun j v hv => ?_, hy'⟩
      have hj : j < fs.size := by have := (List.getElem?_eq_some_iff.1 hv).1; simp at this; omega
      rw [← Go.Deep.add_add, hat j hj]
      exact hv
    obtain ⟨q, hq⟩ := choose_lt each
    refine ⟨some a, len, m, (List.range len).map fun i => (q i).1, by simpa using e1, by simp, ?_, fun j y hy => ?_⟩
    · simp only [maxLen] at hm; omega
    · have hj : j < len := by
        have := (List.getElem?_eq_some_iff.1 hy).1
        simpa using this
      have hy' : y = (q j).1 := by simpa [hj] using hy.symm
      obtain ⟨b, off, spot⟩ := a
      obtain ⟨h1, h2, h3⟩ := hq j (by omega)
      have hv : (q j).2[0]? = some ((q j).2[0]'(by omega)) := List.getElem?_eq_getElem (by omega)
      have hc0 := h2 0 _ hv
      have h0 : spot = none := by
        obtain ⟨g1, g2, _⟩ := hq 0 (by omega)
        have hv0 : (q 0).2[0]? = some ((q 0).2[0]'(by omega)) := List.getElem?_eq_getElem (by omega)
        have := World.cell?_spot (g2 0 _ hv0)
        simpa [Addr.add] using this
      subst h0
      rw [add_plain] at hc0
      refine ⟨b, off, (q j).2, rfl, World.block_lt_of_cell? _ _ hc0, h1, fun i v hv => ?_, by rw [hy']; exact h3⟩
      have := h2 i v hv
      rw [add_plain, ← Nat.add_assoc] at this
      exact this

theorem open_st {α : Type} [Inhabited α] {R : World → List Value → α → Prop} {r : Reach} {b0 : Nat} {t e : TypeId} {fs : Array Field} {v : Value} {d : DataW H} {ps : List MemPlace} (ht : P.underlying t = some (.slice e)) (he : P.underlying e = some (.struct fs))
    (hone : oneCellFields P fs = true) (hC : P.cellsOf e = fs.size) (hs0 : 0 < fs.size) (hR : ReadsSt enc P W fs R)
    (hval : Value.okWide P W r b0 t v) (h : DataW.Trod enc P W 0 (fun _ => true) true t v d ps) : ∃ A m c xs, v = .slice A m c ∧ StAt fs.size R W A m xs := by
  obtain ⟨A, m, c, rfl⟩ := okWide_slice ht hval
  obtain ⟨n, hn⟩ := h
  obtain ⟨A', m', c', xs, e, hs⟩ := stAt_of_cells ht he hone hC hs0 hR (u := .slice A m c) (by simpa [Value.cells] using hn)
  cases e
  exact ⟨A, m, c, xs, rfl, hs⟩
end
end Go.Proofs.Ytableoihgkmbjaa
