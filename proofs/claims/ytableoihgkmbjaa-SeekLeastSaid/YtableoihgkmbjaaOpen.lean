/- What comes in, opened: slices of numbers, of truth values, of slices; a law's row closed. No program. -/
import Derived.Test.YtableoihgkmbjaaBase
import Derived.WalkKit
import Derived.ProofKit
import Derived.OpenShut
import Derived.Deep.Slices
import Derived.Carry
namespace Go.Proofs.Ytableoihgkmbjaa
open Go.ChangeShapes Go.WideShapes Go.ChangeAt Go.RowKit Go.Deep
set_option linter.unusedVariables false

section
variable {H : Type} {enc : TypeId × Value → H} {P : Program} {W : World}

/-- 'one cell that reads at t is an element'. -/
def ReadsAs {α : Type} (enc : TypeId × Value → H) (P : Program) (W : World) (t : TypeId) (R : World → Value → α → Prop) : Prop :=
  ∀ n u x, DataW.trod enc P W 0 (fun _ => true) true n t [u] = some x → ∃ a, R W u a

theorem readsInt {t : TypeId} {q : IntKind} (ht : P.underlying t = some (.int q)) : ReadsAs enc P W t (IntR q) := by
  intro n u x h
  obtain ⟨m, e, _, _⟩ := DataW.trod_int ht h
  exact ⟨m, (List.cons.inj e).1⟩
theorem readsBool {t : TypeId} (ht : P.underlying t = some .bool) : ReadsAs enc P W t BoolR := by
  intro n u x h
  obtain ⟨m, e, _⟩ := DataW.trod_bool ht h
  exact ⟨m, (List.cons.inj e).1⟩

theorem slAt_of_cells {α : Type} [Inhabited α] {R : World → Value → α → Prop} {t e : TypeId} (ht : P.underlying t = some (.slice e)) (hc : P.cellsOf e = 1) (hR : ReadsAs enc P W e R) {n : Nat} {u : Value} {x : DataW H × List MemPlace}
    (h : DataW.trod enc P W 0 (fun _ => true) true n t [u] = some x) : ∃ A m c xs, u = .slice A m c ∧ SlAt R W A m xs := by
  rcases open_slice1 ht hc h with ⟨e1, _⟩ | ⟨a, len, cap, m, k, V, D, Pl, e1, _, hl, hm, hmm, _, hV⟩
  · exact ⟨none, 0, 0, [], by simpa using e1, SlAt.nil_ _⟩
  · simp at hmm
    subst hmm
    obtain ⟨X, hX⟩ := choose_lt (α := α) (p := fun i y => R W (V i) y) (n := m) (fun i hi => hR k (V i) _ (hV i hi).2)
    refine ⟨some a, len, m, (List.range len).map X, by simpa using e1, by simp, ?_, fun j y hy => ?_⟩
    · simp only [maxLen] at hm; omega
    · have hj : j < len := by
        have := (List.getElem?_eq_some_iff.1 hy).1
        simpa using this
      have hy' : y = X j := by simpa [hj] using hy.symm
      obtain ⟨b, off, spot⟩ := a
      have h0 : spot = none := World.cell?_spot (v := V 0) (by simpa [Addr.add] using (hV 0 (by omega)).1)
      subst h0
      have hcell := (hV j (by omega)).1
      rw [add_plain] at hcell
      exact ⟨b, off, V j, rfl, World.block_lt_of_cell? _ _ hcell, hcell, by rw [hy']; exact hX j (by omega)⟩

theorem readsSl {α : Type} [Inhabited α] {R : World → Value → α → Prop} {t e : TypeId} (ht : P.underlying t = some (.slice e)) (hc : P.cellsOf e = 1) (hR : ReadsAs enc P W e R) : ReadsAs enc P W t (SlR R) := by
  intro n u x h
  obtain ⟨A, m, c, xs, rfl, hs⟩ := slAt_of_cells ht hc hR h
  obtain rfl := hs.len
  exact ⟨xs, SlR.mk_ hs⟩

theorem open_sl {α : Type} [Inhabited α] {R : World → Value → α → Prop} {r : Reach} {b0 : Nat} {t e : TypeId} {v : Value} {d : DataW H} {ps : List MemPlace} (ht : P.underlying t = some (.slice e)) (hc : P.cellsOf e = 1) (hR : ReadsAs enc P W e R)
    (hval : Value.okWide P W r b0 t v) (h : DataW.Trod enc P W 0 (fun _ => true) true t v d ps) : ∃ A m c xs, v = .slice A m c ∧ SlAt R W A m xs := by
  obtain ⟨A, m, c, rfl⟩ := okWide_slice ht hval
  obtain ⟨n, hn⟩ := h
  obtain ⟨A', m', c', xs, e, hs⟩ := slAt_of_cells ht hc hR (u := .slice A m c) (by simpa [Value.cells] using hn)
  cases e
  exact ⟨A, m, c, xs, rfl, hs⟩

/-- All that came in reads behind the call as it did. -/
theorem trodAll_stays (hl : laidOutB P = true) {W' : World} (hb : Below W.heap.size W W') {sp : Nat → Bool} : ∀ {ts : List TypeId} {vs : List Value} {ds : List (DataW H)} {ps : List MemPlace},
    (ts.all fun t => P.readableRec t && decide (t < P.types.size)) = true → DataW.TrodAll enc P W 0 (fun _ => true) true ts vs ds ps → (∀ x ∈ ps, x.block < W.heap.size) → (∀ x ∈ ps, sp x.block = true) → DataW.TrodAll enc P W' 0 sp true ts vs ds ps
  | [], vs, ds, ps, _, h, _, _ => by
    obtain ⟨rfl, rfl, rfl⟩ := trodAll_nil h
    exact trodAll_mk0
  | t :: ts, vs, ds, ps, hr, h, hlt, hsp => by
    obtain ⟨v, vs', d, ds', p, q, rfl, rfl, rfl, h1, h2⟩ := trodAll_cons h
    simp only [List.all_cons, Bool.and_eq_true, decide_eq_true_eq] at hr
    exact trodAll_cons_mk (WideElems.Trod_stays hl hr.1.1 hr.1.2 h1 (fun x hx => hb.same (hlt x (List.mem_append_left _ hx))) (fun x hx => hsp x (List.mem_append_left _ hx)))
      (trodAll_stays hl hb hr.2 h2 (fun x hx => hlt x (List.mem_append_right _ hx)) (fun x hx => hsp x (List.mem_append_right _ hx)))

/-- THE LAW's POST: true; what came in reads as it did. -/
theorem post_true {f : Func} {s : ChangeSpec} {W' : World} {args : Array Value} {ds gs : List (DataW H)} {before : List MemPlace} {tb : TypeId} {apart fresh handsOn : Bool} (hl : laidOutB P = true) (hv : s.vars = [])
    (hr : (f.params.toList.all fun t => P.readableRec t && decide (t < P.types.size)) = true)
    (hW : DataW.Whole enc P f.params.toList s.vars apart W args.toList ds gs before) (hs : s.fn H (ds ++ gs) = { results := [.lit (.bool true)], args := ds }) (hrt : f.resultTypes = #[tb]) (htb : P.underlying tb = some .bool)
    (hb : Below W.heap.size W W') : s.post enc P f apart fresh handsOn false W args (.bool true) W' := by
  have hW' := hW
  obtain ⟨p, q, hA, hV, rfl, hfz, hnd⟩ := hW
  rw [hv] at hV
  obtain ⟨rfl, rfl⟩ := trodVars_none hV
  have hlt : ∀ x ∈ p, x.block < W.heap.size := fun x hx => by have := hW'.lt x (by simpa using hx); exact this
  refine ⟨ds, [], p ++ [], [], p, [], hW', ?_, ?_, ?_, hb.frame _, fun h => by cases h⟩
  · rw [hs, hrt]; exact trodAll_cons_mk (shut_bool htb _) trodAll_mk0
  · rw [hs]; exact trodAll_stays hl hb hr hA hlt (fun x hx => by simpa using hlt x hx)
  · rw [hv, hs]; rfl
end
end Go.Proofs.Ytableoihgkmbjaa
