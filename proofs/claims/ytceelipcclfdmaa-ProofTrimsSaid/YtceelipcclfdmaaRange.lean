/- Laws of a range over a map whose iterator lies anywhere. No program. -/
import Derived.Laws.IdiomRangeMap
import Derived.WalkKit
namespace Go.Proofs.Ytceelipcclfdmaa
open Go.RowKit

/-- the world with another object in block r -/
def putObj (w : World) (r : Nat) (o : Obj) : World := { w with heap := w.heap.setIfInBounds r o }

theorem putObj_same {w : World} {r : Nat} (o : Obj) (h : r < w.heap.size) : (putObj w r o).heap[r]? = some o := by simp [putObj, h]
theorem putObj_other {w : World} {r k : Nat} (o : Obj) (h : k ≠ r) : (putObj w r o).heap[k]? = w.heap[k]? := by
  simp [putObj, Ne.symm h]
theorem putObj_below {w0 w : World} {B r : Nat} (o : Obj) (hb : Below B w0 w) (hr : B ≤ r) : Below B w0 (putObj w r o) :=
  ⟨hb.os, hb.tape, hb.output, by simpa [putObj] using hb.size, fun k hk => (putObj_other o (by omega)).trans (hb.block k hk)⟩

theorem run_next_at {P : Program} (w : World) (ty : TypeId) (r bm since c0 : Nat) (seen : Array Nat) (es : Array MapEntry) (clock : Nat) (hr : w.heap[r]? = some (.mapIter (some bm) since seen c0)) (hb : w.heap[bm]? = some (.map es clock)) (hold : ∀ x ∈ es.toList, x.born < since) (hsc : since ≤ c0) :
    ((leftOf es seen).size = 0 ∧ (Instr.next (.pointer (some ⟨r, 0, none⟩)) false ty).run P w = .ok (.tuple #[.bool false]) w) ∨
    ∃ e ∈ (leftOf es seen).toList, ∃ w1 : World, (w1 = w ∨ w1 = w.drew) ∧ (Instr.next (.pointer (some ⟨r, 0, none⟩)) false ty).run P w = .ok (.tuple #[.bool true, e.key, e.val]) (putObj w1 r (.mapIter (some bm) since (seen.push e.born) clock)) := by
  simp only [Instr.next, getObj, Sem.run_bind, Sem.run, hr, hb, Result.andThen, next_test_false seen es since c0 hold hsc, Bool.false_eq_true, if_false]
  unfold leftOf
  have hmem : ∀ x ∈ (Array.filter (fun e => !seen.contains e.born) es).toList, x.born < since := fun x hx => hold x (by simp at hx ⊢; exact hx.1)
  generalize Array.filter (fun e => !seen.contains e.born) es = L at hmem ⊢
  have e1 : L.filter (fun x => decide (x.born < since)) = L := Array.filter_eq_self.2 (fun x hx => by simpa using hmem x (by simpa using hx))
  have e2 : L.filter (fun x => decide (x.born ≥ since)) = #[] := by
    rw [Array.filter_eq_empty_iff]
    intro x hx
    have := hmem x (by simpa using hx)
    simp
    omega
  simp only [e1, e2, Array.append_empty]
  by_cases h0 : L.size = 0
  · left
    have : L = #[] := Array.eq_empty_of_size_eq_zero h0
    subst this
    refine ⟨rfl, ?_⟩
    simp [choose, Sem.run, Question.forced]
  · right
    have hne : L.isEmpty = false := by simp [Array.isEmpty, h0]
    simp only [hne, Bool.false_eq_true, if_false, Array.empty_append, Array.size_map]
    have hch : ∃ (j : Nat) (w1 : World), j < L.size ∧ (w1 = w ∨ w1 = w.drew) ∧ (choose (Question.mapNext L.size)).run P w = .ok j w1 := by
      by_cases hf : L.size ≤ 1
      · exact ⟨0, w, by omega, .inl rfl, by simp [choose, Sem.run, Question.forced, hf]⟩
      · exact ⟨_, w.drew, Nat.mod_lt _ (by omega), .inr rfl, by
          simp only [choose, Sem.run, Question.forced, decide_eq_true_eq, hf, if_false, Question.cut]
          rfl⟩
    obtain ⟨j, w1, hj, hal, hrun⟩ := hch
    refine ⟨L[j], by simp, w1, hal, ?_⟩
    have hr1 : w1.heap[r]? = some (.mapIter (some bm) since seen c0) := by rcases hal with rfl | rfl <;> exact hr
    have hset : ∀ (o' : Obj), (setObj r o').run P w1 = .ok () (putObj w1 r o') := fun o' => by
      simp only [setObj, Sem.run]
      rw [hr1]
      rfl
    simp only [hrun, Array.getElem?_map, Array.getElem?_eq_getElem hj, Option.map_some, Sem.run_bind, hset, Result.andThen]
    rfl

theorem run_entry_at {P : Program} (w : World) (r bm since : Nat) (seen : Array Nat) (es : Array MapEntry) (clock : Nat) (e : MapEntry) (hr : w.heap[r]? = some (.mapIter (some bm) since (seen.push e.born) clock)) (hb : w.heap[bm]? = some (.map es clock)) (he : e ∈ es.toList) (hn : (es.toList.map (·.born)).Nodup) :
    (Instr.entry (.pointer (some ⟨r, 0, none⟩))).run P w = .ok (.tuple #[e.key, e.val]) w := by
  have hf : es.find? (·.born == e.born) = some e := by rw [← Array.find?_toList]; exact find_born e es.toList hn he
  simp only [Instr.entry, getObj, Sem.run_bind, Sem.run, hr, hb, Result.andThen, Array.back?_push, bne_self_eq_false, Bool.false_eq_true, if_false, hf]
  rfl

theorem leftOf_step {es : Array MapEntry} {seen : Array Nat} {e : MapEntry} (he : e ∈ (leftOf es seen).toList) : (leftOf es (seen.push e.born)).size < (leftOf es seen).size := by
  have hmem : e ∈ es.toList ∧ seen.contains e.born = false := by
    unfold leftOf at he
    simp only [Array.toList_filter, List.mem_filter] at he
    exact ⟨he.1, by simpa using he.2⟩
  have := filter_lt (fun x : MapEntry => !seen.contains x.born) (fun x => !(seen.push e.born).contains x.born) (fun x hx => by simp at hx ⊢; exact hx.1) e (by simpa using hmem.2) (by simp) es.toList hmem.1
  have hsz : ∀ p : MapEntry → Bool, (Array.filter p es).size = (es.toList.filter p).length := fun p => by rw [← Array.toList_filter, Array.length_toList]
  unfold leftOf
  rw [hsz, hsz]
  exact this
theorem leftOf_done {es : Array MapEntry} {seen : Array Nat} (h : (leftOf es seen).size = 0) : ∀ e ∈ es.toList, seen.contains e.born = true := by
  intro e he
  cases hc : seen.contains e.born
  · exfalso
    have : e ∈ (leftOf es seen).toList := by
      unfold leftOf
      simp only [Array.toList_filter, List.mem_filter]
      exact ⟨he, by simpa using hc⟩
    rw [Array.eq_empty_of_size_eq_zero h] at this
    simp at this
  · rfl
end Go.Proofs.Ytceelipcclfdmaa
