/- Merged: QRange, QJ5, QJ6. -/
import Derived.Laws.IdiomRangeMap
import Derived.WalkKit
import Derived.Test.YtcmlmjbpdaecbaaGreatA23
set_option linter.unusedVariables false
set_option linter.unusedSimpArgs false
section
namespace Go.Proofs.YtcmlmjbpdaecbaaGreat
open Go.RowKit

/-- the world with another object in block r -/
def putObj (w : World) (r : Nat) (o : Obj) : World := { w with heap := w.heap.setIfInBounds r o }

theorem putObj_same {w : World} {r : Nat} (o : Obj) (h : r < w.heap.size) : (putObj w r o).heap[r]? = some o := by simp [putObj, h]
theorem putObj_other {w : World} {r k : Nat} (o : Obj) (h : k ≠ r) : (putObj w r o).heap[k]? = w.heap[k]? := by
  simp [putObj, Ne.symm h]
theorem putObj_below {w0 w : World} {B r : Nat} (o : Obj) (hb : Below B w0 w) (hr : B ≤ r) : Below B w0 (putObj w r o) :=
  ⟨hb.os, hb.tape, hb.output, by simpa [putObj] using hb.size, fun k hk => (putObj_other o (by omega)).trans (hb.block k hk)⟩

theorem run_next_at {P : Program} (w : World) (ty : TypeId) (r bm since c0 : Nat) (seen : Array Nat) (es : Array MapEntry) (clock : Nat) (hr : w.heap[r]? = some (.mapIter (some bm) since seen c0)) (hb : w.heap[bm]? = some (.map es clock)) (hold : ∀ x ∈ es.toList, x.born < since) (hsc : since ≤ c0) :
    ((leftOf es seen).size = 0 ∧ (Instr.next (.pointer (some ⟨r, 0, none⟩)) false ty).run P w = .ok (.tuple #[.bool false]) w) ∨
    ∃ e ∈ (leftOf es seen).toList, ∃ w1 : World, (w1 = w ∨ w1 = w.drew) ∧ (Instr.next (.pointer (some ⟨r, 0, none⟩)) false ty).run P w = .ok (.tuple #[.bool true, e.key, e.val]) (putObj w1 r (.mapIter (some bm) since (seen.push e.born) clock)) := by
  simp only [Instr.next, getObj, Sem.run_bind, Sem.run, hr, hb, Result.andThen, next_test_false seen es since c0 hold hsc, Bool.false_eq_true, if_false]
  unfold leftOf
  have hmem : ∀ x ∈ (Array.filter (fun e => !seen.contains e.born) es).toList, x.born < since := fun x hx => hold x (by simp at hx ⊢; exact hx.1)
  generalize Array.filter (fun e => !seen.contains e.born) es = L at hmem ⊢
  have e1 : L.filter (fun x => decide (x.born < since)) = L := Array.filter_eq_self.2 (fun x hx => by simpa using hmem x (by simpa using hx))
  have e2 : L.filter (fun x => decide (x.born ≥ since)) = #[] := by
    rw [Array.filter_eq_empty_iff]
    intro x hx
    have := hmem x (by simpa using hx)
    simp
    omega
  simp only [e1, e2, Array.append_empty]
  by_cases h0 : L.size = 0
  · left
    have : L = #[] := Array.eq_empty_of_size_eq_zero h0
    subst this
    refine ⟨rfl, ?_⟩
    simp [choose, Sem.run, Question.forced]
  · right
    have hne : L.isEmpty = false := by simp [Array.isEmpty, h0]
    simp only [hne, Bool.false_eq_true, if_false, Array.empty_append, Array.size_map]
    have hch : ∃ (j : Nat) (w1 : World), j < L.size ∧ (w1 = w ∨ w1 = w.drew) ∧ (choose (Question.mapNext L.size)).run P w = .ok j w1 := by
      by_cases hf : L.size ≤ 1
      · exact ⟨0, w, by omega, .inl rfl, by simp [choose, Sem.run, Question.forced, hf]⟩
      · exact ⟨_, w.drew, Nat.mod_lt _ (by omega), .inr rfl, by
          simp only [choose, Sem.run, Question.forced, decide_eq_true_eq, hf, if_false, Question.cut]
          rfl⟩
    obtain ⟨j, w1, hj, hal, hrun⟩ := hch
    refine ⟨L[j], by simp, w1, hal, ?_⟩
    have hr1 : w1.heap[r]? = some (.mapIter (some bm) since seen c0) := by rcases hal with rfl | rfl <;> exact hr
    have hset : ∀ (o' : Obj), (setObj r o').run P w1 = .ok () (putObj w1 r o') := fun o' => by
      simp only [setObj, Sem.run]
      rw [hr1]
      rfl
    simp only [hrun, Array.getElem?_map, Array.getElem?_eq_getElem hj, Option.map_some, Sem.run_bind, hset, Result.andThen]
    rfl

theorem run_entry_at {P : Program} (w : World) (r bm since : Nat) (seen : Array Nat) (es : Array MapEntry) (clock : Nat) (e : MapEntry) (hr : w.heap[r]? = some (.mapIter (some bm) since (seen.push e.born) clock)) (hb : w.heap[bm]? = some (.map es clock)) (he : e ∈ es.toList) (hn : (es.toList.map (·.born)).Nodup) :
    (Instr.entry (.pointer (some ⟨r, 0, none⟩))).run P w = .ok (.tuple #[e.key, e.val]) w := by
  have hf : es.find? (·.born == e.born) = some e := by rw [← Array.find?_toList]; exact find_born e es.toList hn he
  simp only [Instr.entry, getObj, Sem.run_bind, Sem.run, hr, hb, Result.andThen, Array.back?_push, bne_self_eq_false, Bool.false_eq_true, if_false, hf]
  rfl

theorem leftOf_step {es : Array MapEntry} {seen : Array Nat} {e : MapEntry} (he : e ∈ (leftOf es seen).toList) : (leftOf es (seen.push e.born)).size < (leftOf es seen).size := by
  have hmem : e ∈ es.toList ∧ seen.contains e.born = false := by
    unfold leftOf at he
    simp only [Array.toList_filter, List.mem_filter] at he
    exact ⟨he.1, by simpa using he.2⟩
  have := filter_lt (fun x : MapEntry => !seen.contains x.born) (fun x => !(seen.push e.born).contains x.born) (fun x hx => by simp at hx ⊢; exact hx.1) e (by simpa using hmem.2) (by simp) es.toList hmem.1
  have hsz : ∀ p : MapEntry → Bool, (Array.filter p es).size = (es.toList.filter p).length := fun p => by rw [← Array.toList_filter, Array.length_toList]
  unfold leftOf
  rw [hsz, hsz]
  exact this
theorem leftOf_done {es : Array MapEntry} {seen : Array Nat} (h : (leftOf es seen).size = 0) : ∀ e ∈ es.toList, seen.contains e.born = true := by
  intro e he
  cases hc : seen.contains e.born
  · exfalso
    have : e ∈ (leftOf es seen).toList := by
      unfold leftOf
      simp only [Array.toList_filter, List.mem_filter]
      exact ⟨he, by simpa using hc⟩
    rw [Array.eq_empty_of_size_eq_zero h] at this
    simp at this
  · rfl
end Go.Proofs.YtcmlmjbpdaecbaaGreat
end
section
namespace Go.Proofs.YtcmlmjbpdaecbaaGreat
open Go.RowKit Go.MapKept Go.Maps Go.WideMaps
set_option linter.unusedVariables false
set_option linter.unusedSimpArgs false

/-- the entries of a map that were seen -/
structure Vis (kn : List (E.Opn × Nat)) (es : Array MapEntry) (seen : Array Nat) (vs : List (E.Opn × Nat)) : Prop where
  mem : ∀ x, x ∈ vs ↔ ∃ (i : Nat) (e : MapEntry), es.toList[i]? = some e ∧ seen.contains e.born = true ∧ kn[i]? = some x
theorem Vis.start (kn : List (E.Opn × Nat)) (es : Array MapEntry) : Vis kn es #[] [] := ⟨fun x => ⟨(fun h => by cases h), (fun ⟨i, e, _, h, _⟩ => by simp at h)⟩⟩
theorem Vis.step {kn : List (E.Opn × Nat)} {es : Array MapEntry} {seen : Array Nat} {vs : List (E.Opn × Nat)} (h : Vis kn es seen vs) (hnd : (es.toList.map (·.born)).Nodup) {i : Nat} {e : MapEntry} (hi : es.toList[i]? = some e) {y : E.Opn × Nat} (hy : kn[i]? = some y) : Vis kn es (seen.push e.born) (vs ++ [y]) := by
  refine ⟨fun x => ?_⟩
  rw [List.mem_append, h.mem]
  constructor
  · rintro (⟨j, e', h1, h2, h3⟩ | hx)
    · refine ⟨j, e', h1, ?_, h3⟩
      simp only [Array.contains_push, h2, Bool.or_true, Bool.true_or]
    · simp at hx
      subst hx
      exact ⟨i, e, hi, by simp, hy⟩
  · rintro ⟨j, e', h1, h2, h3⟩
    by_cases hc : seen.contains e'.born = true
    · exact .inl ⟨j, e', h1, hc, h3⟩
    · right
      have hb : e'.born = e.born := by
        have : (seen.push e.born).contains e'.born = true := h2
        simp only [Array.contains_push, Bool.or_eq_true, beq_iff_eq] at this
        rcases this with h | h
        · first | exact h | exact h.symm | exact absurd h hc
        · first | exact h | exact h.symm | exact absurd h hc
      have hij : j = i := by
        have hjl := (List.getElem?_eq_some_iff.1 h1)
        have hil := (List.getElem?_eq_some_iff.1 hi)
        have g1 : (es.toList.map (·.born))[j]? = some e.born := by rw [List.getElem?_map, h1]; exact congrArg some hb
        have g2 : (es.toList.map (·.born))[i]? = some e.born := by rw [List.getElem?_map, hi]; rfl
        obtain ⟨a1, a2⟩ := List.getElem?_eq_some_iff.1 g1
        obtain ⟨b1, b2⟩ := List.getElem?_eq_some_iff.1 g2
        rcases Nat.lt_trichotomy j i with c | c | c
        · exact absurd (a2.trans b2.symm) (List.pairwise_iff_getElem.1 hnd j i a1 b1 c)
        · exact c
        · exact absurd (b2.trans a2.symm) (List.pairwise_iff_getElem.1 hnd i j b1 a1 c)
      subst hij
      rw [hy] at h3
      cases h3
      simp
theorem Vis.done {kn : List (E.Opn × Nat)} {es : Array MapEntry} {seen : Array Nat} {vs : List (E.Opn × Nat)} (h : Vis kn es seen vs) (hl : es.toList.length = kn.length) (hz : (leftOf es seen).size = 0) : ∀ x, x ∈ vs ↔ x ∈ kn := fun x => by
  rw [h.mem]
  constructor
  · rintro ⟨i, e, _, _, h3⟩; exact List.mem_of_getElem? h3
  · intro hx
    obtain ⟨i, hi⟩ := List.getElem?_of_mem hx
    have hil := (List.getElem?_eq_some_iff.1 hi).1
    have he : es.toList[i]? = some (es.toList[i]'(by omega)) := List.getElem?_eq_getElem (by omega)
    exact ⟨i, _, he, leftOf_done hz _ (List.getElem_mem _), hi⟩

section
variable {w w' : World} {b : Nat} {p : List Nat} {wd : List Int} {kn : List (E.Opn × Nat)} {nm : List Nat} {vr : E.Vr} {v1 v2 v4 : Value} {kb : Nat}
theorem RGC.neIter (h : RGC w b p wd kn nm vr v1 v2 v4 kb) {r : Nat} {o : Option Nat} {since c0 : Nat} {seen : Array Nat} (hr : w.heap[r]? = some (.mapIter o since seen c0)) : ∀ i, MR b v1 v2 v4 kb i → i ≠ r := by
  rintro i (rfl | rfl | e | e | e) rfl
  · rw [h.row] at hr; cases hr
  · obtain ⟨_, _, h1, _⟩ := h.km
    rw [h1] at hr; cases hr
  · obtain ⟨_, hc⟩ := h.o1.row_ex e
    rw [hc] at hr; cases hr
  · obtain ⟨_, hc⟩ := h.o2.row_ex e
    rw [hc] at hr; cases hr
  · obtain ⟨_, hc⟩ := h.o4.row_ex e
    rw [hc] at hr; cases hr
/-- another map is no block of the graph but its table -/
theorem RGC.neMap (h : RGC w b p wd kn nm vr v1 v2 v4 kb) {k3 : Nat} {es : Array MapEntry} {cl : Nat} (hr : w.heap[k3]? = some (.map es cl)) (hk : k3 ≠ kb) : ∀ i, MR b v1 v2 v4 kb i → i ≠ k3 := by
  rintro i (rfl | rfl | e | e | e) rfl
  · rw [h.row] at hr; cases hr
  · exact hk rfl
  · exact h.o1.ne_map hr e
  · exact h.o2.ne_map hr e
  · exact h.o4.ne_map hr e
end

/-- within a round of rebuild -/
structure RIn (W : World) (M : Nat → Prop) (b : Nat) (p1 : List Nat) (wd : List Int) (tb : List (E.Opn × Nat)) (nm : List Nat) (vr : E.Vr) (v1 v2 v4 : Value) (kb k3 r : Nat) (es : Array MapEntry) (clock : Nat) (p2 : List Nat) (kn kr : List (E.Opn × Nat)) (fl : Bool) (vs : List (E.Opn × Nat)) (seen : Array Nat) (c0 : Nat) (w : World) : Prop where
  gr : RGC w b p2 wd tb nm vr v1 v2 v4 kb
  kp : Kpm M W w
  nx : MapAt Tryz.prog 95 opV NatE w k3 kr
  it : w.heap[r]? = some (.mapIter (some kb) clock seen c0)
  mp : w.heap[kb]? = some (.map es clock)
  cc : clock ≤ c0
  k3n : k3 ≠ kb
  ws : W.heap.size ≤ k3 ∧ W.heap.size ≤ r
  ps : E.pass p1 [] vs = (p2, kn, fl)
  rel : E.RelK p2 kn kr
  inn : E.In p2 kr
  owf : ∀ k ∈ kr, OWf k.1
  down : E.Down p2
  len : p2.length = p1.length
section
variable {W : World} {M : Nat → Prop} {b : Nat} {p1 : List Nat} {wd : List Int} {tb : List (E.Opn × Nat)} {nm : List Nat} {vr : E.Vr} {v1 v2 v4 : Value} {kb k3 r : Nat} {es : Array MapEntry} {clock : Nat} {p2 : List Nat} {kn kr : List (E.Opn × Nat)} {fl : Bool} {vs : List (E.Opn × Nat)} {seen seen' : Array Nat} {c0 c1 : Nat} {w w' : World} {y : E.Opn × Nat}
theorem RIn.below (h : RIn W M b p1 wd tb nm vr v1 v2 v4 kb k3 r es clock p2 kn kr fl vs seen c0 w) (hb : Below w.heap.size w w') : RIn W M b p1 wd tb nm vr v1 v2 v4 kb k3 r es clock p2 kn kr fl vs seen c0 w' :=
  ⟨h.gr.below hb, h.kp.trans (Kpm.of_below hb (fun _ => False)) (fun _ _ h => h.elim), h.nx.keep (hb.block k3 h.nx.lt) (fun _ _ _ h => h), (hb.block r (Array.getElem?_eq_some_iff.1 h.it).1).trans h.it, (hb.block kb (Array.getElem?_eq_some_iff.1 h.mp).1).trans h.mp, h.cc, h.k3n, h.ws, h.ps, h.rel, h.inn, h.owf, h.down, h.len⟩
/-- the iterator goes on -/
theorem RIn.next (h : RIn W M b p1 wd tb nm vr v1 v2 v4 kb k3 r es clock p2 kn kr fl vs seen c0 w) (hc : clock ≤ c1) : RIn W M b p1 wd tb nm vr v1 v2 v4 kb k3 r es clock p2 kn kr fl vs seen' c1 (putObj w r (.mapIter (some kb) clock seen' c1)) := by
  have hrl := (Array.getElem?_eq_some_iff.1 h.it).1
  have hk3 : k3 ≠ r := fun e => by
    obtain ⟨_, _, h1, _⟩ := h.nx
    rw [e, h.it] at h1; cases h1
  refine ⟨h.gr.frame fun i hi => putObj_other _ (h.gr.neIter h.it i hi), ?_, h.nx.keep (putObj_other _ hk3) (fun _ _ _ h => h), putObj_same _ hrl, (putObj_other _ (h.gr.neIter h.it kb (.inr (.inl rfl)))).trans h.mp, hc, h.k3n, h.ws, h.ps, h.rel, h.inn, h.owf, h.down, h.len⟩
  refine ⟨h.kp.os, h.kp.tape, h.kp.output, by simpa [putObj] using h.kp.size, fun i hi hm => (putObj_other _ (fun e => ?_)).trans (h.kp.block i hi hm)⟩
  have := h.ws.2
  omega
/-- an operation that is new -/
theorem RIn.none (h : RIn W M b p1 wd tb nm vr v1 v2 v4 kb k3 r es clock p2 kn kr fl vs seen c0 w) (hg : w.grownBy w' (some k3)) (hm : MapAt Tryz.prog 95 opV NatE w' k3 (kr ++ [(E.can p2 y.1, y.2)])) (hget : AL.get kr (E.can p2 y.1) = none) (hy : y.2 < p1.length) (ho : OWf (E.can p2 y.1)) : RIn W M b p1 wd tb nm vr v1 v2 v4 kb k3 r es clock p2 (kn ++ [(E.can p2 y.1, E.root p2 y.2)]) (kr ++ [(E.can p2 y.1, y.2)]) fl (vs ++ [y]) seen c0 w' := by
  have hne : ∀ i, i < w.heap.size → i ≠ k3 → w'.heap[i]? = w.heap[i]? := fun i hi hk => hg.block i hi (fun e => hk (by injection e))
  obtain ⟨es3, cl3, hk3, _⟩ := id h.nx
  have hrl := (Array.getElem?_eq_some_iff.1 h.it).1
  refine ⟨h.gr.frame fun i hi => hne i (h.gr.lt i hi) (h.gr.neMap hk3 h.k3n i hi), h.kp.trans (Kpm.grown (M := fun i => i = k3) hg (fun i e => by cases e; rfl)) (fun i hi e => by have := h.ws.1; omega), hm, (hne r hrl (fun e => by rw [← e, h.it] at hk3; cases hk3)).trans h.it, (hne kb (Array.getElem?_eq_some_iff.1 h.mp).1 (fun e => h.k3n e.symm)).trans h.mp, h.cc, h.k3n, h.ws, ?_, h.rel.push (E.root_root h.down _), ?_, ?_, h.down, h.len⟩
  · rw [E.pass_app, h.ps]
    dsimp only
    rw [E.pass_none ((E.get_rel h.rel).1 hget)]
    simp [E.pass]
  · intro k hk
    rcases List.mem_append.1 hk with hk | hk
    · exact h.inn k hk
    · simp at hk; subst hk; rw [h.len]; exact hy
  · intro k hk
    rcases List.mem_append.1 hk with hk | hk
    · exact h.owf k hk
    · simp at hk; subst hk; exact ho
theorem join_symm {p : List Nat} (a b : Nat) : E.join p a b = E.join p b a := by
  unfold E.join
  by_cases h : E.root p a = E.root p b
  · rw [if_pos h, if_pos h.symm]
  · rw [if_neg h, if_neg (fun e => h e.symm), Nat.max_comm, Nat.min_comm]
theorem join_congr {p : List Nat} {a a' b : Nat} (h : E.root p a = E.root p a') : E.join p a b = E.join p a' b := by
  unfold E.join; rw [h]
/-- an operation that is there: its classes are made one -/
theorem RIn.join (h : RIn W M b p1 wd tb nm vr v1 v2 v4 kb k3 r es clock p2 kn kr fl vs seen c0 w) {d : Nat} (hget : AL.get kr (E.can p2 y.1) = some d) (hy : y.2 < p1.length) (hM1 : ∀ i, MR b v1 v2 v4 kb i → i < W.heap.size → M i) (hg : RGC w' b (E.join p2 y.2 d) wd tb nm vr v1 v2 v4 kb) (hk : Kpm (MR b v1 v2 v4 kb) w w') (hone : w'.heap[kb]? = w.heap[kb]?) :
    RIn W M b p1 wd tb nm vr v1 v2 v4 kb k3 r es clock (E.join p2 y.2 d) kn kr (fl || decide (E.root p2 y.2 ≠ E.root p2 d)) (vs ++ [y]) seen c0 w' := by
  obtain ⟨c, hc, hcd⟩ := (E.get_rel h.rel).2 d hget
  have hdl := h.inn _ (E.get_in hget)
  have hyl : y.2 < p2.length := by rw [h.len]; exact hy
  obtain ⟨j1, j2, _⟩ := E.join_spec h.down hyl hdl
  obtain ⟨jc, _⟩ := E.join_coarse h.down hyl hdl
  obtain ⟨es3, cl3, hk3, _⟩ := id h.nx
  have hrl := (Array.getElem?_eq_some_iff.1 h.it).1
  refine ⟨hg, h.kp.trans hk (fun i hi hm => hM1 i hm hi), h.nx.keep (hk.block k3 h.nx.lt (fun hm => h.gr.neMap hk3 h.k3n k3 hm rfl)) (fun _ _ _ h => h), (hk.block r hrl (fun hm => h.gr.neIter h.it r hm rfl)).trans h.it, hone.trans h.mp, h.cc, h.k3n, h.ws, ?_, h.rel.coarse jc, fun k hk => by rw [j2]; exact h.inn k hk, h.owf, j1, j2.trans h.len⟩
  rw [E.pass_app, h.ps]
  dsimp only
  rw [E.pass_some hc]
  by_cases he : E.root p2 c = E.root p2 y.2
  · rw [if_pos he]
    have hj : E.join p2 y.2 d = p2 := by unfold E.join; rw [if_pos (he.symm.trans hcd)]
    rw [hj]
    simp [E.pass, he.symm.trans hcd]
  · rw [if_neg he]
    have hne : E.root p2 y.2 ≠ E.root p2 d := fun e => he (hcd.trans e.symm)
    have hj : E.join p2 y.2 d = E.join p2 c y.2 := by rw [join_symm, join_congr (a := d) (a' := c) hcd.symm]
    rw [hj]
    simp [E.pass, hne]
end
end Go.Proofs.YtcmlmjbpdaecbaaGreat
end
section
namespace Go.Proofs.YtcmlmjbpdaecbaaGreat
open Go.RowKit Go.MapKept Go.Maps Go.WideMaps
set_option linter.unusedVariables false
set_option linter.unusedSimpArgs false

/-- behind rebuild -/
structure RebPost (W : World) (b : Nat) (p : List Nat) (wd : List Int) (es : List (E.Opn × Nat)) (nm : List Nat) (vr : E.Vr) (v1 v2 v4 : Value) (kb : Nat) (e : Ending) (W' : World) (p1 : List Nat) (es1 : List (E.Opn × Nat)) (kc : Nat) : Prop where
  ret : e = .returned (.tuple #[])
  sh : E.RShut p es p1 es1
  owf : ∀ k ∈ es1, OWf k.1
  gr : RGC W' b p1 wd es1 nm vr v1 v2 v4 kc
  kp : Kpm (MR b v1 v2 v4 kb) W W'
  nk : kc = kb ∨ W.heap.size ≤ kc

/-- between two rounds -/
structure ROut (W : World) (M : Nat → Prop) (b : Nat) (p : List Nat) (wd : List Int) (es : List (E.Opn × Nat)) (nm : List Nat) (vr : E.Vr) (v1 v2 v4 : Value) (kb : Nat) (p1 : List Nat) (es1 : List (E.Opn × Nat)) (kc : Nat) (w : World) : Prop where
  gr : RGC w b p1 wd es1 nm vr v1 v2 v4 kc
  kp : Kpm M W w
  nk : kc = kb ∨ W.heap.size ≤ kc
  mid : E.Mid p es p1 es1
  owf : ∀ k ∈ es1, OWf k.1
theorem RGC.table {w : World} {b : Nat} {p : List Nat} {wd : List Int} {kn : List (E.Opn × Nat)} {nm : List Nat} {vr : E.Vr} {v1 v2 v4 : Value} {kb : Nat} (h : RGC w b p wd kn nm vr v1 v2 v4 kb) {k3 : Nat} {kr : List (E.Opn × Nat)} (hk : k3 ≠ b) (hm : MapAt Tryz.prog 95 opV NatE w k3 kr) : RGC (w.setCell ⟨b, 2, none⟩ (.map (some k3))) b p wd kr nm vr v1 v2 v4 k3 := by
  have ho : ∀ i, i ≠ b → (w.setCell ⟨b, 2, none⟩ (.map (some k3))).heap[i]? = w.heap[i]? := fun i hi => Below.heap_setCell _ _ _ i hi
  exact ⟨heap_setCell_same _ b 2 _ _ _ h.row, h.o1.same fun i hi => ho i (fun e => h.ne1 (e ▸ hi)), h.o2.same fun i hi => ho i (fun e => h.ne2 (e ▸ hi)), hm.keep (ho k3 hk) (fun _ _ _ h => h), h.o4.same fun i hi => ho i (fun e => h.ne4 (e ▸ hi)), h.d12, h.d14, h.d24⟩

set_option maxRecDepth 100000 in
set_option maxHeartbeats 4000000 in
theorem rrebuild_any {W : World} {b : Nat} {p : List Nat} {wd : List Int} {es : List (E.Opn × Nat)} {nm : List Nat} {vr : E.Vr} {v1 v2 v4 : Value} {kb : Nat} (h : RGC W b p wd es nm vr v1 v2 v4 kb) (hd : E.Down p) (hi : E.In p es) (har : ∀ k ∈ es, E.Ar p.length k.1) (hw : ∀ k ∈ es, OWf k.1) (hn : p.length ≤ 1000000000) :
    Calls Tryz.prog 52 #[.pointer (some ⟨b, 0, none⟩)] W fun e W' => ∃ p1 es1 kc, RebPost W b p wd es nm vr v1 v2 v4 kb e W' p1 es1 kc := by
  obtain ⟨M, hM⟩ : ∃ M, M = MR b v1 v2 v4 kb := ⟨_, rfl⟩
  have HMb := Lib.hid (show M b ∧ (∀ i, MR b v1 v2 v4 kb i → M i) from by rw [hM]; exact ⟨.inl rfl, fun i e => e⟩)
  have HMl := Lib.hid (show ∀ i, M i → i < W.heap.size from by rw [hM]; exact h.lt)
  have Hmk := Lib.hid (fun W => run_makeMap_any (P := Tryz.prog) Tryz.underlying90 W)
  have Ho := Lib.hid (show ROut W M b p wd es nm vr v1 v2 v4 kb p es kb W from ⟨h, Kpm.refl _ _, .inl rfl, E.Mid.start hd hi, hw⟩)
  have Har := Lib.hid har
  have Hn := Lib.hid hn
  have HM := Lib.hid hM
  clear h hd hi har hw hn hM
  go_enter Tryz.func52, Tryz.ntmps52
  go_wp2
  go_loopg [2] (E.roots p + 1) (fun gg s0 wr => ∃ (p1 : List Nat) (es1 : List (E.Opn × Nat)) (kc : Nat), gg = E.roots p1 + 1 ∧ Hid (ROut W M b p wd es nm vr v1 v2 v4 kb p1 es1 kc wr))
  case atStart => exact ⟨p, es, kb, rfl, Ho⟩
  case round =>
    obtain ⟨p1, es1, kc, hgk, Ho1⟩ := hrel
    have Hgk := Lib.hid hgk
    clear hgk Ho
    have hmk := Hmk.out wr
    go_upto_region 2 with (fail)
    clear hmk
    obtain ⟨k3, hk3⟩ : ∃ k3, k3 = wr.heap.size := ⟨_, rfl⟩
    obtain ⟨w2, hw2⟩ : ∃ w2, w2 = wr.alloc (.map #[] 0) := ⟨_, rfl⟩
    have hb2 : Below wr.heap.size wr w2 := by rw [hw2]; exact (Below.refl _ _).alloc (Nat.le_refl _) _
    have hm2 : MapAt Tryz.prog 95 opV NatE w2 k3 [] := by rw [hw2, hk3]; exact MapAt.made wr
    have hg2 := Ho1.out.gr.below hb2
    have hkc : k3 ≠ kc ∧ k3 ≠ b ∧ W.heap.size ≤ k3 := by
      have h1 := Ho1.out.gr.lt kc (.inr (.inl rfl))
      have h2 := Ho1.out.gr.lt b (.inl rfl)
      have h3 := Ho1.out.kp.size
      omega
    rw [← hw2, ← hk3]
    obtain ⟨es0, clock, hmp, hst, hlen, hent⟩ := id hg2.km
    obtain ⟨_, _, k2, _⟩ := hg2.cells
    have hrg := run_range_map (P := Tryz.prog) w2 90 _ _ kc es0 clock Tryz.underlying90 hmp
    have Hst := Lib.hid hst
    have Hlen := Lib.hid hlen
    have Hent := Lib.hid hent
    have Hkc := Lib.hid hkc
    have Hri := Lib.hid (show RIn W M b p1 wd es1 nm vr v1 v2 v4 kc k3 w2.heap.size es0 clock p1 [] [] false [] #[] clock (w2.alloc (.mapIter (some kc) clock #[] clock)) from by
      have hb3 : Below w2.heap.size w2 (w2.alloc (.mapIter (some kc) clock #[] clock)) := (Below.refl _ _).alloc (Nat.le_refl _) _
      have hs2 := hb2.size
      have hs := Ho1.out.kp.size
      refine ⟨hg2.below hb3, (Ho1.out.kp.trans (Kpm.of_below hb2 (fun _ => False)) (fun _ _ h => h.elim)).trans (Kpm.of_below hb3 (fun _ => False)) (fun _ _ h => h.elim), hm2.keep (hb3.block k3 hm2.lt) (fun _ _ _ h => h), heap_alloc_new w2 _, (hb3.block kc (Array.getElem?_eq_some_iff.1 hmp).1).trans hmp, Nat.le_refl _, hkc.1, ⟨hkc.2.2, by omega⟩, rfl, E.RelK.nil _, (fun _ h => by cases h), (fun _ h => by cases h), Ho1.out.mid.down, rfl⟩)
    clear hw2 hk3 hb2 hm2 hg2 hkc hmp hst hlen hent
    go_wp2
    clear hrg k2
    obtain ⟨r, hr⟩ : ∃ r, r = w2.heap.size := ⟨_, rfl⟩
    obtain ⟨w3, hw3⟩ : ∃ w3, w3 = w2.alloc (.mapIter (some kc) clock #[] clock) := ⟨_, rfl⟩
    rw [← hw3] at Hri ⊢
    rw [← hr] at Hri ⊢
    clear hr hw3
    go_loopg [2] (es0.size + 1) (fun gg s2 wx => ∃ (fl : Bool) (p2 : List Nat) (kn kr vs : List (E.Opn × Nat)) (seen : Array Nat) (c0 : Nat), s2 = .bool fl ∧ (leftOf es0 seen).size + 1 ≤ gg ∧ Hid (RIn W M b p1 wd es1 nm vr v1 v2 v4 kc k3 r es0 clock p2 kn kr fl vs seen c0 wx) ∧ Hid (Vis es1 es0 seen vs))
    case atStart =>
      refine ⟨false, p1, [], [], [], #[], clock, rfl, ?_, Hri, Lib.hid (Vis.start _ _)⟩
      have : (leftOf es0 #[]).size ≤ es0.size := by unfold leftOf; exact Array.size_filter_le
      omega
    case round =>
      obtain ⟨fl, p2, kn, kr, vs, seen, c0, rfl, hgk2, Hri2, Hv2⟩ := hrel
      have Hgk2 := Lib.hid hgk2
      clear hgk2 Hri
      rcases run_next_at (P := Tryz.prog) wr 0 r kc clock c0 seen es0 clock Hri2.out.it Hri2.out.mp (fun x hx => (Hst.out.1 x hx)) Hri2.out.cc with ⟨hz, hnx⟩ | ⟨e, he, w5, hw5, hnx⟩
      · have Hz := Lib.hid hz
        clear hz
        have hs := Hv2.out.done Hlen.out Hz.out
        have hps := Hri2.out.ps
        have kc2 : wr.cell? ⟨b, 2, none⟩ = some (.map (some kc)) := Hri2.out.gr.cells.2.2.1
        have kf : wr.frozen? ⟨b, 2, none⟩ = false := frozen_row Hri2.out.gr.row _
        have Hg2 := Lib.hid (Hri2.out.gr.table Hkc.out.2.1 Hri2.out.nx)
        have Hk2 := Lib.hid (Hri2.out.kp.setCell (p := ⟨b, 2, none⟩) (fun _ => HMb.out.1) (.map (some k3)))
        have Hmid := Lib.hid (E.rstep_of Ho1.out.mid hs hps Hri2.out.rel Hri2.out.inn)
        cases fl with
        | false =>
          have Hsh := Lib.hid (E.rshut_of Ho1.out.mid hs hps Hri2.out.rel Hri2.out.inn)
          have Howf := Lib.hid Hri2.out.owf
          clear hs hps Hri2 Hmid
          go_wp2
          refine bodyPost_ret (results_none rfl _ _ _) rfl ?_
          exact ⟨p2, kr, k3, rfl, Hsh.out, Howf.out, Hg2.out, by rw [← HM.out]; exact Hk2.out, .inr Hkc.out.2.2⟩
        | true =>
          have Hrt := Lib.hid (show E.roots p2 < E.roots p1 from by
            have hr := E.pass_roots (es := vs) (kn := []) Ho1.out.mid.down (fun e he => by cases he) (Ho1.out.mid.of_set hs).inn (by rw [hps])
            rw [hps] at hr
            exact hr)
          have Howf := Lib.hid Hri2.out.owf
          clear hs hps Hri2
          go_wp2
          clear kc2 kf
          go_roundg (E.roots p2 + 1)
          case measure => have := Hgk.out; have := Hrt.out; omega
          case rel => exact ⟨p2, kr, k3, rfl, Lib.hid ⟨Hg2.out, Hk2.out, .inr Hkc.out.2.2, Hmid.out, Howf.out⟩⟩
      · have hel : e ∈ es0.toList ∧ seen.contains e.born = false := by
          have he2 := he
          unfold leftOf at he2
          simp only [Array.toList_filter, List.mem_filter] at he2
          exact ⟨he2.1, by simpa using he2.2⟩
        obtain ⟨i, hi⟩ := List.getElem?_of_mem hel.1
        obtain ⟨q0, c, hlk⟩ := mapAt_entry Hlen.out hi
        obtain ⟨e', h1, h2, h3, _⟩ := Hent.out i q0 c hlk
        rw [hi] at h1
        cases h1
        have h3' : e.val = .int .i64 (c : Int) := h3
        have Hstep := Lib.hid (leftOf_step he)
        have Hv3 := Lib.hid (Hv2.out.step Hst.out.2.1 hi hlk)
        have hri5 : RIn W M b p1 wd es1 nm vr v1 v2 v4 kc k3 r es0 clock p2 kn kr fl vs seen c0 w5 := by
          rcases hw5 with rfl | rfl
          · exact Hri2.out
          · exact Hri2.out.below (Below.refl _ _).drew
        have Hri6 := Lib.hid (hri5.next (seen' := seen.push e.born) (Nat.le_refl clock))
        obtain ⟨w6, hw6⟩ : ∃ w6, w6 = putObj w5 r (.mapIter (some kc) clock (seen.push e.born) clock) := ⟨_, rfl⟩
        rw [← hw6] at hnx Hri6
        rw [h2, h3'] at hnx
        have hen := run_entry_at (P := Tryz.prog) w6 r kc clock seen es0 clock e Hri6.out.it Hri6.out.mp hel.1 Hst.out.2.1
        rw [h2, h3'] at hen
        have Hmem := Lib.hid (List.mem_of_getElem? hlk)
        have Harq := Lib.hid (show E.Ar p2.length q0 from by
          have := Ho1.out.mid.ar Har.out (q0, c) Hmem.out
          rw [Hri2.out.len]
          exact this)
        have Howq := Lib.hid (Ho1.out.owf (q0, c) Hmem.out)
        have Hcl := Lib.hid (show c < p1.length from Ho1.out.mid.inn (q0, c) Hmem.out)
        clear hri5 hw5 hw6 h2 h3 h3' hi hlk he hel Hri2
        unfold opV at hnx hen
        go_upto_region 5 with (fail)
        clear hnx hen
        obtain ⟨g5, hg5⟩ : ∃ g5, g5 = w6.heap.size := ⟨_, rfl⟩
        obtain ⟨w7, hw7⟩ : ∃ w7, w7 = w6.alloc (.cells #[.int .i64 q0.op, .int .i64 q0.w, .int .u32 q0.imm, .int .i64 q0.a0, .int .i64 q0.a1, .int .i64 q0.a2] 95) := ⟨_, rfl⟩
        rw [← hw7, ← hg5]
        have hb7 : Below w6.heap.size w6 w7 := by rw [hw7]; exact (Below.refl _ _).alloc (Nat.le_refl _) _
        have hr7 : w7.heap[g5]? = some (.cells (opC q0) 95 (0, 0)) := by rw [hw7, hg5]; exact heap_alloc_new w6 _
        have Hb7 := Lib.hid hb7
        have Hr7 := Lib.hid hr7
        have Hg5 := Lib.hid hg5
        have hcan := (Hri6.out.gr.below hb7).canon Hri6.out.down Harq.out
        obtain ⟨q, hq⟩ : ∃ q, E.can p2 q0 = q := ⟨_, rfl⟩
        rw [hq] at hcan
        have Hq := Lib.hid hq
        have Hqw := Lib.hid (show OWf q from by rw [← hq]; exact owf_can Howq.out Harq.out (by have := Hri6.out.len; have := Ho1.out.mid.len; have := Hn.out; omega))
        unfold opV at hcan
        have Hcan := Lib.hid hcan
        unfold opC at hr7
        obtain ⟨y0, y1, y2, y3, y4, y5⟩ := op6_cells hr7
        clear hw7 hg5 hb7 hr7 hcan hq
        go_wp2_with fail
        clear y0 y1 y2 y3 y4 y5
        (with_reducible refine Hcan.out.mono ?_)
        rintro e8 w8 ⟨rfl, hb8⟩
        have hr8 := row_step (Lib.hid hb8) Hr7.out
        have Hb8 := Lib.hid (Hb7.out.trans (hb8.mono Hb7.out.size))
        have Hr8 := Lib.hid hr8
        unfold opC at hr8
        have z0 := frozen_row hr8 0
        have z1 := frozen_row hr8 1
        have z2 := frozen_row hr8 2
        have z3 := frozen_row hr8 3
        have z4 := frozen_row hr8 4
        have z5 := frozen_row hr8 5
        obtain ⟨y0, y1, y2, y3, y4, y5⟩ := op6_cells hr8
        clear hr8 hb8 Hcan Hb7 Hr7
        go_upto_region 6 with (fail)
        clear y0 y1 y2 y3 y4 y5 z0 z1 z2 z3 z4 z5
        obtain ⟨X, hX⟩ : ∃ X, X = (((((w8.setCell ⟨g5, 0, none⟩ (.int .i64 q.op)).setCell ⟨g5, 1, none⟩ (.int .i64 q.w)).setCell ⟨g5, 2, none⟩ (.int .u32 q.imm)).setCell ⟨g5, 3, none⟩ (.int .i64 q.a0)).setCell ⟨g5, 4, none⟩ (.int .i64 q.a1)).setCell ⟨g5, 5, none⟩ (.int .i64 q.a2) := ⟨_, rfl⟩
        rw [← hX]
        have hrX : X.heap[g5]? = some (.cells (opC q) 95 (0, 0)) := by rw [hX]; exact set6_row Hr8.out _ _ _ _ _ _
        have HbX := Lib.hid (show Below w6.heap.size w6 X from by rw [hX]; exact set6_below Hb8.out (by rw [Hg5.out]; exact Nat.le_refl _) _ _ _ _ _ _)
        have Hri7 := Lib.hid (Hri6.out.below HbX.out)
        have HrX := Lib.hid hrX
        clear hX Hr8 Hb8
        unfold opC at hrX
        obtain ⟨y0, y1, y2, y3, y4, y5⟩ := op6_cells hrX
        have hlk := look_rk Hri7.out.nx Hqw.out X rfl
        obtain ⟨o, ho⟩ : ∃ o, AL.get kr q = o := ⟨_, rfl⟩
        rw [ho] at hlk
        have Ho' := Lib.hid ho
        unfold opV at hlk
        clear hrX ho
        go_upto_region 7 with (fail)
        clear hlk y0 y1 y2 y3 y4 y5
        cases o with
        | none =>
          rw [show lookN none = (0 : Int) from rfl, show (none : Option Nat).isSome = false from rfl]
          go_upto_region 8 with (fail)
          obtain ⟨kl, hkl⟩ := keyOf_rk Hqw.out
          obtain ⟨X9, hupd, hgr, hsz, hMp⟩ := (Hri7.out.nx.keep (w' := X) (R' := NatE) rfl (fun _ _ _ h => h)).update rkKeyed opV_inj Tryz.underlying90 hkl (.int .i64 (c : Int))
          have Hri9 := Lib.hid (Hri7.out.none (y := (q0, c)) hgr (by
            have := hMp NatE c (fun _ _ _ _ h => h) rfl
            rw [AL.put_none (AL_get_none Ho'.out)] at this
            rw [Hq.out]
            exact this) (by rw [Hq.out]; exact Ho'.out) Hcl.out (by rw [Hq.out]; exact Hqw.out))
          have hrX := HrX.out
          unfold opC at hrX
          obtain ⟨y0, y1, y2, y3, y4, y5⟩ := op6_cells hrX
          unfold opV at hupd
          clear hgr hsz hMp hkl hrX
          go_wp2
          clear hupd y0 y1 y2 y3 y4 y5
          go_roundg (gk - 1)
          case measure => have := Hgk2.out; omega
          case rel =>
            have := Hgk2.out
            have := Hstep.out
            exact ⟨fl, p2, _, _, vs ++ [(q0, c)], seen.push e.born, clock, rfl, by omega, Hri9, Hv3⟩
        | some d =>
          rw [show lookN (some d) = (d : Int) from rfl, show (some d).isSome = true from rfl]
          have hdl := Hri7.out.inn _ (E.get_in Ho'.out)
          have hcl : c < p2.length := by rw [Hri7.out.len]; exact Hcl.out
          have HMo := Lib.hid (show ∀ i, MR b v1 v2 v4 kc i → i < W.heap.size → M i from by
            rintro i (rfl | rfl | e | e | e) hi
            · exact HMb.out.1
            · rcases Ho1.out.nk with e | e
              · exact HMb.out.2 _ (.inr (.inl e))
              · omega
            · exact HMb.out.2 _ (.inr (.inr (.inl e)))
            · exact HMb.out.2 _ (.inr (.inr (.inr (.inl e))))
            · exact HMb.out.2 _ (.inr (.inr (.inr (.inr e)))))
          have Hjn := Lib.hid (rjoin_any Hri7.out.gr Hri7.out.down c d hcl hdl)
          clear hdl hcl
          by_cases hcd : E.root p2 c = E.root p2 d
          · have Hd := Lib.hid (show decide (E.root p2 c ≠ E.root p2 d) = false from by simp [hcd])
            clear hcd
            go_wp2_with fail
            (with_reducible refine Hjn.out.mono ?_)
            rintro e9 X9 ⟨rfl, hg9, hk9, hs9⟩
            have hri9 := Hri7.out.join (y := (q0, c)) (by rw [Hq.out]; exact Ho'.out) Hcl.out (HMo.out) hg9 (hk9.weak fun i _ e => .inr (.inr (.inl e))) (hk9.block kc Hri7.out.gr.km.lt (fun e => Hri7.out.gr.nk1 e))
            dsimp only at hri9
            rw [Hd.out, Bool.or_false] at hri9
            rw [Hd.out]
            have Hri9 := Lib.hid hri9
            clear hri9 hg9 hk9 hs9
            go_wp2
            go_roundg (gk - 1)
            case measure => have := Hgk2.out; omega
            case rel =>
              have := Hgk2.out
              have := Hstep.out
              exact ⟨fl, _, _, _, vs ++ [(q0, c)], seen.push e.born, clock, rfl, by omega, Hri9, Hv3⟩
          · have Hd := Lib.hid (show decide (E.root p2 c ≠ E.root p2 d) = true from by simp [hcd])
            clear hcd
            go_wp2_with fail
            (with_reducible refine Hjn.out.mono ?_)
            rintro e9 X9 ⟨rfl, hg9, hk9, hs9⟩
            have hri9 := Hri7.out.join (y := (q0, c)) (by rw [Hq.out]; exact Ho'.out) Hcl.out (HMo.out) hg9 (hk9.weak fun i _ e => .inr (.inr (.inl e))) (hk9.block kc Hri7.out.gr.km.lt (fun e => Hri7.out.gr.nk1 e))
            dsimp only at hri9
            rw [Hd.out, Bool.or_true] at hri9
            rw [Hd.out]
            have Hri9 := Lib.hid hri9
            clear hri9 hg9 hk9 hs9
            go_wp2
            go_roundg (gk - 1)
            case measure => have := Hgk2.out; omega
            case rel =>
              have := Hgk2.out
              have := Hstep.out
              exact ⟨true, _, _, _, vs ++ [(q0, c)], seen.push e.born, clock, rfl, by omega, Hri9, Hv3⟩
end Go.Proofs.YtcmlmjbpdaecbaaGreat
end
