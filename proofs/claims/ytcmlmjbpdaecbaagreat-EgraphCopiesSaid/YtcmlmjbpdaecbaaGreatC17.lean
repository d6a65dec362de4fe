/- Merged: G4, G5. -/
import Derived.Test.YtcmlmjbpdaecbaaGreatC16
set_option linter.unusedVariables false
set_option linter.unusedSimpArgs false
section
namespace Go.Proofs.YtcmlmjbpdaecbaaGreat
open Go.RowKit Go.MapKept Go.Maps Go.WideMaps
set_option linter.unusedVariables false
set_option linter.unusedSimpArgs false

/-- an entry as seven cells -/
def entC (e : E.Opn × Nat) : List Value := [.int .i64 e.1.op, .int .i64 e.1.w, .int .u32 e.1.imm, .int .i64 e.1.a0, .int .i64 e.1.a1, .int .i64 e.1.a2, .int .i64 (e.2 : Int)]
def entCs (l : List (E.Opn × Nat)) : List Value := l.flatMap entC
theorem entCs_len (l : List (E.Opn × Nat)) : (entCs l).length = l.length * 7 := by
  induction l with
  | nil => rfl
  | cons e l ih =>
    show (entC e ++ entCs l).length = _
    rw [List.length_append, ih]
    simp [entC]; omega
theorem entCs_app (l m : List (E.Opn × Nat)) : entCs (l ++ m) = entCs l ++ entCs m := by simp [entCs]
theorem entCs_at : ∀ {l : List (E.Opn × Nat)} {k : Nat} {e : E.Opn × Nat}, l[k]? = some e → ∀ i, i < 7 → (entCs l)[k * 7 + i]? = (entC e)[i]? := by
  intro l
  induction l with
  | nil => intro k e h; simp at h
  | cons x l ih =>
    intro k e h i hi
    show (entC x ++ entCs l)[k * 7 + i]? = _
    have hx : (entC x).length = 7 := rfl
    cases k with
    | zero =>
      simp at h
      subst h
      rw [Nat.zero_mul, Nat.zero_add, List.getElem?_append_left (by omega)]
    | succ k =>
      rw [List.getElem?_append_right (by omega), hx, show (k + 1) * 7 + i - 7 = k * 7 + i by omega]
      exact ih (by simpa using h) i hi

section
variable {w w' : World} {e : TypeId} {s n : Nat} {v : Value} {xs : List Value}
theorem OwnAt.row_ex (h : OwnAt w e s v n xs) {g : Nat} (hg : v.ownBlock = some g) : ∃ cur, w.heap[g]? = some (.cells cur e (0, 0)) := by
  rcases h.2 with ⟨rfl, _⟩ | ⟨g', off, cap, cur, rfl, hgg, _⟩
  · simp [Value.ownBlock] at hg
  · simp [Value.ownBlock] at hg
    subst hg
    exact ⟨cur, hgg⟩
theorem OwnAt.ne_row (h : OwnAt w e s v n xs) {b : Nat} {cs : Array Value} {T : TypeId} {fr : Nat × Nat} (hb : w.heap[b]? = some (.cells cs T fr)) (hT : T ≠ e) : v.ownBlock ≠ some b := fun hg => by
  obtain ⟨cur, hc⟩ := h.row_ex hg
  rw [hb] at hc
  injection hc with hc
  injection hc with _ hc _
  exact hT hc
theorem OwnAt.ne_map (h : OwnAt w e s v n xs) {b : Nat} {es : Array MapEntry} {cl : Nat} (hb : w.heap[b]? = some (.map es cl)) : v.ownBlock ≠ some b := fun hg => by
  obtain ⟨cur, hc⟩ := h.row_ex hg
  rw [hb] at hc
  cases hc
end

/-- the parts of a graph as they lie in memory: parents, widths, entries, what is known, names, the widths of variables -/
structure GrC (w : World) (b : Nat) (p : List Nat) (wd : List Int) (es kn : List (E.Opn × Nat)) (nm : List Nat) (vr : E.Vr) (v1 v2 v3 v4 : Value) (kb : Nat) : Prop where
  row : w.heap[b]? = some (.cells #[v1, v2, v3, .map (some kb), v4, .int .i64 vr.a, .int .i64 vr.b, .int .i64 vr.c, .int .i64 vr.d] 80 (0, 0))
  o1 : OwnAt w 3 1 v1 p.length (ivs p)
  o2 : OwnAt w 3 1 v2 wd.length (wd.map (.int .i64))
  o3 : OwnAt w 87 7 v3 es.length (entCs es)
  km : MapAt Tryz.prog 85 opV NatE w kb kn
  o4 : OwnAt w 3 1 v4 nm.length (ivs nm)
  d12 : ∀ g, v1.ownBlock = some g → v2.ownBlock ≠ some g
  d14 : ∀ g, v1.ownBlock = some g → v4.ownBlock ≠ some g
  d24 : ∀ g, v2.ownBlock = some g → v4.ownBlock ≠ some g

/-- the blocks of a graph -/
def MG (b : Nat) (v1 v2 v3 v4 : Value) (kb i : Nat) : Prop := i = b ∨ i = kb ∨ v1.ownBlock = some i ∨ v2.ownBlock = some i ∨ v3.ownBlock = some i ∨ v4.ownBlock = some i

section
variable {w w' : World} {b : Nat} {p : List Nat} {wd : List Int} {es kn : List (E.Opn × Nat)} {nm : List Nat} {vr : E.Vr} {v1 v2 v3 v4 : Value} {kb : Nat}

theorem GrC.lt (h : GrC w b p wd es kn nm vr v1 v2 v3 v4 kb) : ∀ i, MG b v1 v2 v3 v4 kb i → i < w.heap.size := by
  rintro i (rfl | rfl | h1 | h1 | h1 | h1)
  · exact (Array.getElem?_eq_some_iff.1 h.row).1
  · exact h.km.lt
  · exact h.o1.lt _ h1
  · exact h.o2.lt _ h1
  · exact h.o3.lt _ h1
  · exact h.o4.lt _ h1
theorem GrC.frame (h : GrC w b p wd es kn nm vr v1 v2 v3 v4 kb) (hs : ∀ i, MG b v1 v2 v3 v4 kb i → w'.heap[i]? = w.heap[i]?) : GrC w' b p wd es kn nm vr v1 v2 v3 v4 kb :=
  ⟨(hs b (.inl rfl)).trans h.row, h.o1.same fun g hg => hs g (.inr (.inr (.inl hg))), h.o2.same fun g hg => hs g (.inr (.inr (.inr (.inl hg)))), h.o3.same fun g hg => hs g (.inr (.inr (.inr (.inr (.inl hg))))), h.km.keep (hs kb (.inr (.inl rfl))) (fun _ _ _ h => h), h.o4.same fun g hg => hs g (.inr (.inr (.inr (.inr (.inr hg))))), h.d12, h.d14, h.d24⟩
theorem GrC.below (h : GrC w b p wd es kn nm vr v1 v2 v3 v4 kb) (hb : Below w.heap.size w w') : GrC w' b p wd es kn nm vr v1 v2 v3 v4 kb := h.frame fun i hi => hb.block i (h.lt i hi)
theorem GrC.kpm {M : Nat → Prop} (h : GrC w b p wd es kn nm vr v1 v2 v3 v4 kb) (hb : Kpm M w w') (hM : ∀ i, MG b v1 v2 v3 v4 kb i → ¬ M i) : GrC w' b p wd es kn nm vr v1 v2 v3 v4 kb := h.frame fun i hi => hb.block i (h.lt i hi) (hM i hi)

theorem GrC.kne (h : GrC w b p wd es kn nm vr v1 v2 v3 v4 kb) : kb ≠ b := fun e => by
  obtain ⟨es', cl, h1, _⟩ := h.km
  rw [e, h.row] at h1
  cases h1
theorem GrC.ne1 (h : GrC w b p wd es kn nm vr v1 v2 v3 v4 kb) : v1.ownBlock ≠ some b := h.o1.ne_row h.row (by decide)
theorem GrC.ne2 (h : GrC w b p wd es kn nm vr v1 v2 v3 v4 kb) : v2.ownBlock ≠ some b := h.o2.ne_row h.row (by decide)
theorem GrC.ne3 (h : GrC w b p wd es kn nm vr v1 v2 v3 v4 kb) : v3.ownBlock ≠ some b := h.o3.ne_row h.row (by decide)
theorem GrC.ne4 (h : GrC w b p wd es kn nm vr v1 v2 v3 v4 kb) : v4.ownBlock ≠ some b := h.o4.ne_row h.row (by decide)
theorem GrC.nk1 (h : GrC w b p wd es kn nm vr v1 v2 v3 v4 kb) : v1.ownBlock ≠ some kb := let ⟨_, _, h1, _⟩ := h.km; h.o1.ne_map h1
theorem GrC.nk2 (h : GrC w b p wd es kn nm vr v1 v2 v3 v4 kb) : v2.ownBlock ≠ some kb := let ⟨_, _, h1, _⟩ := h.km; h.o2.ne_map h1
theorem GrC.nk3 (h : GrC w b p wd es kn nm vr v1 v2 v3 v4 kb) : v3.ownBlock ≠ some kb := let ⟨_, _, h1, _⟩ := h.km; h.o3.ne_map h1
theorem GrC.nk4 (h : GrC w b p wd es kn nm vr v1 v2 v3 v4 kb) : v4.ownBlock ≠ some kb := let ⟨_, _, h1, _⟩ := h.km; h.o4.ne_map h1
theorem GrC.n13 (h : GrC w b p wd es kn nm vr v1 v2 v3 v4 kb) : ∀ g, v1.ownBlock = some g → v3.ownBlock ≠ some g := fun g hg => let ⟨_, hc⟩ := h.o1.row_ex hg; h.o3.ne_row hc (by decide)
theorem GrC.n23 (h : GrC w b p wd es kn nm vr v1 v2 v3 v4 kb) : ∀ g, v2.ownBlock = some g → v3.ownBlock ≠ some g := fun g hg => let ⟨_, hc⟩ := h.o2.row_ex hg; h.o3.ne_row hc (by decide)
theorem GrC.n43 (h : GrC w b p wd es kn nm vr v1 v2 v3 v4 kb) : ∀ g, v4.ownBlock = some g → v3.ownBlock ≠ some g := fun g hg => let ⟨_, hc⟩ := h.o4.row_ex hg; h.o3.ne_row hc (by decide)

/-- the cells of the head -/
theorem GrC.cells (h : GrC w b p wd es kn nm vr v1 v2 v3 v4 kb) : w.cell? ⟨b, 0, none⟩ = some v1 ∧ w.cell? ⟨b, 1, none⟩ = some v2 ∧ w.cell? ⟨b, 2, none⟩ = some v3 ∧ w.cell? ⟨b, 3, none⟩ = some (.map (some kb)) ∧ w.cell? ⟨b, 4, none⟩ = some v4 := by
  refine ⟨?_, ?_, ?_, ?_, ?_⟩
  all_goals rw [cell_of_row _ _ _ _ _ (0, 0) h.row]; rfl
theorem GrC.slP (h : GrC w b p wd es kn nm vr v1 v2 v3 v4 kb) : ∃ A c, v1 = .slice A p.length c ∧ SlAt (IntR .i64) w A p.length (ini p) := by
  obtain ⟨A, c, rfl⟩ := h.o1.form
  have ho := h.o1
  rw [show ivs p = (ini p).map (Value.int .i64) by simp [ivs, ini]] at ho
  exact ⟨A, c, rfl, ho.slInts⟩
/-- find and canonical of a graph -/
theorem GrC.find (h : GrC w b p wd es kn nm vr v1 v2 v3 v4 kb) (hd : E.Down p) (c : Nat) (hc : c < p.length) : Calls Tryz.prog 100 #[.pointer (some ⟨b, 0, none⟩), .int .i64 (c : Int)] w fun e W' => e = .returned (.int .i64 (E.root p c : Nat)) ∧ W' = w := by
  obtain ⟨A, ca, rfl, hs⟩ := h.slP
  exact gfind_any h.cells.1 hs hd c hc
theorem GrC.canonical (h : GrC w b p wd es kn nm vr v1 v2 v3 v4 kb) (hd : E.Down p) {x : E.Opn} (hx : E.Ar p.length x) : Calls Tryz.prog 99 #[.pointer (some ⟨b, 0, none⟩), opV x] w fun e W' => e = .returned (opV (E.can p x)) ∧ Below w.heap.size w W' := by
  obtain ⟨A, ca, rfl, hs⟩ := h.slP
  exact gcanonical_any (h.lt b (.inl rfl)) h.cells.1 hs hd hx

/-- a new list of parents behind an append -/
theorem GrC.app1 (h : GrC w b p wd es kn nm vr v1 v2 v3 v4 kb) {v1' : Value} {c : Nat} (hown : OwnAt w' 3 1 v1' (p.length + 1) (ivs p ++ [.int .i64 (c : Int)])) (hg : w.grownBy w' v1.ownBlock) (hat : v1'.ownBlock = v1.ownBlock ∨ ∃ k, w.heap.size ≤ k ∧ v1'.ownBlock = some k) :
    GrC (w'.setCell ⟨b, 0, none⟩ v1') b (p ++ [c]) wd es kn nm vr v1' v2 v3 v4 kb := by
  have ho : ∀ i, i < w.heap.size → i ≠ b → v1.ownBlock ≠ some i → (w'.setCell ⟨b, 0, none⟩ v1').heap[i]? = w.heap[i]? := fun i hi hb h1 => by
    rw [Below.heap_setCell _ _ _ i (fun e => hb (by rw [e])), hg.block i hi (fun e => h1 e.symm)]
  have hrw : w'.heap[b]? = _ := (hg.block b (h.lt b (.inl rfl)) (fun e => h.ne1 e.symm)).trans h.row
  have hne : v1'.ownBlock ≠ some b := by
    rcases hat with e | ⟨k, hk, e⟩
    · rw [e]; exact h.ne1
    · rw [e]; intro e'; injection e' with e'; have := h.lt b (.inl rfl); omega
  have hd : ∀ {v : Value}, (∀ g, v1.ownBlock = some g → v.ownBlock ≠ some g) → (∀ g, v.ownBlock = some g → g < w.heap.size) → ∀ g, v1'.ownBlock = some g → v.ownBlock ≠ some g := fun hd hl g hg' => by
    rcases hat with e | ⟨k, hk, e⟩
    · exact hd g (e ▸ hg')
    · rw [e] at hg'; injection hg' with hg'; intro e'; have := hl g e'; omega
  refine ⟨heap_setCell_same _ b 0 _ _ v1' hrw, ?_, h.o2.same fun g hg' => ho g (h.o2.lt g hg') (fun e => h.ne2 (e ▸ hg')) (fun e => h.d12 g e hg'), h.o3.same fun g hg' => ho g (h.o3.lt g hg') (fun e => h.ne3 (e ▸ hg')) (fun e => h.n13 g e hg'), h.km.keep (ho kb h.km.lt h.kne h.nk1) (fun _ _ _ h => h), h.o4.same fun g hg' => ho g (h.o4.lt g hg') (fun e => h.ne4 (e ▸ hg')) (fun e => h.d14 g e hg'), hd h.d12 h.o2.lt, hd h.d14 h.o4.lt, h.d24⟩
  rw [List.length_append, List.length_singleton, show ivs (p ++ [c]) = ivs p ++ [.int .i64 (c : Int)] by simp [ivs]]
  exact hown.setCell hne _
/-- .. of widths -/
theorem GrC.app2 (h : GrC w b p wd es kn nm vr v1 v2 v3 v4 kb) {v2' : Value} {c : Int} (hown : OwnAt w' 3 1 v2' (wd.length + 1) (wd.map (.int .i64) ++ [.int .i64 c])) (hg : w.grownBy w' v2.ownBlock) (hat : v2'.ownBlock = v2.ownBlock ∨ ∃ k, w.heap.size ≤ k ∧ v2'.ownBlock = some k) :
    GrC (w'.setCell ⟨b, 1, none⟩ v2') b p (wd ++ [c]) es kn nm vr v1 v2' v3 v4 kb := by
  have ho : ∀ i, i < w.heap.size → i ≠ b → v2.ownBlock ≠ some i → (w'.setCell ⟨b, 1, none⟩ v2').heap[i]? = w.heap[i]? := fun i hi hb h1 => by
    rw [Below.heap_setCell _ _ _ i (fun e => hb (by rw [e])), hg.block i hi (fun e => h1 e.symm)]
  have hrw : w'.heap[b]? = _ := (hg.block b (h.lt b (.inl rfl)) (fun e => h.ne2 e.symm)).trans h.row
  have hne : v2'.ownBlock ≠ some b := by
    rcases hat with e | ⟨k, hk, e⟩
    · rw [e]; exact h.ne2
    · rw [e]; intro e'; injection e' with e'; have := h.lt b (.inl rfl); omega
  refine ⟨heap_setCell_same _ b 1 _ _ v2' hrw, h.o1.same fun g hg' => ho g (h.o1.lt g hg') (fun e => h.ne1 (e ▸ hg')) (fun e => h.d12 g hg' e), ?_, h.o3.same fun g hg' => ho g (h.o3.lt g hg') (fun e => h.ne3 (e ▸ hg')) (fun e => h.n23 g e hg'), h.km.keep (ho kb h.km.lt h.kne h.nk2) (fun _ _ _ h => h), h.o4.same fun g hg' => ho g (h.o4.lt g hg') (fun e => h.ne4 (e ▸ hg')) (fun e => h.d24 g e hg'), fun g hg' e' => ?_, h.d14, fun g hg' e' => ?_⟩
  · rw [List.length_append, List.length_singleton, List.map_append]
    exact hown.setCell hne _
  · rcases hat with e | ⟨k, hk, e⟩
    · exact h.d12 g hg' (e ▸ e')
    · rw [e] at e'; injection e' with e'; have := h.o1.lt g hg'; omega
  · rcases hat with e | ⟨k, hk, e⟩
    · exact h.d24 g (e ▸ hg') e'
    · rw [e] at hg'; injection hg' with hg'; have := h.o4.lt g e'; omega
/-- .. of entries -/
theorem GrC.app3 (h : GrC w b p wd es kn nm vr v1 v2 v3 v4 kb) {v3' : Value} {c : E.Opn × Nat} (hown : OwnAt w' 87 7 v3' (es.length + 1) (entCs es ++ entC c)) (hg : w.grownBy w' v3.ownBlock) (hat : v3'.ownBlock = v3.ownBlock ∨ ∃ k, w.heap.size ≤ k ∧ v3'.ownBlock = some k) :
    GrC (w'.setCell ⟨b, 2, none⟩ v3') b p wd (es ++ [c]) kn nm vr v1 v2 v3' v4 kb := by
  have ho : ∀ i, i < w.heap.size → i ≠ b → v3.ownBlock ≠ some i → (w'.setCell ⟨b, 2, none⟩ v3').heap[i]? = w.heap[i]? := fun i hi hb h1 => by
    rw [Below.heap_setCell _ _ _ i (fun e => hb (by rw [e])), hg.block i hi (fun e => h1 e.symm)]
  have hrw : w'.heap[b]? = _ := (hg.block b (h.lt b (.inl rfl)) (fun e => h.ne3 e.symm)).trans h.row
  have hne : v3'.ownBlock ≠ some b := by
    rcases hat with e | ⟨k, hk, e⟩
    · rw [e]; exact h.ne3
    · rw [e]; intro e'; injection e' with e'; have := h.lt b (.inl rfl); omega
  refine ⟨heap_setCell_same _ b 2 _ _ v3' hrw, h.o1.same fun g hg' => ho g (h.o1.lt g hg') (fun e => h.ne1 (e ▸ hg')) (fun e => h.n13 g hg' e), h.o2.same fun g hg' => ho g (h.o2.lt g hg') (fun e => h.ne2 (e ▸ hg')) (fun e => h.n23 g hg' e), ?_, h.km.keep (ho kb h.km.lt h.kne h.nk3) (fun _ _ _ h => h), h.o4.same fun g hg' => ho g (h.o4.lt g hg') (fun e => h.ne4 (e ▸ hg')) (fun e => h.n43 g hg' e), h.d12, h.d14, h.d24⟩
  rw [List.length_append, List.length_singleton, entCs_app, show entCs [c] = entC c by simp [entCs]]
  exact hown.setCell hne _
/-- .. of names -/
theorem GrC.app4 (h : GrC w b p wd es kn nm vr v1 v2 v3 v4 kb) {v4' : Value} {c : Nat} (hown : OwnAt w' 3 1 v4' (nm.length + 1) (ivs nm ++ [.int .i64 (c : Int)])) (hg : w.grownBy w' v4.ownBlock) (hat : v4'.ownBlock = v4.ownBlock ∨ ∃ k, w.heap.size ≤ k ∧ v4'.ownBlock = some k) :
    GrC (w'.setCell ⟨b, 4, none⟩ v4') b p wd es kn (nm ++ [c]) vr v1 v2 v3 v4' kb := by
  have ho : ∀ i, i < w.heap.size → i ≠ b → v4.ownBlock ≠ some i → (w'.setCell ⟨b, 4, none⟩ v4').heap[i]? = w.heap[i]? := fun i hi hb h1 => by
    rw [Below.heap_setCell _ _ _ i (fun e => hb (by rw [e])), hg.block i hi (fun e => h1 e.symm)]
  have hrw : w'.heap[b]? = _ := (hg.block b (h.lt b (.inl rfl)) (fun e => h.ne4 e.symm)).trans h.row
  have hne : v4'.ownBlock ≠ some b := by
    rcases hat with e | ⟨k, hk, e⟩
    · rw [e]; exact h.ne4
    · rw [e]; intro e'; injection e' with e'; have := h.lt b (.inl rfl); omega
  refine ⟨heap_setCell_same _ b 4 _ _ v4' hrw, h.o1.same fun g hg' => ho g (h.o1.lt g hg') (fun e => h.ne1 (e ▸ hg')) (fun e => h.d14 g hg' e), h.o2.same fun g hg' => ho g (h.o2.lt g hg') (fun e => h.ne2 (e ▸ hg')) (fun e => h.d24 g hg' e), h.o3.same fun g hg' => ho g (h.o3.lt g hg') (fun e => h.ne3 (e ▸ hg')) (fun e => h.n43 g e hg'), h.km.keep (ho kb h.km.lt h.kne h.nk4) (fun _ _ _ h => h), ?_, h.d12, fun g hg' e' => ?_, fun g hg' e' => ?_⟩
  · rw [List.length_append, List.length_singleton, show ivs (nm ++ [c]) = ivs nm ++ [.int .i64 (c : Int)] by simp [ivs]]
    exact hown.setCell hne _
  · rcases hat with e | ⟨k, hk, e⟩
    · exact h.d14 g hg' (e ▸ e')
    · rw [e] at e'; injection e' with e'; have := h.o1.lt g hg'; omega
  · rcases hat with e | ⟨k, hk, e⟩
    · exact h.d24 g hg' (e ▸ e')
    · rw [e] at e'; injection e' with e'; have := h.o2.lt g hg'; omega
/-- what is known turns -/
theorem GrC.know (h : GrC w b p wd es kn nm vr v1 v2 v3 v4 kb) {kn' : List (E.Opn × Nat)} (hg : w.grownBy w' (some kb)) (hm : MapAt Tryz.prog 85 opV NatE w' kb kn') : GrC w' b p wd es kn' nm vr v1 v2 v3 v4 kb := by
  have ho : ∀ i, i < w.heap.size → i ≠ kb → w'.heap[i]? = w.heap[i]? := fun i hi hb => hg.block i hi (fun e => hb (by injection e))
  exact ⟨(ho b (h.lt b (.inl rfl)) (fun e => h.kne e.symm)).trans h.row, h.o1.same fun g hg' => ho g (h.o1.lt g hg') (fun e => h.nk1 (e ▸ hg')), h.o2.same fun g hg' => ho g (h.o2.lt g hg') (fun e => h.nk2 (e ▸ hg')), h.o3.same fun g hg' => ho g (h.o3.lt g hg') (fun e => h.nk3 (e ▸ hg')), hm, h.o4.same fun g hg' => ho g (h.o4.lt g hg') (fun e => h.nk4 (e ▸ hg')), h.d12, h.d14, h.d24⟩
end
end Go.Proofs.YtcmlmjbpdaecbaaGreat
end
section
namespace Go.Proofs.YtcmlmjbpdaecbaaGreat
open Go.RowKit Go.MapKept Go.Maps Go.WideMaps
set_option linter.unusedVariables false
set_option linter.unusedSimpArgs false

theorem infoEnt : (Tryz.prog.info? 87).map (fun i => (i.zero, i.size, i.bytes)) = some (some (.agg #[.int .i64 0, .int .i64 0, .int .u32 0, .int .i64 0, .int .i64 0, .int .i64 0, .int .i64 0]), 7, 56) := by kernel_rfl
theorem entC_one (e : E.Opn × Nat) : ∀ u ∈ entC e, u.oneCell' = true := by
  intro u hu
  simp [entC] at hu
  rcases hu with rfl | rfl | rfl | rfl | rfl | rfl | rfl <;> rfl
theorem arOk_i64 {n : Nat} (hn : n ≤ 1000000000) {a : Int} (h : E.ArOk n a) : I64 a := by
  rcases h with rfl | ⟨h1, h2⟩
  · exact ⟨by decide, by decide⟩
  · exact ⟨by omega, by omega⟩
theorem owf_can {p : List Nat} {x : E.Opn} (hw : OWf x) (hx : E.Ar p.length x) (hn : p.length ≤ 1000000000) : OWf (E.can p x) := by
  have h := E.ar_can hx
  exact ⟨hw.op, hw.w, hw.imm, arOk_i64 hn h.1, arOk_i64 hn h.2.1, arOk_i64 hn h.2.2⟩
def lookN (o : Option Nat) : Int := match o with
  | some c => (c : Int)
  | none => 0
theorem look_op {w : World} {kb : Nat} {kn : List (E.Opn × Nat)} (h : MapAt Tryz.prog 85 opV NatE w kb kn) {k : E.Opn} (hk : OWf k) (w' : World) (hw : w'.heap[kb]? = w.heap[kb]?) :
    (Instr.lookup 77 (.map (some kb)) (opV k) true).run Tryz.prog w' = .ok (.tuple #[.int .i64 (lookN (AL.get kn k)), .bool (AL.get kn k).isSome]) w' := by
  obtain ⟨kl, hkl⟩ := keyOf_op hk
  have hz : ∀ w, (zeroValue 3).run Tryz.prog w = .ok (.int .i64 0) w := fun w => by go_simp
  obtain ⟨u, _, h2, h3⟩ := (h.keep (R' := NatE) hw (fun _ _ _ h => h)).lookup opKeyed opV_inj Tryz.underlying77 (hz w') hkl
  rw [h2]
  rcases h3 with ⟨h3, h4⟩ | ⟨a, h3, h4⟩
  · rw [h3, h4]; rfl
  · rw [h3, show u = _ from h4]; rfl

/-- behind put -/
structure PutPost (W : World) (b : Nat) (s : E.Gr) (x : E.Opn) (v1 v2 v3 v4 : Value) (kb : Nat) (e : Ending) (W' : World) (v1' v2' v3' : Value) : Prop where
  ret : e = .returned (.tuple #[.int .i64 ((s.put x).2.1 : Int), .bool (s.put x).2.2])
  gr : GrC W' b (s.put x).1.p (s.put x).1.wd (s.put x).1.es (s.put x).1.es (s.put x).1.nm (s.put x).1.vr v1' v2' v3' v4 kb
  kp : Kpm (MG b v1 v2 v3 v4 kb) W W'
  new : ∀ i, MG b v1' v2' v3' v4 kb i → MG b v1 v2 v3 v4 kb i ∨ W.heap.size ≤ i

theorem grown_row {w w' : World} {b : Nat} {o : Obj} {r : Option Nat} (h : w.grownBy w' r) (hr : w.heap[b]? = some o) (hne : r ≠ some b) : w'.heap[b]? = some o :=
  (h.block b (Array.getElem?_eq_some_iff.1 hr).1 (fun e => hne e.symm)).trans hr

theorem AL_get_none {κ α : Type} [DecidableEq κ] {l : List (κ × α)} {k : κ} (h : AL.get l k = none) : ∀ p ∈ l, p.1 ≠ k := by
  induction l with
  | nil => intro p hp; cases hp
  | cons q l ih =>
    unfold AL.get at h
    split at h
    · cases h
    · rename_i hne
      intro p hp
      rcases List.mem_cons.1 hp with rfl | hp
      · exact hne
      · exact ih h p hp
/-- the operation lies in its box; what is not the graph's stays -/
structure PMid (W : World) (M : Nat → Prop) (q : E.Opn) (w : World) : Prop where
  kp : Kpm M W w
  row : w.heap[W.heap.size]? = some (.cells (opC q) 85 (0, 0))
theorem PMid.app {W : World} {M : Nat → Prop} {q : E.Opn} {w w' : World} {o : Obj} {r : Option Nat} (h : PMid W M q w) (hgr : (w.alloc o).grownBy w' r) (hr : ∀ i, r = some i → M i) (hM : ∀ i, M i → i < W.heap.size) {b : Nat} (hb : M b) (i : Nat) (u : Value) : PMid W M q (w'.setCell ⟨b, i, none⟩ u) := by
  have hbW := hM b hb
  refine ⟨(((h.kp.alloc o).trans (Kpm.grown hgr hr) (fun _ _ h => h)).setCell (p := ⟨b, i, none⟩) (fun _ => hb) u), ?_⟩
  rw [Below.heap_setCell _ _ _ _ (by show W.heap.size ≠ b; omega)]
  exact grown_row hgr (row_alloc h.row o) (fun e => by have := hM _ (hr _ e); omega)
theorem PMid.upd {W : World} {M : Nat → Prop} {q : E.Opn} {w w' : World} {k : Nat} (h : PMid W M q w) (hgr : w.grownBy w' (some k)) (hk : M k) (hM : ∀ i, M i → i < W.heap.size) : PMid W M q w' :=
  ⟨h.kp.trans (Kpm.grown hgr (fun i e => by cases e; exact hk)) (fun _ _ h => h), grown_row hgr h.row (fun e => by have := hM _ hk; injection e with e; omega)⟩
theorem undrew {w w' : World} {r : Option Nat} (h : w.drew.grownBy w' r) : w.grownBy w' r := ⟨h.os, h.tape, h.output, h.size, h.block⟩
theorem hat_ex {w : World} {v v' : Value} {o : Obj} (h : v'.ownBlock = v.ownBlock ∨ v'.ownBlock = some (w.heap.size + 1)) : v'.ownBlock = v.ownBlock ∨ ∃ k, (w.alloc o).heap.size ≤ k ∧ v'.ownBlock = some k := h.imp id fun h => ⟨_, by simp, h⟩
theorem hat_ex2 {w : World} {v v' : Value} {o : Obj} (h : v'.ownBlock = v.ownBlock ∨ v'.ownBlock = some (w.alloc o).drew.heap.size) : v'.ownBlock = v.ownBlock ∨ ∃ k, (w.alloc o).heap.size ≤ k ∧ v'.ownBlock = some k := h.imp id fun h => ⟨_, Nat.le_refl _, h⟩
theorem hat_new {w W : World} {v v' : Value} {M : Nat → Prop} (h : v'.ownBlock = v.ownBlock ∨ ∃ k, w.heap.size ≤ k ∧ v'.ownBlock = some k) (hs : W.heap.size ≤ w.heap.size) (hM : ∀ i, v.ownBlock = some i → M i) : ∀ i, v'.ownBlock = some i → M i ∨ W.heap.size ≤ i := fun i hi => by
  rcases h with e | ⟨k, hk, e⟩
  · exact .inl (hM i (e ▸ hi))
  · rw [e] at hi; injection hi with hi; exact .inr (by omega)

theorem E.Gr.put_some {s : E.Gr} {x : E.Opn} {c : Nat} (h : AL.get s.es (E.can s.p x) = some c) : s.put x = (s, E.root s.p c, false) := by
  unfold E.Gr.put; rw [h]
theorem E.Gr.put_none {s : E.Gr} {x : E.Opn} (h : AL.get s.es (E.can s.p x) = none) : s.put x = ({ s with p := s.p ++ [s.p.length], wd := s.wd ++ [x.w], es := s.es ++ [(E.can s.p x, s.p.length)] }, s.p.length, true) := by
  unfold E.Gr.put; rw [h]

set_option maxRecDepth 100000 in
set_option maxHeartbeats 4000000 in
theorem gput_any {W : World} {b : Nat} {s : E.Gr} {v1 v2 v3 v4 : Value} {kb : Nat} (h : GrC W b s.p s.wd s.es s.es s.nm s.vr v1 v2 v3 v4 kb) (ok : s.Ok) {x : E.Opn} (hx : E.Ar s.p.length x) (hw : OWf x) (hn : s.p.length ≤ 900000) (he : s.es.length ≤ 900000) :
    Calls Tryz.prog 67 #[.pointer (some ⟨b, 0, none⟩), opV x] W fun e W' => ∃ v1' v2' v3', PutPost W b s x v1 v2 v3 v4 kb e W' v1' v2' v3' := by
  obtain ⟨W2, hW2⟩ : ∃ W2, W2 = W.alloc (.cells #[.int .i64 x.op, .int .i64 x.w, .int .u32 x.imm, .int .i64 x.a0, .int .i64 x.a1, .int .i64 x.a2] 85) := ⟨_, rfl⟩
  have hb2 : Below W.heap.size W W2 := by rw [hW2]; exact (Below.refl _ _).alloc (Nat.le_refl _) _
  have hr0 : W2.heap[W.heap.size]? = some (.cells (opC x) 85 (0, 0)) := by rw [hW2]; exact heap_alloc_new W _
  have h2 := h.below hb2
  have hcan := h2.canonical ok.down hx
  unfold opV at hcan
  have Hcan := Lib.hid hcan
  have H := Lib.hid h
  have Ok := Lib.hid ok
  have Hx := Lib.hid hx
  have Hw := Lib.hid hw
  have Hb2 := Lib.hid hb2
  have Hr0 := Lib.hid hr0
  obtain ⟨y0, y1, y2, y3, y4, y5⟩ := op6_cells hr0
  have Hbs := Lib.hid (h.lt b (.inl rfl))
  clear h ok hx hw hb2 hr0 h2 hcan
  unfold opV
  go_enter Tryz.func67, Tryz.ntmps67
  go_wp2_with fail
  rw [← hW2]
  go_wp2_with fail
  clear hW2 y0 y1 y2 y3 y4 y5
  (with_reducible refine Hcan.out.mono ?_)
  rintro e w3 ⟨rfl, hb3⟩
  have hr3 := row_step (Lib.hid hb3) Hr0.out
  unfold opC at hr3
  have z0 := frozen_row hr3 0
  have z1 := frozen_row hr3 1
  have z2 := frozen_row hr3 2
  have z3 := frozen_row hr3 3
  have z4 := frozen_row hr3 4
  have z5 := frozen_row hr3 5
  obtain ⟨y0, y1, y2, y3, y4, y5⟩ := op6_cells hr3
  have Hr3 := Lib.hid hr3
  have Hb3 := Lib.hid (Hb2.out.trans (hb3.mono Hb2.out.size))
  obtain ⟨q, hq⟩ : ∃ q, E.can s.p x = q := ⟨_, rfl⟩
  rw [hq]
  have Hq := Lib.hid hq
  have Hqw := Lib.hid (show OWf q from by rw [← hq]; exact owf_can Hw.out Hx.out (by omega))
  clear hr3 hb3 hq
  go_upto_region 2 with (fail)
  clear y0 y1 y2 y3 y4 y5 z0 z1 z2 z3 z4 z5
  obtain ⟨X, hX⟩ : ∃ X, X = (((((w3.setCell ⟨W.heap.size, 0, none⟩ (.int .i64 q.op)).setCell ⟨W.heap.size, 1, none⟩ (.int .i64 q.w)).setCell ⟨W.heap.size, 2, none⟩ (.int .u32 q.imm)).setCell ⟨W.heap.size, 3, none⟩ (.int .i64 q.a0)).setCell ⟨W.heap.size, 4, none⟩ (.int .i64 q.a1)).setCell ⟨W.heap.size, 5, none⟩ (.int .i64 q.a2) := ⟨_, rfl⟩
  rw [← hX]
  have hrX : X.heap[W.heap.size]? = some (.cells (opC q) 85 (0, 0)) := by rw [hX]; exact set6_row Hr3.out _ _ _ _ _ _
  have HbX := Lib.hid (show Below W.heap.size W X from by rw [hX]; exact set6_below Hb3.out (Nat.le_refl _) _ _ _ _ _ _)
  have hgX := H.out.below HbX.out
  have HgX := Lib.hid hgX
  have HrX := Lib.hid hrX
  clear hX Hr3 Hb3 Hr0 Hb2
  unfold opC at hrX
  obtain ⟨y0, y1, y2, y3, y4, y5⟩ := op6_cells hrX
  obtain ⟨_, _, _, k3, _⟩ := hgX.cells
  have hlk := fun w' => look_op hgX.km Hqw.out w'
  clear hrX hgX
  obtain ⟨ov⟩ := ov_ex X
  have k3o := ov.cell k3
  have z0 := ov.cell y0
  have z1 := ov.cell y1
  have z2 := ov.cell y2
  have z3 := ov.cell y3
  have z4 := ov.cell y4
  have z5 := ov.cell y5
  have hlo := fun u => hlk (ov.f u) ((ov.below u).block kb HgX.out.km.lt)
  obtain ⟨o, ho⟩ : ∃ o, AL.get s.es q = o := ⟨_, rfl⟩
  rw [ho] at hlo
  have Ho := Lib.hid ho
  unfold opV at hlo
  clear hlk k3 y0 y1 y2 y3 y4 y5 ho
  refine wp_region_ovq ov (by kernel_rfl) (by kernel_rfl) ?_
  repeat (go_big_quiet_step (fail))
  refine wpQuiet_nil ?_
  rintro _ ⟨u, rfl⟩
  have Hbo := Lib.hid (ov.below u)
  clear hlo k3o z0 z1 z2 z3 z4 z5
  generalize ov.f u = w4 at *
  have Hr4 := Lib.hid (row_step Hbo HrX.out)
  have Hg4 := Lib.hid (HgX.out.below Hbo.out)
  have Hb4 := Lib.hid (HbX.out.trans (Hbo.out.mono HbX.out.size))
  clear Hbo HrX HgX HbX
  cases o with
  | some c =>
    have hcl := Ok.out.inn _ (E.get_in Ho.out)
    have Hf := Lib.hid (Hg4.out.find Ok.out.down c hcl)
    have Hc := Lib.hid hcl
    clear hcl
    rw [show lookN (some c) = (c : Int) from rfl, show (some c).isSome = true from rfl]
    go_wp2_with fail
    (with_reducible refine Hf.out.mono ?_)
    rintro e w5 ⟨rfl, rfl⟩
    go_wp2
    refine bodyPost_ret (results_tmp2 rfl _ _ _) rfl ?_
    have hp := E.Gr.put_some (s := s) (x := x) (by rw [Hq.out]; exact Ho.out)
    refine ⟨v1, v2, v3, ?_, ?_, Kpm.of_below Hb4.out _, fun i hi => .inl hi⟩
    · rw [hp]; rfl
    · rw [hp]; exact Hg4.out
  | none =>
    rw [show lookN none = (0 : Int) from rfl, show (none : Option Nat).isSome = false from rfl]
    obtain ⟨A1, c1, rfl⟩ := Hg4.out.o1.form
    obtain ⟨k0, _, _, _, _⟩ := Hg4.out.cells
    have Ho1 := Lib.hid Hg4.out.o1
    have hnW := Hg4.out.ne1
    have HnW := Lib.hid hnW
    clear hnW
    go_wp2_with (at_builtin; refine wpList_append_one' rfl (.tmp 34) (.tmp 36) 60 rfl 3 (.int .i64 0) 8 Tryz.underlying60 infoInt rfl _ s.p.length _ rfl Ho1.out (.int .i64 (s.p.length : Int)) rfl 3 w4.heap.size rfl rfl (by omega) (by omega) ?_; intro v1' w5 hown' hgr hat; obtain ⟨A1', c1', rfl⟩ := hown'.form; have Hown' := Lib.hid hown'; have Hgr := Lib.hid hgr; have Hat := Lib.hid hat; have kc := cell_of_row w5 b 0 _ _ (0, 0) (grown_row hgr (row_alloc Hg4.out.row _) HnW.out); have kf := frozen_row (grown_row hgr (row_alloc Hg4.out.row _) HnW.out) 0; simp only [List.getElem?_toArray, List.getElem?_cons_zero] at kc; clear hown' hgr hat)
    have Hg4a := Lib.hid (Hg4.out.below (w' := w4.alloc (.cells #[.int .i64 (s.p.length : Int)] 3)) ((Below.refl _ _).alloc (Nat.le_refl _) _))
    have Hat1 := Lib.hid (hat_ex (o := .cells #[.int .i64 (s.p.length : Int)] 3) Hat.out)
    have HM := Lib.hid (show ∀ i, MG b (.slice A1 s.p.length c1) v2 v3 v4 kb i → i < W.heap.size from H.out.lt)
    have Hm4 := Lib.hid (show PMid W (MG b (.slice A1 s.p.length c1) v2 v3 v4 kb) q w4 from ⟨Kpm.of_below Hb4.out _, Hr4.out⟩)
    have Hm6 := Lib.hid (Hm4.out.app Hgr.out (fun i e => .inr (.inr (.inl e))) HM.out (.inl rfl) 0 (.slice A1' (s.p.length + 1) c1'))
    have Hg6 := Lib.hid (Hg4a.out.app1 Hown'.out Hgr.out Hat1.out)
    have Hw4 := Lib.hid (show W.heap.size ≤ (w4.alloc (.cells #[.int .i64 (s.p.length : Int)] 3)).heap.size from by have := Hb4.out.size; simp; omega)
    have Hn1 := Lib.hid (hat_new Hat1.out Hw4.out (M := MG b (.slice A1 s.p.length c1) v2 v3 v4 kb) (fun i e => .inr (.inr (.inl e))))
    obtain ⟨w6, hw6⟩ : ∃ w6, w6 = w5.setCell ⟨b, 0, none⟩ (.slice A1' (s.p.length + 1) c1') := ⟨_, rfl⟩
    rw [← hw6] at Hm6 Hg6 ⊢
    clear hw6 Hown' Hgr Hat Hat1 Hg4a Hw4 kc kf k0 Hg4 Hr4 Hb4 HnW Ho1
    -- the width
    obtain ⟨A2, c2, rfl⟩ := Hg6.out.o2.form
    obtain ⟨M, hMM⟩ : ∃ M, M = MG b (.slice A1 s.p.length c1) (.slice A2 s.wd.length c2) v3 v4 kb := ⟨_, rfl⟩
    have HMb := Lib.hid (show M b ∧ M kb ∧ (∀ i, (Value.slice A2 s.wd.length c2).ownBlock = some i → M i) ∧ (∀ i, v3.ownBlock = some i → M i) ∧ (∀ i, v4.ownBlock = some i → M i) from by rw [hMM]; exact ⟨.inl rfl, .inr (.inl rfl), fun i e => .inr (.inr (.inr (.inl e))), fun i e => .inr (.inr (.inr (.inr (.inl e)))), fun i e => .inr (.inr (.inr (.inr (.inr e))))⟩)
    rw [← hMM] at HM Hm6 Hn1
    have HMM := Lib.hid hMM
    clear hMM
    have HsW := Lib.hid Hm6.out.kp.size
    have Hwd := Lib.hid (show s.wd.length + 1 ≤ 1000000000 from by have := Ok.out.wd; omega)
    go_cut [8] (fun s8 wx => ∃ v2', s8 = .int .i64 (s.p.length : Int) ∧ Hid (PMid W M q wx) ∧ Hid (GrC wx b (s.p ++ [s.p.length]) (s.wd ++ [q.w]) s.es s.es s.nm s.vr (.slice A1' (s.p.length + 1) c1') v2' v3 v4 kb) ∧ Hid (∀ i, v2'.ownBlock = some i → M i ∨ W.heap.size ≤ i))
    case first =>
      have hr6 := Hm6.out.row
      unfold opC at hr6
      obtain ⟨_, y1, _, _, _, _⟩ := op6_cells hr6
      have y1' : (w6.alloc (.cells #[.int .i64 q.w] 3)).cell? ⟨W.heap.size, 1, none⟩ = some (.int .i64 q.w) := by rw [cell_of_row _ _ _ _ _ (0, 0) (row_alloc hr6 _)]; rfl
      obtain ⟨_, k1, _, _, _⟩ := Hg6.out.cells
      have k1' : (w6.alloc (.cells #[.int .i64 q.w] 3)).cell? ⟨b, 1, none⟩ = some (.slice A2 s.wd.length c2) := by rw [cell_of_row _ _ _ _ _ (0, 0) (row_alloc Hg6.out.row _)]; rfl
      have HW := Lib.hid (show Below w6.heap.size w6 ((w6.alloc (.cells #[.int .i64 q.w] 3)).drew) from ((Below.refl _ _).alloc (Nat.le_refl _) _).drew)
      have Hne2 := Lib.hid Hg6.out.ne2
      have Hrb := Lib.hid (show ((w6.alloc (.cells #[.int .i64 q.w] 3)).drew).heap[b]? = _ from row_alloc Hg6.out.row _)
      clear hr6
      go_region_law (first
        | (refine step_append_src _ rfl (.tmp 44) (.tmp 47) 60 rfl 3 (.int .i64 0) 1 8 Tryz.underlying60 infoInt rfl (by decide) (.slice A2 s.wd.length c2) s.wd.length _ rfl (Hg6.out.o2.same (fun g hg => HW.out.block g (Hg6.out.o2.lt g hg))) (some ⟨w6.heap.size, 0, none⟩) 1 1 [.int .i64 q.w] rfl rfl (src_new w6 [.int .i64 q.w] 3) (by simp; rfl) Hwd.out (by decide) ?_
           intro v' w7 hown7 hgr7 hat7
           obtain ⟨A7, c7, rfl⟩ := hown7.form
           have kc := cell_of_row w7 b 1 _ _ (0, 0) (grown_row hgr7 Hrb.out Hne2.out)
           have kfr := frozen_row (grown_row hgr7 Hrb.out Hne2.out) 1
           have Hown7 := Lib.hid hown7
           have Hgr7 := Lib.hid (undrew hgr7)
           have Hat7 := Lib.hid (hat_ex2 hat7)
           clear hown7 hgr7 hat7
           simp only [List.getElem?_toArray, List.getElem?_cons_zero, List.getElem?_cons_succ] at kc))
      all_goals
        go_wp2_with fail
        go_meet
        exact ⟨.slice A7 (s.wd.length + 1) c7, rfl, Lib.hid (Hm6.out.app Hgr7.out HMb.out.2.2.1 HM.out HMb.out.1 1 _), Lib.hid ((Hg6.out.below ((Below.refl _ _).alloc (Nat.le_refl _) _)).app2 Hown7.out Hgr7.out Hat7.out), Lib.hid (hat_new Hat7.out (by have := HsW.out; simp; omega) HMb.out.2.2.1)⟩
    case rest =>
    obtain ⟨v2', rfl, Hm8, Hg8, Hn2⟩ := hcut
    obtain ⟨w8, hw8⟩ : ∃ w8, w8 = wc := ⟨_, rfl⟩
    rw [← hw8] at Hm8 Hg8 ⊢
    clear Hm6 Hg6 HsW Hwd hw8
    -- the entry
    obtain ⟨A3, c3, rfl⟩ := Hg8.out.o3.form
    have HsW := Lib.hid Hm8.out.kp.size
    have Hes := Lib.hid (show s.es.length + 1 ≤ 1000000000 from by omega)
    go_upto_region 8 with fail
    go_cut [8] (fun s8 wx => ∃ v3', s8 = .int .i64 (s.p.length : Int) ∧ Hid (PMid W M q wx) ∧ Hid (GrC wx b (s.p ++ [s.p.length]) (s.wd ++ [q.w]) (s.es ++ [(q, s.p.length)]) s.es s.nm s.vr (.slice A1' (s.p.length + 1) c1') v2' v3' v4 kb) ∧ Hid (∀ i, v3'.ownBlock = some i → M i ∨ W.heap.size ≤ i))
    case first =>
      have hr8 := Hm8.out.row
      unfold opC at hr8
      obtain ⟨y0, y1, y2, y3, y4, y5⟩ := op6_cells hr8
      obtain ⟨e0, e1, e2, e3, e4, e5⟩ := op6_cells (row_alloc hr8 (.cells (entC (q, s.p.length)).toArray 87))
      obtain ⟨_, _, k2, _, _⟩ := Hg8.out.cells
      have k2' : (w8.alloc (.cells (entC (q, s.p.length)).toArray 87)).cell? ⟨b, 2, none⟩ = some (.slice A3 s.es.length c3) := by rw [cell_of_row _ _ _ _ _ (0, 0) (row_alloc Hg8.out.row _)]; rfl
      have HW := Lib.hid (show Below w8.heap.size w8 ((w8.alloc (.cells (entC (q, s.p.length)).toArray 87)).drew) from ((Below.refl _ _).alloc (Nat.le_refl _) _).drew)
      have Hne3 := Lib.hid Hg8.out.ne3
      have Hrb := Lib.hid (show ((w8.alloc (.cells (entC (q, s.p.length)).toArray 87)).drew).heap[b]? = _ from row_alloc Hg8.out.row _)
      clear hr8
      unfold entC at e0 e1 e2 e3 e4 e5 k2'
      go_region_law (first
        | (refine step_append_src _ rfl (.tmp 55) (.tmp 59) 76 rfl 87 (.agg #[.int .i64 0, .int .i64 0, .int .u32 0, .int .i64 0, .int .i64 0, .int .i64 0, .int .i64 0]) 7 56 Tryz.underlying76 infoEnt rfl (by decide) (.slice A3 s.es.length c3) s.es.length _ rfl (Hg8.out.o3.same (fun g hg => HW.out.block g (Hg8.out.o3.lt g hg))) (some ⟨w8.heap.size, 0, none⟩) 1 1 (entC (q, s.p.length)) rfl rfl (src_new w8 (entC (q, s.p.length)) 87) (entC_one _) Hes.out (by decide) ?_
           intro v' w9 hown7 hgr7 hat7
           obtain ⟨A7, c7, rfl⟩ := hown7.form
           have kc := cell_of_row w9 b 2 _ _ (0, 0) (grown_row hgr7 Hrb.out Hne3.out)
           have kfr := frozen_row (grown_row hgr7 Hrb.out Hne3.out) 2
           have Hown7 := Lib.hid hown7
           have Hgr7 := Lib.hid (undrew hgr7)
           have Hat7 := Lib.hid (hat_ex2 hat7)
           clear hown7 hgr7 hat7
           simp only [List.getElem?_toArray, List.getElem?_cons_zero, List.getElem?_cons_succ] at kc))
      all_goals
        go_wp2_with fail
        go_meet
        exact ⟨.slice A7 (s.es.length + 1) c7, rfl, Lib.hid (Hm8.out.app Hgr7.out HMb.out.2.2.2.1 HM.out HMb.out.1 2 _), Lib.hid ((Hg8.out.below ((Below.refl _ _).alloc (Nat.le_refl _) _)).app3 Hown7.out Hgr7.out Hat7.out), Lib.hid (hat_new Hat7.out (by have := HsW.out; simp; omega) HMb.out.2.2.2.1)⟩
    case rest =>
    obtain ⟨v3', rfl, Hm9, Hg9, Hn3⟩ := hcut
    obtain ⟨w9, hw9⟩ : ∃ w9, w9 = wc := ⟨_, rfl⟩
    rw [← hw9] at Hm9 Hg9 ⊢
    clear Hm8 Hg8 HsW Hes hw9
    -- what is known
    go_upto_region 9 with fail
    obtain ⟨kl, hkl⟩ := keyOf_op Hqw.out
    obtain ⟨w10, hupd, hgr, hsz, hM⟩ := (Hg9.out.km.keep (w' := w9.drew) (R' := NatE) rfl (fun _ _ _ h => h)).update opKeyed opV_inj Tryz.underlying77 hkl (.int .i64 (s.p.length : Int))
    have hgr' := undrew hgr
    have Hg10 := Lib.hid (Hg9.out.know hgr' (by
      have := hM NatE s.p.length (fun _ _ _ _ h => h) rfl
      rw [AL.put_none (fun e he h => by
        have h1 := AL_get_none Ho.out e he
        exact h1 h)] at this
      exact this))
    have Hm10 := Lib.hid (Hm9.out.upd hgr' HMb.out.2.1 HM.out)
    have hr9 := Hm9.out.row
    unfold opC at hr9
    obtain ⟨y0, y1, y2, y3, y4, y5⟩ := op6_cells hr9
    obtain ⟨_, _, _, k3, _⟩ := Hg9.out.cells
    unfold opV at hupd
    clear hgr hgr' hsz hM hkl hr9
    go_region
    clear hupd y0 y1 y2 y3 y4 y5 k3
    go_wp2
    refine bodyPost_ret (results_tmp2 rfl _ _ _) rfl ?_
    have hp := E.Gr.put_none (s := s) (x := x) (by rw [Hq.out]; exact Ho.out)
    have hqw : q.w = x.w := by rw [← Hq.out]; rfl
    have hg := Hg10.out
    rw [hqw] at hg
    refine ⟨.slice A1' (s.p.length + 1) c1', v2', v3', ?_, ?_, ?_, ?_⟩
    · rw [hp]; rfl
    · rw [hp, Hq.out]; exact hg
    · rw [← HMM.out]; exact Hm10.out.kp
    · rw [← HMM.out]
      rintro i (rfl | rfl | e | e | e | e)
      · exact .inl HMb.out.1
      · exact .inl HMb.out.2.1
      · exact Hn1.out i e
      · exact Hn2.out i e
      · exact Hn3.out i e
      · exact .inl (HMb.out.2.2.2.2 i e)
end Go.Proofs.YtcmlmjbpdaecbaaGreat
end
