/- Graphs (the program): how a graph lies in memory. -/
import Derived.Test.YtcmlmjbpdaecbaaP16
set_option linter.unusedVariables false
set_option linter.unusedSimpArgs false
namespace Go.Proofs.Ytcmlmjbpdaecbaa
open Go.RowKit Go.MapKept Go.Maps Go.WideMaps
set_option linter.unusedVariables false
set_option linter.unusedSimpArgs false

/-- an entry as seven cells -/
def entC (e : E.Opn × Nat) : List Value := [.int .i64 e.1.op, .int .i64 e.1.w, .int .u32 e.1.imm, .int .i64 e.1.a0, .int .i64 e.1.a1, .int .i64 e.1.a2, .int .i64 (e.2 : Int)]
def entCs (l : List (E.Opn × Nat)) : List Value := l.flatMap entC
theorem entCs_len (l : List (E.Opn × Nat)) : (entCs l).length = l.length * 7 := by
  induction l with
  | nil => rfl
  | cons e l ih =>
    show (entC e ++ entCs l).length = _
    rw [List.length_append, ih]
    simp [entC]; omega
theorem entCs_app (l m : List (E.Opn × Nat)) : entCs (l ++ m) = entCs l ++ entCs m := by simp [entCs]
theorem entCs_at : ∀ {l : List (E.Opn × Nat)} {k : Nat} {e : E.Opn × Nat}, l[k]? = some e → ∀ i, i < 7 → (entCs l)[k * 7 + i]? = (entC e)[i]? := by
  intro l
  induction l with
  | nil => intro k e h; simp at h
  | cons x l ih =>
    intro k e h i hi
    show (entC x ++ entCs l)[k * 7 + i]? = _
    have hx : (entC x).length = 7 := rfl
    cases k with
    | zero =>
      simp at h
      subst h
      rw [Nat.zero_mul, Nat.zero_add, List.getElem?_append_left (by omega)]
    | succ k =>
      rw [List.getElem?_append_right (by omega), hx, show (k + 1) * 7 + i - 7 = k * 7 + i by omega]
      exact ih (by simpa using h) i hi

section
variable {w w' : World} {e : TypeId} {s n : Nat} {v : Value} {xs : List Value}
theorem OwnAt.row_ex (h : OwnAt w e s v n xs) {g : Nat} (hg : v.ownBlock = some g) : ∃ cur, w.heap[g]? = some (.cells cur e (0, 0)) := by
  rcases h.2 with ⟨rfl, _⟩ | ⟨g', off, cap, cur, rfl, hgg, _⟩
  · simp [Value.ownBlock] at hg
  · simp [Value.ownBlock] at hg
    subst hg
    exact ⟨cur, hgg⟩
theorem OwnAt.ne_row (h : OwnAt w e s v n xs) {b : Nat} {cs : Array Value} {T : TypeId} {fr : Nat × Nat} (hb : w.heap[b]? = some (.cells cs T fr)) (hT : T ≠ e) : v.ownBlock ≠ some b := fun hg => by
  obtain ⟨cur, hc⟩ := h.row_ex hg
  rw [hb] at hc
  injection hc with hc
  injection hc with _ hc _
  exact hT hc
theorem OwnAt.ne_map (h : OwnAt w e s v n xs) {b : Nat} {es : Array MapEntry} {cl : Nat} (hb : w.heap[b]? = some (.map es cl)) : v.ownBlock ≠ some b := fun hg => by
  obtain ⟨cur, hc⟩ := h.row_ex hg
  rw [hb] at hc
  cases hc
end

/-- the parts of a graph as they lie in memory: parents, widths, entries, what is known, names, the widths of variables -/
structure GrC (w : World) (b : Nat) (p : List Nat) (wd : List Int) (es kn : List (E.Opn × Nat)) (nm : List Nat) (vr : E.Vr) (v1 v2 v3 v4 : Value) (kb : Nat) : Prop where
  row : w.heap[b]? = some (.cells #[v1, v2, v3, .map (some kb), v4, .int .i64 vr.a, .int .i64 vr.b, .int .i64 vr.c, .int .i64 vr.d] 50 (0, 0))
  o1 : OwnAt w 3 1 v1 p.length (ivs p)
  o2 : OwnAt w 3 1 v2 wd.length (wd.map (.int .i64))
  o3 : OwnAt w 76 7 v3 es.length (entCs es)
  km : MapAt Try.prog 59 opV NatE w kb kn
  o4 : OwnAt w 3 1 v4 nm.length (ivs nm)
  d12 : ∀ g, v1.ownBlock = some g → v2.ownBlock ≠ some g
  d14 : ∀ g, v1.ownBlock = some g → v4.ownBlock ≠ some g
  d24 : ∀ g, v2.ownBlock = some g → v4.ownBlock ≠ some g

/-- the blocks of a graph -/
def MG (b : Nat) (v1 v2 v3 v4 : Value) (kb i : Nat) : Prop := i = b ∨ i = kb ∨ v1.ownBlock = some i ∨ v2.ownBlock = some i ∨ v3.ownBlock = some i ∨ v4.ownBlock = some i

section
variable {w w' : World} {b : Nat} {p : List Nat} {wd : List Int} {es kn : List (E.Opn × Nat)} {nm : List Nat} {vr : E.Vr} {v1 v2 v3 v4 : Value} {kb : Nat}

theorem GrC.lt (h : GrC w b p wd es kn nm vr v1 v2 v3 v4 kb) : ∀ i, MG b v1 v2 v3 v4 kb i → i < w.heap.size := by
  rintro i (rfl | rfl | h1 | h1 | h1 | h1)
  · exact (Array.getElem?_eq_some_iff.1 h.row).1
  · exact h.km.lt
  · exact h.o1.lt _ h1
  · exact h.o2.lt _ h1
  · exact h.o3.lt _ h1
  · exact h.o4.lt _ h1
theorem GrC.frame (h : GrC w b p wd es kn nm vr v1 v2 v3 v4 kb) (hs : ∀ i, MG b v1 v2 v3 v4 kb i → w'.heap[i]? = w.heap[i]?) : GrC w' b p wd es kn nm vr v1 v2 v3 v4 kb :=
  ⟨(hs b (.inl rfl)).trans h.row, h.o1.same fun g hg => hs g (.inr (.inr (.inl hg))), h.o2.same fun g hg => hs g (.inr (.inr (.inr (.inl hg)))), h.o3.same fun g hg => hs g (.inr (.inr (.inr (.inr (.inl hg))))), h.km.keep (hs kb (.inr (.inl rfl))) (fun _ _ _ h => h), h.o4.same fun g hg => hs g (.inr (.inr (.inr (.inr (.inr hg))))), h.d12, h.d14, h.d24⟩
theorem GrC.below (h : GrC w b p wd es kn nm vr v1 v2 v3 v4 kb) (hb : Below w.heap.size w w') : GrC w' b p wd es kn nm vr v1 v2 v3 v4 kb := h.frame fun i hi => hb.block i (h.lt i hi)
theorem GrC.kpm {M : Nat → Prop} (h : GrC w b p wd es kn nm vr v1 v2 v3 v4 kb) (hb : Kpm M w w') (hM : ∀ i, MG b v1 v2 v3 v4 kb i → ¬ M i) : GrC w' b p wd es kn nm vr v1 v2 v3 v4 kb := h.frame fun i hi => hb.block i (h.lt i hi) (hM i hi)

theorem GrC.kne (h : GrC w b p wd es kn nm vr v1 v2 v3 v4 kb) : kb ≠ b := fun e => by
  obtain ⟨es', cl, h1, _⟩ := h.km
  rw [e, h.row] at h1
  cases h1
theorem GrC.ne1 (h : GrC w b p wd es kn nm vr v1 v2 v3 v4 kb) : v1.ownBlock ≠ some b := h.o1.ne_row h.row (by decide)
theorem GrC.ne2 (h : GrC w b p wd es kn nm vr v1 v2 v3 v4 kb) : v2.ownBlock ≠ some b := h.o2.ne_row h.row (by decide)
theorem GrC.ne3 (h : GrC w b p wd es kn nm vr v1 v2 v3 v4 kb) : v3.ownBlock ≠ some b := h.o3.ne_row h.row (by decide)
theorem GrC.ne4 (h : GrC w b p wd es kn nm vr v1 v2 v3 v4 kb) : v4.ownBlock ≠ some b := h.o4.ne_row h.row (by decide)
theorem GrC.nk1 (h : GrC w b p wd es kn nm vr v1 v2 v3 v4 kb) : v1.ownBlock ≠ some kb := let ⟨_, _, h1, _⟩ := h.km; h.o1.ne_map h1
theorem GrC.nk2 (h : GrC w b p wd es kn nm vr v1 v2 v3 v4 kb) : v2.ownBlock ≠ some kb := let ⟨_, _, h1, _⟩ := h.km; h.o2.ne_map h1
theorem GrC.nk3 (h : GrC w b p wd es kn nm vr v1 v2 v3 v4 kb) : v3.ownBlock ≠ some kb := let ⟨_, _, h1, _⟩ := h.km; h.o3.ne_map h1
theorem GrC.nk4 (h : GrC w b p wd es kn nm vr v1 v2 v3 v4 kb) : v4.ownBlock ≠ some kb := let ⟨_, _, h1, _⟩ := h.km; h.o4.ne_map h1
theorem GrC.n13 (h : GrC w b p wd es kn nm vr v1 v2 v3 v4 kb) : ∀ g, v1.ownBlock = some g → v3.ownBlock ≠ some g := fun g hg => let ⟨_, hc⟩ := h.o1.row_ex hg; h.o3.ne_row hc (by decide)
theorem GrC.n23 (h : GrC w b p wd es kn nm vr v1 v2 v3 v4 kb) : ∀ g, v2.ownBlock = some g → v3.ownBlock ≠ some g := fun g hg => let ⟨_, hc⟩ := h.o2.row_ex hg; h.o3.ne_row hc (by decide)
theorem GrC.n43 (h : GrC w b p wd es kn nm vr v1 v2 v3 v4 kb) : ∀ g, v4.ownBlock = some g → v3.ownBlock ≠ some g := fun g hg => let ⟨_, hc⟩ := h.o4.row_ex hg; h.o3.ne_row hc (by decide)

/-- the cells of the head -/
theorem GrC.cells (h : GrC w b p wd es kn nm vr v1 v2 v3 v4 kb) : w.cell? ⟨b, 0, none⟩ = some v1 ∧ w.cell? ⟨b, 1, none⟩ = some v2 ∧ w.cell? ⟨b, 2, none⟩ = some v3 ∧ w.cell? ⟨b, 3, none⟩ = some (.map (some kb)) ∧ w.cell? ⟨b, 4, none⟩ = some v4 := by
  refine ⟨?_, ?_, ?_, ?_, ?_⟩
  all_goals rw [cell_of_row _ _ _ _ _ (0, 0) h.row]; rfl
theorem GrC.slP (h : GrC w b p wd es kn nm vr v1 v2 v3 v4 kb) : ∃ A c, v1 = .slice A p.length c ∧ SlAt (IntR .i64) w A p.length (ini p) := by
  obtain ⟨A, c, rfl⟩ := h.o1.form
  have ho := h.o1
  rw [show ivs p = (ini p).map (Value.int .i64) by simp [ivs, ini]] at ho
  exact ⟨A, c, rfl, ho.slInts⟩
/-- find and canonical of a graph -/
theorem GrC.find (h : GrC w b p wd es kn nm vr v1 v2 v3 v4 kb) (hd : E.Down p) (c : Nat) (hc : c < p.length) : Calls Try.prog 33 #[.pointer (some ⟨b, 0, none⟩), .int .i64 (c : Int)] w fun e W' => e = .returned (.int .i64 (E.root p c : Nat)) ∧ W' = w := by
  obtain ⟨A, ca, rfl, hs⟩ := h.slP
  exact gfind_any h.cells.1 hs hd c hc
theorem GrC.canonical (h : GrC w b p wd es kn nm vr v1 v2 v3 v4 kb) (hd : E.Down p) {x : E.Opn} (hx : E.Ar p.length x) : Calls Try.prog 32 #[.pointer (some ⟨b, 0, none⟩), opV x] w fun e W' => e = .returned (opV (E.can p x)) ∧ Below w.heap.size w W' := by
  obtain ⟨A, ca, rfl, hs⟩ := h.slP
  exact gcanonical_any (h.lt b (.inl rfl)) h.cells.1 hs hd hx

/-- a new list of parents behind an append -/
theorem GrC.app1 (h : GrC w b p wd es kn nm vr v1 v2 v3 v4 kb) {v1' : Value} {c : Nat} (hown : OwnAt w' 3 1 v1' (p.length + 1) (ivs p ++ [.int .i64 (c : Int)])) (hg : w.grownBy w' v1.ownBlock) (hat : v1'.ownBlock = v1.ownBlock ∨ ∃ k, w.heap.size ≤ k ∧ v1'.ownBlock = some k) :
    GrC (w'.setCell ⟨b, 0, none⟩ v1') b (p ++ [c]) wd es kn nm vr v1' v2 v3 v4 kb := by
  have ho : ∀ i, i < w.heap.size → i ≠ b → v1.ownBlock ≠ some i → (w'.setCell ⟨b, 0, none⟩ v1').heap[i]? = w.heap[i]? := fun i hi hb h1 => by
    rw [Below.heap_setCell _ _ _ i (fun e => hb (by rw [e])), hg.block i hi (fun e => h1 e.symm)]
  have hrw : w'.heap[b]? = _ := (hg.block b (h.lt b (.inl rfl)) (fun e => h.ne1 e.symm)).trans h.row
  have hne : v1'.ownBlock ≠ some b := by
    rcases hat with e | ⟨k, hk, e⟩
    · rw [e]; exact h.ne1
    · rw [e]; intro e'; injection e' with e'; have := h.lt b (.inl rfl); omega
  have hd : ∀ {v : Value}, (∀ g, v1.ownBlock = some g → v.ownBlock ≠ some g) → (∀ g, v.ownBlock = some g → g < w.heap.size) → ∀ g, v1'.ownBlock = some g → v.ownBlock ≠ some g := fun hd hl g hg' => by
    rcases hat with e | ⟨k, hk, e⟩
    · exact hd g (e ▸ hg')
    · rw [e] at hg'; injection hg' with hg'; intro e'; have := hl g e'; omega
  refine ⟨heap_setCell_same _ b 0 _ _ v1' hrw, ?_, h.o2.same fun g hg' => ho g (h.o2.lt g hg') (fun e => h.ne2 (e ▸ hg')) (fun e => h.d12 g e hg'), h.o3.same fun g hg' => ho g (h.o3.lt g hg') (fun e => h.ne3 (e ▸ hg')) (fun e => h.n13 g e hg'), h.km.keep (ho kb h.km.lt h.kne h.nk1) (fun _ _ _ h => h), h.o4.same fun g hg' => ho g (h.o4.lt g hg') (fun e => h.ne4 (e ▸ hg')) (fun e => h.d14 g e hg'), hd h.d12 h.o2.lt, hd h.d14 h.o4.lt, h.d24⟩
  rw [List.length_append, List.length_singleton, show ivs (p ++ [c]) = ivs p ++ [.int .i64 (c : Int)] by simp [ivs]]
  exact hown.setCell hne _
/-- .. of widths -/
theorem GrC.app2 (h : GrC w b p wd es kn nm vr v1 v2 v3 v4 kb) {v2' : Value} {c : Int} (hown : OwnAt w' 3 1 v2' (wd.length + 1) (wd.map (.int .i64) ++ [.int .i64 c])) (hg : w.grownBy w' v2.ownBlock) (hat : v2'.ownBlock = v2.ownBlock ∨ ∃ k, w.heap.size ≤ k ∧ v2'.ownBlock = some k) :
    GrC (w'.setCell ⟨b, 1, none⟩ v2') b p (wd ++ [c]) es kn nm vr v1 v2' v3 v4 kb := by
  have ho : ∀ i, i < w.heap.size → i ≠ b → v2.ownBlock ≠ some i → (w'.setCell ⟨b, 1, none⟩ v2').heap[i]? = w.heap[i]? := fun i hi hb h1 => by
    rw [Below.heap_setCell _ _ _ i (fun e => hb (by rw [e])), hg.block i hi (fun e => h1 e.symm)]
  have hrw : w'.heap[b]? = _ := (hg.block b (h.lt b (.inl rfl)) (fun e => h.ne2 e.symm)).trans h.row
  have hne : v2'.ownBlock ≠ some b := by
    rcases hat with e | ⟨k, hk, e⟩
    · rw [e]; exact h.ne2
    · rw [e]; intro e'; injection e' with e'; have := h.lt b (.inl rfl); omega
  refine ⟨heap_setCell_same _ b 1 _ _ v2' hrw, h.o1.same fun g hg' => ho g (h.o1.lt g hg') (fun e => h.ne1 (e ▸ hg')) (fun e => h.d12 g hg' e), ?_, h.o3.same fun g hg' => ho g (h.o3.lt g hg') (fun e => h.ne3 (e ▸ hg')) (fun e => h.n23 g e hg'), h.km.keep (ho kb h.km.lt h.kne h.nk2) (fun _ _ _ h => h), h.o4.same fun g hg' => ho g (h.o4.lt g hg') (fun e => h.ne4 (e ▸ hg')) (fun e => h.d24 g e hg'), fun g hg' e' => ?_, h.d14, fun g hg' e' => ?_⟩
  · rw [List.length_append, List.length_singleton, List.map_append]
    exact hown.setCell hne _
  · rcases hat with e | ⟨k, hk, e⟩
    · exact h.d12 g hg' (e ▸ e')
    · rw [e] at e'; injection e' with e'; have := h.o1.lt g hg'; omega
  · rcases hat with e | ⟨k, hk, e⟩
    · exact h.d24 g (e ▸ hg') e'
    · rw [e] at hg'; injection hg' with hg'; have := h.o4.lt g e'; omega
/-- .. of entries -/
theorem GrC.app3 (h : GrC w b p wd es kn nm vr v1 v2 v3 v4 kb) {v3' : Value} {c : E.Opn × Nat} (hown : OwnAt w' 76 7 v3' (es.length + 1) (entCs es ++ entC c)) (hg : w.grownBy w' v3.ownBlock) (hat : v3'.ownBlock = v3.ownBlock ∨ ∃ k, w.heap.size ≤ k ∧ v3'.ownBlock = some k) :
    GrC (w'.setCell ⟨b, 2, none⟩ v3') b p wd (es ++ [c]) kn nm vr v1 v2 v3' v4 kb := by
  have ho : ∀ i, i < w.heap.size → i ≠ b → v3.ownBlock ≠ some i → (w'.setCell ⟨b, 2, none⟩ v3').heap[i]? = w.heap[i]? := fun i hi hb h1 => by
    rw [Below.heap_setCell _ _ _ i (fun e => hb (by rw [e])), hg.block i hi (fun e => h1 e.symm)]
  have hrw : w'.heap[b]? = _ := (hg.block b (h.lt b (.inl rfl)) (fun e => h.ne3 e.symm)).trans h.row
  have hne : v3'.ownBlock ≠ some b := by
    rcases hat with e | ⟨k, hk, e⟩
    · rw [e]; exact h.ne3
    · rw [e]; intro e'; injection e' with e'; have := h.lt b (.inl rfl); omega
  refine ⟨heap_setCell_same _ b 2 _ _ v3' hrw, h.o1.same fun g hg' => ho g (h.o1.lt g hg') (fun e => h.ne1 (e ▸ hg')) (fun e => h.n13 g hg' e), h.o2.same fun g hg' => ho g (h.o2.lt g hg') (fun e => h.ne2 (e ▸ hg')) (fun e => h.n23 g hg' e), ?_, h.km.keep (ho kb h.km.lt h.kne h.nk3) (fun _ _ _ h => h), h.o4.same fun g hg' => ho g (h.o4.lt g hg') (fun e => h.ne4 (e ▸ hg')) (fun e => h.n43 g hg' e), h.d12, h.d14, h.d24⟩
  rw [List.length_append, List.length_singleton, entCs_app, show entCs [c] = entC c by simp [entCs]]
  exact hown.setCell hne _
/-- .. of names -/
theorem GrC.app4 (h : GrC w b p wd es kn nm vr v1 v2 v3 v4 kb) {v4' : Value} {c : Nat} (hown : OwnAt w' 3 1 v4' (nm.length + 1) (ivs nm ++ [.int .i64 (c : Int)])) (hg : w.grownBy w' v4.ownBlock) (hat : v4'.ownBlock = v4.ownBlock ∨ ∃ k, w.heap.size ≤ k ∧ v4'.ownBlock = some k) :
    GrC (w'.setCell ⟨b, 4, none⟩ v4') b p wd es kn (nm ++ [c]) vr v1 v2 v3 v4' kb := by
  have ho : ∀ i, i < w.heap.size → i ≠ b → v4.ownBlock ≠ some i → (w'.setCell ⟨b, 4, none⟩ v4').heap[i]? = w.heap[i]? := fun i hi hb h1 => by
    rw [Below.heap_setCell _ _ _ i (fun e => hb (by rw [e])), hg.block i hi (fun e => h1 e.symm)]
  have hrw : w'.heap[b]? = _ := (hg.block b (h.lt b (.inl rfl)) (fun e => h.ne4 e.symm)).trans h.row
  have hne : v4'.ownBlock ≠ some b := by
    rcases hat with e | ⟨k, hk, e⟩
    · rw [e]; exact h.ne4
    · rw [e]; intro e'; injection e' with e'; have := h.lt b (.inl rfl); omega
  refine ⟨heap_setCell_same _ b 4 _ _ v4' hrw, h.o1.same fun g hg' => ho g (h.o1.lt g hg') (fun e => h.ne1 (e ▸ hg')) (fun e => h.d14 g hg' e), h.o2.same fun g hg' => ho g (h.o2.lt g hg') (fun e => h.ne2 (e ▸ hg')) (fun e => h.d24 g hg' e), h.o3.same fun g hg' => ho g (h.o3.lt g hg') (fun e => h.ne3 (e ▸ hg')) (fun e => h.n43 g e hg'), h.km.keep (ho kb h.km.lt h.kne h.nk4) (fun _ _ _ h => h), ?_, h.d12, fun g hg' e' => ?_, fun g hg' e' => ?_⟩
  · rw [List.length_append, List.length_singleton, show ivs (nm ++ [c]) = ivs nm ++ [.int .i64 (c : Int)] by simp [ivs]]
    exact hown.setCell hne _
  · rcases hat with e | ⟨k, hk, e⟩
    · exact h.d14 g hg' (e ▸ e')
    · rw [e] at e'; injection e' with e'; have := h.o1.lt g hg'; omega
  · rcases hat with e | ⟨k, hk, e⟩
    · exact h.d24 g hg' (e ▸ e')
    · rw [e] at e'; injection e' with e'; have := h.o2.lt g hg'; omega
/-- what is known turns -/
theorem GrC.know (h : GrC w b p wd es kn nm vr v1 v2 v3 v4 kb) {kn' : List (E.Opn × Nat)} (hg : w.grownBy w' (some kb)) (hm : MapAt Try.prog 59 opV NatE w' kb kn') : GrC w' b p wd es kn' nm vr v1 v2 v3 v4 kb := by
  have ho : ∀ i, i < w.heap.size → i ≠ kb → w'.heap[i]? = w.heap[i]? := fun i hi hb => hg.block i hi (fun e => hb (by injection e))
  exact ⟨(ho b (h.lt b (.inl rfl)) (fun e => h.kne e.symm)).trans h.row, h.o1.same fun g hg' => ho g (h.o1.lt g hg') (fun e => h.nk1 (e ▸ hg')), h.o2.same fun g hg' => ho g (h.o2.lt g hg') (fun e => h.nk2 (e ▸ hg')), h.o3.same fun g hg' => ho g (h.o3.lt g hg') (fun e => h.nk3 (e ▸ hg')), hm, h.o4.same fun g hg' => ho g (h.o4.lt g hg') (fun e => h.nk4 (e ▸ hg')), h.d12, h.d14, h.d24⟩
end
end Go.Proofs.Ytcmlmjbpdaecbaa
