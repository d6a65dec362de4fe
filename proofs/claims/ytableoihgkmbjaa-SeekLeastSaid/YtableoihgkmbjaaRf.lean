/- A range over a function whose body is told by an invariant on the blocks that lay there ahead of it: the law; leaving with marks. No program. -/
import Derived.Test.YtableoihgkmbjaaBase
import Derived.RangeFuncIn
import Derived.RangeFuncRecord
import Derived.RangeFuncSeq
import Derived.RangeFuncLeaves
namespace Go.Proofs.Ytableoihgkmbjaa
open Go.RowKit
set_option linter.unusedVariables false

/-- what lies from B on stays as it lies -/
structure Kpt (B : Nat) (A A' : World) : Prop where
  size : A.heap.size ≤ A'.heap.size
  block : ∀ k, B ≤ k → k < A.heap.size → A'.heap[k]? = A.heap[k]?
theorem Kpt.refl (B : Nat) (A : World) : Kpt B A A := ⟨Nat.le_refl _, fun _ _ _ => rfl⟩
theorem Kpt.trans {B : Nat} {X Y Z : World} (h : Kpt B X Y) (k : Kpt B Y Z) : Kpt B X Z := ⟨Nat.le_trans h.size k.size, fun i hB hi => (k.block i hB (Nat.lt_of_lt_of_le hi h.size)).trans (h.block i hB hi)⟩
theorem Kpt.more {B B' : Nat} {A A' : World} (h : Kpt B A A') (hB : B ≤ B') : Kpt B' A A' := ⟨h.size, fun k hk hl => h.block k (Nat.le_trans hB hk) hl⟩
/-- each cell stays as it lies -/
structure CK (A A' : World) : Prop where
  size : A.heap.size ≤ A'.heap.size
  cell : ∀ p v, A.cell? p = some v → A'.cell? p = some v
theorem CK.refl (A : World) : CK A A := ⟨Nat.le_refl _, fun _ _ h => h⟩
theorem below_putObj {B l : Nat} {A A' : World} (h : Below B A A') (hl : B ≤ l) (o : Obj) : Below B A (A'.putObj l o) :=
  h.trans ⟨rfl, rfl, rfl, by simp [World.putObj], fun k hk => World.putObj_heap_other (by omega)⟩
theorem size_putObj (A : World) (l : Nat) (o : Obj) : (A.putObj l o).heap.size = A.heap.size := by simp [World.putObj]
theorem ck_putObj {A : World} {l : Nat} {r : Loop} (h : A.heap[l]? = some (.loop r)) (o : Obj) : CK A (A.putObj l o) := by
  refine ⟨by simp [World.putObj], fun p v hp => ?_⟩
  have hne : p.block ≠ l := by
    intro e
    unfold World.cell? at hp
    rw [e, h] at hp
    simp at hp
  unfold World.cell? at hp ⊢
  rw [World.putObj_heap_other hne]
  exact hp
theorem cell_lt {A : World} {p : Addr} {v : Value} (h : A.cell? p = some v) : p.block < A.heap.size := by
  unfold World.cell? at h
  cases hb : A.heap[p.block]? with
  | none => rw [hb] at h; simp at h
  | some o => exact (Array.getElem?_eq_some_iff.1 hb).1
theorem CK.of_below {A A' : World} (h : Below A.heap.size A A') : CK A A' := ⟨h.size, fun p v hp => (h.cell (cell_lt hp)).trans hp⟩
theorem CK.trans {X Y Z : World} (h : CK X Y) (k : CK Y Z) : CK X Z := ⟨Nat.le_trans h.size k.size, fun p v hp => k.cell p v (h.cell p v hp)⟩

/-- stays under whatever turns nothing below B -/
def StayB (B : Nat) (J : World → Prop) : Prop := ∀ A A', J A → Below B A A' → J A'

/-- nothing below B turns, and no block of cells but those of the types ex -/
structure Lst (ex : TypeId → Prop) (B : Nat) (A A' : World) : Prop where
  below : Below B A A'
  cells : ∀ (g : Nat) (cs : Array Value) (T : TypeId) (z : Nat × Nat), A.heap[g]? = some (.cells cs T z) → ¬ ex T → A'.heap[g]? = some (.cells cs T z)
theorem Lst.refl (ex : TypeId → Prop) (B : Nat) (A : World) : Lst ex B A A := ⟨Below.refl _ _, fun _ _ _ _ h _ => h⟩
theorem Lst.trans {ex : TypeId → Prop} {B : Nat} {X Y Z : World} (h : Lst ex B X Y) (k : Lst ex B Y Z) : Lst ex B X Z := ⟨h.below.trans k.below, fun g cs T z hg hx => k.cells g cs T z (h.cells g cs T z hg hx) hx⟩
theorem Lst.mono {ex : TypeId → Prop} {B B' : Nat} {A A' : World} (h : Lst ex B A A') (hB : B' ≤ B) : Lst ex B' A A' := ⟨h.below.mono hB, h.cells⟩
theorem Lst.drew (ex : TypeId → Prop) (B : Nat) (A : World) : Lst ex B A A.drew := ⟨(Below.refl _ _).drew, fun _ _ _ _ h _ => h⟩
theorem lst_putObj {ex : TypeId → Prop} {B l : Nat} {A : World} {r : Loop} (h : A.heap[l]? = some (.loop r)) (hl : B ≤ l) (o : Obj) : Lst ex B A (A.putObj l o) := by
  refine ⟨below_putObj (Below.refl _ _) hl _, fun g cs T z hg _ => ?_⟩
  have hne : g ≠ l := by
    rintro rfl
    rw [h] at hg
    cases hg
  rw [World.putObj_heap_other hne]; exact hg
/-- AN ITERATOR's CONTRACT: called at Wc with yield it hands over the list xs, in this order, or stops behind an element at which the body leaves. -/
def SeqB (ex : TypeId → Prop) (P : Program) (gf : FuncId) (lb : Array Value) {α : Type} (Arg : World → α → Array Value → Prop) (SL : World → Prop) (xs : List α) (Wc : World) : Prop :=
  ∀ (l : Nat) (J : List α → World → Prop) (Jx : World → Prop), (∀ pre, StayB Wc.heap.size (J pre)) → (∀ A A', Jx A → Lst ex Wc.heap.size A A' → Jx A') → (∀ pre A, J pre A → SL A) → (∀ A, Jx A → SL A) →
    (∀ pre x A args, J pre A → Arg A x args → pre ++ [x] <+: xs → YieldAt Fence.wide 0 P l args A fun e A' =>
      (e = .returned (.bool true) ∧ J (pre ++ [x]) A' ∧ Kpt Wc.heap.size A A') ∨ (e = .returned (.bool false) ∧ Jx A' ∧ Kpt Wc.heap.size A A')) →
    J [] Wc → Calls P gf (#[.func (.yield l) #[] #[]] ++ lb) Wc fun e w' => (∃ v, e = .returned v) ∧ (J xs w' ∨ Jx w')

/-- how the body of a round may be left -/
def roundB {α : Type} (B : Nat) (I : List α → World → Prop) (Ix : Code → World → Prop) (xs : List α) (A : World) : Exit → Act → World → Prop
  | .normal, _, A' => Kpt B A A' ∧ I xs A'
  | .ret, _, A' => Kpt B A A' ∧ Ix .ret A'
  | .exit id, _, A' => Kpt B A A' ∧ Ix (.exit id) A'
  | .goto t, _, A' => Kpt B A A' ∧ Ix (.goto t) A'
  | .panic _, _, _ => False
  | .outgrown, _, _ => False

theorem wp_rangeFunc_B {ex : TypeId → Prop} {α : Type} {P : Program} {g : Operand} {ps : Array Tmp} {assign body : Code} {Q : Exit → Act → World → Prop} {a : Act} {w : World}
    {gf : FuncId} {lb : Array Value} (hg : a.eval g = .func (.func gf) #[] lb) (eg : ∀ args w, (callFunc gf args).run P w = .ok (.enter gf args) w)
    {Arg : World → α → Array Value → Prop} {SL : World → Prop} {xs : List α} (hseq : ∀ Wc, Below w.heap.size w Wc → Wc.heap.size = w.heap.size + 2 → SeqB ex P gf lb Arg SL xs Wc)
    (hps : ∀ A x args, Arg A x args → args.size = ps.size) (hArg : ∀ A A' x args, Arg A x args → CK A A' → Arg A' x args)
    (I : List α → World → Prop) (Ix : Code → World → Prop) (hI : ∀ pre, StayB w.heap.size (I pre)) (hIx : ∀ c A A', Ix c A → Lst ex w.heap.size A A' → Ix c A') (hSL : ∀ pre A, I pre A → SL A) (hSLx : ∀ c A, Ix c A → SL A) (h0 : I [] w)
    (a₁ : Array Value → Act)
    (hassign : ∀ (l : Nat) (x : α) (args : Array Value) (A : World) (K : Act → World → Prop), Arg A x args → K (a₁ args) A →
      assign.wpIn (Fence.wide.inRound l) 0 P (Exit.then K (fun _ _ _ => False)) { tmps := (ps.zip args).foldl (fun t (p, v) => t.setIfInBounds p v) a.tmps, defers := [] } A)
    (hbody : ∀ (l : Nat) (pre : List α) (x : α) (args : Array Value) (A : World), I pre A → Arg A x args → w.heap.size + 2 ≤ A.heap.size → pre ++ [x] <+: xs → body.wpIn (Fence.wide.inRound l) 0 P (roundB w.heap.size I Ix (pre ++ [x]) A) (a₁ args) A)
    (hdone : ∀ (W : World), I xs W → W.heap[w.heap.size]? = some (.deferred (some [])) → w.heap.size ≤ W.heap.size → Q .normal { a with defers := { target := .collected w.heap.size, args := #[] } :: a.defers } W)
    (hstop : ∀ (c : Code) (W : World), Ix c W → W.heap[w.heap.size]? = some (.deferred (some [])) → w.heap.size ≤ W.heap.size → c.wp P Q { a with defers := { target := .collected w.heap.size, args := #[] } :: a.defers } W) :
    (Code.rangeFunc g ps assign body).wp P Q a w := by
  refine (wpIn_wide (n := 0)).1 (wpIn_rangeFunc ?_)
  intro fn hfn
  obtain ⟨rec, hrec⟩ : ∃ rec : LoopState → Option Code → Loop, rec = fun st pe => { state := st, pending := pe, fn, tmps := a.tmps, params := ps, assign, body, defers := w.heap.size } := ⟨_, rfl⟩
  obtain ⟨W1, hW1⟩ : ∃ W1, (w.alloc (.deferred (some []))).alloc (.loop (rec .ready none)) = W1 := ⟨_, rfl⟩
  have hL1 : W1.heap[w.heap.size + 1]? = some (.loop (rec .ready none)) := by
    rw [← hW1]; have := World.alloc_heap_new (w.alloc (.deferred (some []))) (.loop (rec .ready none)); rwa [World.size_alloc] at this
  have hK1 : W1.heap[w.heap.size]? = some (.deferred (some [])) := by
    rw [← hW1]; exact (Below.heap_alloc _ _ _ (by simp)).trans (World.alloc_heap_new w _)
  have hB1 : Below w.heap.size w W1 := by rw [← hW1]; exact ((Below.refl _ w).alloc (Nat.le_refl _) _).alloc (by simp) _
  have hsz : W1.heap.size = w.heap.size + 2 := by rw [← hW1]; simp
  refine ⟨w.heap.size + 1, [{ target := .collected w.heap.size, args := #[] }], W1, { target := .fn (.func gf) lb, args := #[.func (.yield (w.heap.size + 1)) #[] #[]] }, W1, gf,
    #[.func (.yield (w.heap.size + 1)) #[] #[]] ++ lb, W1, ?_, ?_, ?_, ?_, ?_, ?_⟩
  · rw [← hW1, hrec]; exact run_enterLoop_outer _ _ _ _ _
  · simp only [resolve, hg]
    simp [go_sem]
  · intro f' hf'; trivial
  · simp [invoke, go_sem, eg]
  · intro h; simp [Fence.wide] at h
  · refine callsIn_wide.2 ((hseq W1 hB1 hsz (w.heap.size + 1)
      (fun pre W => I pre W ∧ W.heap[w.heap.size + 1]? = some (.loop (rec .ready none)) ∧ W.heap[w.heap.size]? = some (.deferred (some [])) ∧ w.heap.size + 2 ≤ W.heap.size)
      (fun W => ∃ c, Ix c W ∧ W.heap[w.heap.size + 1]? = some (.loop (rec .done (some c))) ∧ W.heap[w.heap.size]? = some (.deferred (some [])) ∧ w.heap.size + 2 ≤ W.heap.size)
      ?_ ?_ (fun pre A h => hSL pre A h.1) (fun A h => hSLx _ A h.choose_spec.1) ?_ ⟨hI [] _ _ h0 hB1, hL1, hK1, by omega⟩).mono ?_)
    · rintro pre A A' ⟨h1, h2, h3, h4⟩ hb
      exact ⟨hI _ _ _ h1 (hb.mono (by omega)), (hb.block _ (by omega)).trans h2, (hb.block _ (by omega)).trans h3, Nat.le_trans h4 hb.size⟩
    · rintro A A' ⟨c, h1, h2, h3, h4⟩ hb
      exact ⟨c, hIx _ _ _ h1 (hb.mono (by omega)), (hb.below.block _ (by omega)).trans h2, (hb.below.block _ (by omega)).trans h3, Nat.le_trans h4 hb.below.size⟩
    · rintro pre x A args ⟨hi, hl, hk, hs⟩ harg hpre
      have hy := run_yield (P := P) (args := args) hl (by rw [hrec]; exact hps A x args harg)
      rw [hrec] at hy
      refine ⟨fn, _, assign, body, hy, roundIn_of_wpIn hfn (hassign _ x args A _ harg ?_)⟩
      clear hy
      refine ⟨_, run_beginRound hl (by rw [hrec]), ?_⟩
      have hlt : w.heap.size + 1 < A.heap.size := by omega
      have hl2 : (A.putObj (w.heap.size + 1) (.loop { rec .ready none with state := .busy })).heap[w.heap.size + 1]? = some (.loop { rec .ready none with state := .busy }) := World.putObj_heap_same hlt
      have hk2 : (A.putObj (w.heap.size + 1) (.loop { rec .ready none with state := .busy })).heap[w.heap.size]? = some (.deferred (some [])) := (World.putObj_heap_other (by omega)).trans hk
      have hs2 : (A.putObj (w.heap.size + 1) (.loop { rec .ready none with state := .busy })).heap.size = A.heap.size := by simp [World.putObj]
      have hk0 : ∀ o, Kpt W1.heap.size A (A.putObj (w.heap.size + 1) o) := fun o => ⟨by simp [World.putObj], fun k hk _ => World.putObj_heap_other (by omega)⟩
      refine wpIn_mono (hbody _ pre x args _ (hI _ _ _ hi (below_putObj (Below.refl _ _) (by omega) _)) (hArg _ _ _ _ harg (ck_putObj hl _)) (Nat.le_trans hs (Nat.le_of_eq (size_putObj _ _ _).symm)) hpre) ?_
      have fin : ∀ (jump : Option Code) (W3 : World), Kpt w.heap.size (A.putObj (w.heap.size + 1) (.loop { rec .ready none with state := .busy })) W3 →
          (Instr.endRound (w.heap.size + 1) jump).run P W3 = .ok (.bool jump.isNone) (W3.putObj (w.heap.size + 1) (.loop (rec (if jump.isNone then .ready else .done) jump))) ∧
          Lst ex w.heap.size W3 (W3.putObj (w.heap.size + 1) (.loop (rec (if jump.isNone then .ready else .done) jump))) ∧
          (W3.putObj (w.heap.size + 1) (.loop (rec (if jump.isNone then .ready else .done) jump))).heap[w.heap.size + 1]? = some (.loop (rec (if jump.isNone then .ready else .done) jump)) ∧
          (W3.putObj (w.heap.size + 1) (.loop (rec (if jump.isNone then .ready else .done) jump))).heap[w.heap.size]? = some (.deferred (some [])) ∧
          w.heap.size + 2 ≤ (W3.putObj (w.heap.size + 1) (.loop (rec (if jump.isNone then .ready else .done) jump))).heap.size ∧
          Kpt W1.heap.size A (W3.putObj (w.heap.size + 1) (.loop (rec (if jump.isNone then .ready else .done) jump))) := fun jump W3 hk3 => by
        have hl3 := (hk3.block _ (by omega) (by omega)).trans hl2
        have hs3 := hk3.size
        have hs4 : (W3.putObj (w.heap.size + 1) (.loop (rec (if jump.isNone then .ready else .done) jump))).heap.size = W3.heap.size := by simp [World.putObj]
        have := run_endRound (P := P) jump hl3
        rw [hrec] at this
        refine ⟨by rw [hrec]; exact this, lst_putObj hl3 (by omega) _, World.putObj_heap_same (by omega), (World.putObj_heap_other (by omega)).trans ((hk3.block _ (Nat.le_refl _) (by omega)).trans hk2), by omega,
          ((hk0 _).trans (hk3.more (by omega))).trans ⟨by omega, fun k hk _ => World.putObj_heap_other (by omega)⟩⟩
      rintro e a3 W3 hp
      cases e with
      | normal =>
        obtain ⟨hk3, hi3⟩ := hp
        obtain ⟨hr, hb4, hl4, hk4, hs4, hkp⟩ := fin none W3 hk3
        exact ⟨_, _, hr, .inl ⟨rfl, ⟨hI _ _ _ hi3 hb4.below, hl4, hk4, hs4⟩, hkp⟩⟩
      | ret =>
        obtain ⟨hk3, hi3⟩ := hp
        obtain ⟨hr, hb4, hl4, hk4, hs4, hkp⟩ := fin (some .ret) W3 hk3
        exact ⟨_, _, hr, .inr ⟨rfl, ⟨.ret, hIx _ _ _ hi3 hb4, hl4, hk4, hs4⟩, hkp⟩⟩
      | exit id =>
        obtain ⟨hk3, hi3⟩ := hp
        obtain ⟨hr, hb4, hl4, hk4, hs4, hkp⟩ := fin (some (.exit id)) W3 hk3
        exact ⟨_, _, hr, .inr ⟨rfl, ⟨.exit id, hIx _ _ _ hi3 hb4, hl4, hk4, hs4⟩, hkp⟩⟩
      | goto t =>
        obtain ⟨hk3, hi3⟩ := hp
        obtain ⟨hr, hb4, hl4, hk4, hs4, hkp⟩ := fin (some (.goto t)) W3 hk3
        exact ⟨_, _, hr, .inr ⟨rfl, ⟨.goto t, hIx _ _ _ hi3 hb4, hl4, hk4, hs4⟩, hkp⟩⟩
      | panic ch => exact hp.elim
      | outgrown => exact hp.elim
    · rintro e W2 ⟨⟨v, rfl⟩, (⟨hi, hl, hk, hs⟩ | ⟨c, hi, hl, hk, hs⟩)⟩
      · have he := run_endLoop (P := P) hl (by rw [hrec]; simp)
        rw [hrec] at he
        exact ⟨none, _, he, hdone _ (hI _ _ _ hi (below_putObj (Below.refl _ _) (by omega) _)) ((World.putObj_heap_other (by omega)).trans hk) (by simp [World.putObj]; omega)⟩
      · have he := run_endLoop (P := P) hl (by rw [hrec]; simp)
        rw [hrec] at he
        exact ⟨some c, _, he, wpIn_wide.2 (hstop c _ (hIx _ _ _ hi (lst_putObj hl (by omega) _)) ((World.putObj_heap_other (by omega)).trans hk) (by simp [World.putObj]; omega))⟩
end Go.Proofs.Ytableoihgkmbjaa
