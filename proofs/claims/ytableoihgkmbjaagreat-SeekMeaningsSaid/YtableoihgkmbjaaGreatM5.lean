/- Merged: Rf, Sp, Q6, Q7, Q8, Q9, Q10. -/
import Derived.Test.YtableoihgkmbjaaGreatBase
import Derived.RangeFuncIn
import Derived.RangeFuncRecord
import Derived.RangeFuncSeq
import Derived.RangeFuncLeaves
import Derived.StillTail
import Derived.Deep.RegionHeld3
import Derived.Test.YtableoihgkmbjaaGreatM4
import Derived.OneCell
section
namespace Go.Proofs.YtableoihgkmbjaaGreat
open Go.RowKit
set_option linter.unusedVariables false

/-- what lies from B on stays as it lies -/
structure Kpt (B : Nat) (A A' : World) : Prop where
  size : A.heap.size ≤ A'.heap.size
  block : ∀ k, B ≤ k → k < A.heap.size → A'.heap[k]? = A.heap[k]?
theorem Kpt.refl (B : Nat) (A : World) : Kpt B A A := ⟨Nat.le_refl _, fun _ _ _ => rfl⟩
theorem Kpt.trans {B : Nat} {X Y Z : World} (h : Kpt B X Y) (k : Kpt B Y Z) : Kpt B X Z := ⟨Nat.le_trans h.size k.size, fun i hB hi => (k.block i hB (Nat.lt_of_lt_of_le hi h.size)).trans (h.block i hB hi)⟩
theorem Kpt.more {B B' : Nat} {A A' : World} (h : Kpt B A A') (hB : B ≤ B') : Kpt B' A A' := ⟨h.size, fun k hk hl => h.block k (Nat.le_trans hB hk) hl⟩
/-- each cell stays as it lies -/
structure CK (A A' : World) : Prop where
  size : A.heap.size ≤ A'.heap.size
  cell : ∀ p v, A.cell? p = some v → A'.cell? p = some v
theorem CK.refl (A : World) : CK A A := ⟨Nat.le_refl _, fun _ _ h => h⟩
theorem below_putObj {B l : Nat} {A A' : World} (h : Below B A A') (hl : B ≤ l) (o : Obj) : Below B A (A'.putObj l o) :=
  h.trans ⟨rfl, rfl, rfl, by simp [World.putObj], fun k hk => World.putObj_heap_other (by omega)⟩
theorem size_putObj (A : World) (l : Nat) (o : Obj) : (A.putObj l o).heap.size = A.heap.size := by simp [World.putObj]
theorem ck_putObj {A : World} {l : Nat} {r : Loop} (h : A.heap[l]? = some (.loop r)) (o : Obj) : CK A (A.putObj l o) := by
  refine ⟨by simp [World.putObj], fun p v hp => ?_⟩
  have hne : p.block ≠ l := by
    intro e
    unfold World.cell? at hp
    rw [e, h] at hp
    simp at hp
  unfold World.cell? at hp ⊢
  rw [World.putObj_heap_other hne]
  exact hp
theorem cell_lt {A : World} {p : Addr} {v : Value} (h : A.cell? p = some v) : p.block < A.heap.size := by
  unfold World.cell? at h
  cases hb : A.heap[p.block]? with
  | none => rw [hb] at h; simp at h
  | some o => exact (Array.getElem?_eq_some_iff.1 hb).1
theorem CK.of_below {A A' : World} (h : Below A.heap.size A A') : CK A A' := ⟨h.size, fun p v hp => (h.cell (cell_lt hp)).trans hp⟩
theorem CK.trans {X Y Z : World} (h : CK X Y) (k : CK Y Z) : CK X Z := ⟨Nat.le_trans h.size k.size, fun p v hp => k.cell p v (h.cell p v hp)⟩

/-- stays under whatever turns nothing below B -/
def StayB (B : Nat) (J : World → Prop) : Prop := ∀ A A', J A → Below B A A' → J A'

/-- nothing below B turns, and no block of cells but those of the types ex -/
structure Lst (ex : TypeId → Prop) (B : Nat) (A A' : World) : Prop where
  below : Below B A A'
  cells : ∀ (g : Nat) (cs : Array Value) (T : TypeId) (z : Nat × Nat), A.heap[g]? = some (.cells cs T z) → ¬ ex T → A'.heap[g]? = some (.cells cs T z)
theorem Lst.refl (ex : TypeId → Prop) (B : Nat) (A : World) : Lst ex B A A := ⟨Below.refl _ _, fun _ _ _ _ h _ => h⟩
theorem Lst.trans {ex : TypeId → Prop} {B : Nat} {X Y Z : World} (h : Lst ex B X Y) (k : Lst ex B Y Z) : Lst ex B X Z := ⟨h.below.trans k.below, fun g cs T z hg hx => k.cells g cs T z (h.cells g cs T z hg hx) hx⟩
theorem Lst.mono {ex : TypeId → Prop} {B B' : Nat} {A A' : World} (h : Lst ex B A A') (hB : B' ≤ B) : Lst ex B' A A' := ⟨h.below.mono hB, h.cells⟩
theorem Lst.drew (ex : TypeId → Prop) (B : Nat) (A : World) : Lst ex B A A.drew := ⟨(Below.refl _ _).drew, fun _ _ _ _ h _ => h⟩
theorem lst_putObj {ex : TypeId → Prop} {B l : Nat} {A : World} {r : Loop} (h : A.heap[l]? = some (.loop r)) (hl : B ≤ l) (o : Obj) : Lst ex B A (A.putObj l o) := by
  refine ⟨below_putObj (Below.refl _ _) hl _, fun g cs T z hg _ => ?_⟩
  have hne : g ≠ l := by
    rintro rfl
    rw [h] at hg
    cases hg
  rw [World.putObj_heap_other hne]; exact hg
/-- AN ITERATOR's CONTRACT: called at Wc with yield it hands over the list xs, in this order, or stops behind an element at which the body leaves. -/
def SeqB (ex : TypeId → Prop) (P : Program) (gf : FuncId) (lb : Array Value) {α : Type} (Arg : World → α → Array Value → Prop) (SL : World → Prop) (xs : List α) (Wc : World) : Prop :=
  ∀ (l : Nat) (J : List α → World → Prop) (Jx : World → Prop), (∀ pre, StayB Wc.heap.size (J pre)) → (∀ A A', Jx A → Lst ex Wc.heap.size A A' → Jx A') → (∀ pre A, J pre A → SL A) → (∀ A, Jx A → SL A) →
    (∀ pre x A args, J pre A → Arg A x args → pre ++ [x] <+: xs → YieldAt Fence.wide 0 P l args A fun e A' =>
      (e = .returned (.bool true) ∧ J (pre ++ [x]) A' ∧ Kpt Wc.heap.size A A') ∨ (e = .returned (.bool false) ∧ Jx A' ∧ Kpt Wc.heap.size A A')) →
    J [] Wc → Calls P gf (#[.func (.yield l) #[] #[]] ++ lb) Wc fun e w' => (∃ v, e = .returned v) ∧ (J xs w' ∨ Jx w')

/-- how the body of a round may be left -/
def roundB {α : Type} (B : Nat) (I : List α → World → Prop) (Ix : Code → World → Prop) (xs : List α) (A : World) : Exit → Act → World → Prop
  | .normal, _, A' => Kpt B A A' ∧ I xs A'
  | .ret, _, A' => Kpt B A A' ∧ Ix .ret A'
  | .exit id, _, A' => Kpt B A A' ∧ Ix (.exit id) A'
  | .goto t, _, A' => Kpt B A A' ∧ Ix (.goto t) A'
  | .panic _, _, _ => False
  | .outgrown, _, _ => False

theorem wp_rangeFunc_B {ex : TypeId → Prop} {α : Type} {P : Program} {g : Operand} {ps : Array Tmp} {assign body : Code} {Q : Exit → Act → World → Prop} {a : Act} {w : World}
    {gf : FuncId} {lb : Array Value} (hg : a.eval g = .func (.func gf) #[] lb) (eg : ∀ args w, (callFunc gf args).run P w = .ok (.enter gf args) w)
    {Arg : World → α → Array Value → Prop} {SL : World → Prop} {xs : List α} (hseq : ∀ Wc, Below w.heap.size w Wc → Wc.heap.size = w.heap.size + 2 → SeqB ex P gf lb Arg SL xs Wc)
    (hps : ∀ A x args, Arg A x args → args.size = ps.size) (hArg : ∀ A A' x args, Arg A x args → CK A A' → Arg A' x args)
    (I : List α → World → Prop) (Ix : Code → World → Prop) (hI : ∀ pre, StayB w.heap.size (I pre)) (hIx : ∀ c A A', Ix c A → Lst ex w.heap.size A A' → Ix c A') (hSL : ∀ pre A, I pre A → SL A) (hSLx : ∀ c A, Ix c A → SL A) (h0 : I [] w)
    (a₁ : Array Value → Act)
    (hassign : ∀ (l : Nat) (x : α) (args : Array Value) (A : World) (K : Act → World → Prop), Arg A x args → K (a₁ args) A →
      assign.wpIn (Fence.wide.inRound l) 0 P (Exit.then K (fun _ _ _ => False)) { tmps := (ps.zip args).foldl (fun t (p, v) => t.setIfInBounds p v) a.tmps, defers := [] } A)
    (hbody : ∀ (l : Nat) (pre : List α) (x : α) (args : Array Value) (A : World), I pre A → Arg A x args → w.heap.size + 2 ≤ A.heap.size → pre ++ [x] <+: xs → body.wpIn (Fence.wide.inRound l) 0 P (roundB w.heap.size I Ix (pre ++ [x]) A) (a₁ args) A)
    (hdone : ∀ (W : World), I xs W → W.heap[w.heap.size]? = some (.deferred (some [])) → w.heap.size ≤ W.heap.size → Q .normal { a with defers := { target := .collected w.heap.size, args := #[] } :: a.defers } W)
    (hstop : ∀ (c : Code) (W : World), Ix c W → W.heap[w.heap.size]? = some (.deferred (some [])) → w.heap.size ≤ W.heap.size → c.wp P Q { a with defers := { target := .collected w.heap.size, args := #[] } :: a.defers } W) :
    (Code.rangeFunc g ps assign body).wp P Q a w := by
  refine (wpIn_wide (n := 0)).1 (wpIn_rangeFunc ?_)
  intro fn hfn
  obtain ⟨rec, hrec⟩ : ∃ rec : LoopState → Option Code → Loop, rec = fun st pe => { state := st, pending := pe, fn, tmps := a.tmps, params := ps, assign, body, defers := w.heap.size } := ⟨_, rfl⟩
  obtain ⟨W1, hW1⟩ : ∃ W1, (w.alloc (.deferred (some []))).alloc (.loop (rec .ready none)) = W1 := ⟨_, rfl⟩
  have hL1 : W1.heap[w.heap.size + 1]? = some (.loop (rec .ready none)) := by
    rw [← hW1]; have := World.alloc_heap_new (w.alloc (.deferred (some []))) (.loop (rec .ready none)); rwa [World.size_alloc] at this
  have hK1 : W1.heap[w.heap.size]? = some (.deferred (some [])) := by
    rw [← hW1]; exact (Below.heap_alloc _ _ _ (by simp)).trans (World.alloc_heap_new w _)
  have hB1 : Below w.heap.size w W1 := by rw [← hW1]; exact ((Below.refl _ w).alloc (Nat.le_refl _) _).alloc (by simp) _
  have hsz : W1.heap.size = w.heap.size + 2 := by rw [← hW1]; simp
  refine ⟨w.heap.size + 1, [{ target := .collected w.heap.size, args := #[] }], W1, { target := .fn (.func gf) lb, args := #[.func (.yield (w.heap.size + 1)) #[] #[]] }, W1, gf,
    #[.func (.yield (w.heap.size + 1)) #[] #[]] ++ lb, W1, ?_, ?_, ?_, ?_, ?_, ?_⟩
  · rw [← hW1, hrec]; exact run_enterLoop_outer _ _ _ _ _
  · simp only [resolve, hg]
    simp [go_sem]
  · intro f' hf'; trivial
  · simp [invoke, go_sem, eg]
  · intro h; simp [Fence.wide] at h
  · refine callsIn_wide.2 ((hseq W1 hB1 hsz (w.heap.size + 1)
      (fun pre W => I pre W ∧ W.heap[w.heap.size + 1]? = some (.loop (rec .ready none)) ∧ W.heap[w.heap.size]? = some (.deferred (some [])) ∧ w.heap.size + 2 ≤ W.heap.size)
      (fun W => ∃ c, Ix c W ∧ W.heap[w.heap.size + 1]? = some (.loop (rec .done (some c))) ∧ W.heap[w.heap.size]? = some (.deferred (some [])) ∧ w.heap.size + 2 ≤ W.heap.size)
      ?_ ?_ (fun pre A h => hSL pre A h.1) (fun A h => hSLx _ A h.choose_spec.1) ?_ ⟨hI [] _ _ h0 hB1, hL1, hK1, by omega⟩).mono ?_)
    · rintro pre A A' ⟨h1, h2, h3, h4⟩ hb
      exact ⟨hI _ _ _ h1 (hb.mono (by omega)), (hb.block _ (by omega)).trans h2, (hb.block _ (by omega)).trans h3, Nat.le_trans h4 hb.size⟩
    · rintro A A' ⟨c, h1, h2, h3, h4⟩ hb
      exact ⟨c, hIx _ _ _ h1 (hb.mono (by omega)), (hb.below.block _ (by omega)).trans h2, (hb.below.block _ (by omega)).trans h3, Nat.le_trans h4 hb.below.size⟩
    · rintro pre x A args ⟨hi, hl, hk, hs⟩ harg hpre
      have hy := run_yield (P := P) (args := args) hl (by rw [hrec]; exact hps A x args harg)
      rw [hrec] at hy
      refine ⟨fn, _, assign, body, hy, roundIn_of_wpIn hfn (hassign _ x args A _ harg ?_)⟩
      clear hy
      refine ⟨_, run_beginRound hl (by rw [hrec]), ?_⟩
      have hlt : w.heap.size + 1 < A.heap.size := by omega
      have hl2 : (A.putObj (w.heap.size + 1) (.loop { rec .ready none with state := .busy })).heap[w.heap.size + 1]? = some (.loop { rec .ready none with state := .busy }) := World.putObj_heap_same hlt
      have hk2 : (A.putObj (w.heap.size + 1) (.loop { rec .ready none with state := .busy })).heap[w.heap.size]? = some (.deferred (some [])) := (World.putObj_heap_other (by omega)).trans hk
      have hs2 : (A.putObj (w.heap.size + 1) (.loop { rec .ready none with state := .busy })).heap.size = A.heap.size := by simp [World.putObj]
      have hk0 : ∀ o, Kpt W1.heap.size A (A.putObj (w.heap.size + 1) o) := fun o => ⟨by simp [World.putObj], fun k hk _ => World.putObj_heap_other (by omega)⟩
      refine wpIn_mono (hbody _ pre x args _ (hI _ _ _ hi (below_putObj (Below.refl _ _) (by omega) _)) (hArg _ _ _ _ harg (ck_putObj hl _)) (Nat.le_trans hs (Nat.le_of_eq (size_putObj _ _ _).symm)) hpre) ?_
      have fin : ∀ (jump : Option Code) (W3 : World), Kpt w.heap.size (A.putObj (w.heap.size + 1) (.loop { rec .ready none with state := .busy })) W3 →
          (Instr.endRound (w.heap.size + 1) jump).run P W3 = .ok (.bool jump.isNone) (W3.putObj (w.heap.size + 1) (.loop (rec (if jump.isNone then .ready else .done) jump))) ∧
          Lst ex w.heap.size W3 (W3.putObj (w.heap.size + 1) (.loop (rec (if jump.isNone then .ready else .done) jump))) ∧
          (W3.putObj (w.heap.size + 1) (.loop (rec (if jump.isNone then .ready else .done) jump))).heap[w.heap.size + 1]? = some (.loop (rec (if jump.isNone then .ready else .done) jump)) ∧
          (W3.putObj (w.heap.size + 1) (.loop (rec (if jump.isNone then .ready else .done) jump))).heap[w.heap.size]? = some (.deferred (some [])) ∧
          w.heap.size + 2 ≤ (W3.putObj (w.heap.size + 1) (.loop (rec (if jump.isNone then .ready else .done) jump))).heap.size ∧
          Kpt W1.heap.size A (W3.putObj (w.heap.size + 1) (.loop (rec (if jump.isNone then .ready else .done) jump))) := fun jump W3 hk3 => by
        have hl3 := (hk3.block _ (by omega) (by omega)).trans hl2
        have hs3 := hk3.size
        have hs4 : (W3.putObj (w.heap.size + 1) (.loop (rec (if jump.isNone then .ready else .done) jump))).heap.size = W3.heap.size := by simp [World.putObj]
        have := run_endRound (P := P) jump hl3
        rw [hrec] at this
        refine ⟨by rw [hrec]; exact this, lst_putObj hl3 (by omega) _, World.putObj_heap_same (by omega), (World.putObj_heap_other (by omega)).trans ((hk3.block _ (Nat.le_refl _) (by omega)).trans hk2), by omega,
          ((hk0 _).trans (hk3.more (by omega))).trans ⟨by omega, fun k hk _ => World.putObj_heap_other (by omega)⟩⟩
      rintro e a3 W3 hp
      cases e with
      | normal =>
        obtain ⟨hk3, hi3⟩ := hp
        obtain ⟨hr, hb4, hl4, hk4, hs4, hkp⟩ := fin none W3 hk3
        exact ⟨_, _, hr, .inl ⟨rfl, ⟨hI _ _ _ hi3 hb4.below, hl4, hk4, hs4⟩, hkp⟩⟩
      | ret =>
        obtain ⟨hk3, hi3⟩ := hp
        obtain ⟨hr, hb4, hl4, hk4, hs4, hkp⟩ := fin (some .ret) W3 hk3
        exact ⟨_, _, hr, .inr ⟨rfl, ⟨.ret, hIx _ _ _ hi3 hb4, hl4, hk4, hs4⟩, hkp⟩⟩
      | exit id =>
        obtain ⟨hk3, hi3⟩ := hp
        obtain ⟨hr, hb4, hl4, hk4, hs4, hkp⟩ := fin (some (.exit id)) W3 hk3
        exact ⟨_, _, hr, .inr ⟨rfl, ⟨.exit id, hIx _ _ _ hi3 hb4, hl4, hk4, hs4⟩, hkp⟩⟩
      | goto t =>
        obtain ⟨hk3, hi3⟩ := hp
        obtain ⟨hr, hb4, hl4, hk4, hs4, hkp⟩ := fin (some (.goto t)) W3 hk3
        exact ⟨_, _, hr, .inr ⟨rfl, ⟨.goto t, hIx _ _ _ hi3 hb4, hl4, hk4, hs4⟩, hkp⟩⟩
      | panic ch => exact hp.elim
      | outgrown => exact hp.elim
    · rintro e W2 ⟨⟨v, rfl⟩, (⟨hi, hl, hk, hs⟩ | ⟨c, hi, hl, hk, hs⟩)⟩
      · have he := run_endLoop (P := P) hl (by rw [hrec]; simp)
        rw [hrec] at he
        exact ⟨none, _, he, hdone _ (hI _ _ _ hi (below_putObj (Below.refl _ _) (by omega) _)) ((World.putObj_heap_other (by omega)).trans hk) (by simp [World.putObj]; omega)⟩
      · have he := run_endLoop (P := P) hl (by rw [hrec]; simp)
        rw [hrec] at he
        exact ⟨some c, _, he, wpIn_wide.2 (hstop c _ (hIx _ _ _ hi (lst_putObj hl (by omega) _)) ((World.putObj_heap_other (by omega)).trans hk) (by simp [World.putObj]; omega))⟩
end Go.Proofs.YtableoihgkmbjaaGreat
end
section
namespace Go.Proofs.YtableoihgkmbjaaGreat
open Go Go.RowKit
set_option linter.unusedVariables false
set_option linter.unusedSimpArgs false

/-- an operation's way, where only the post of the end without panic is turned -/
theorem wp_then {P : Program} {o : Oper} {a : Act} {w : World} {K : Act → World → Prop} {K0 : Act → World → Prop} {Q : Exit → Act → World → Prop} (h : o.wp P a w K (Exit.then K0 Q)) : o.wp P a w K Q := by
  unfold Oper.wp at *
  generalize (execOp a.eval o).run P w = r at *
  cases r with
  | ok n w' =>
    cases n <;> simp only [Oper.upon] at h ⊢ <;>
      first
        | exact h
        | exact Calls.mono h (fun e w'' he => by cases e <;> exact he)
  | halt x w' => cases x <;> simp only [Oper.upon] at h ⊢ <;> exact h

theorem wpAny_more {P : Program} {md : Region.Mode} {ops : Array Oper} {Q : Exit → Act → World → Prop} : ∀ (f : Nat) (listed : Array Bool) (a : Act) (w : World), wpAny P md ops Q f listed a w → wpAny P md ops Q (f + 1) listed a w
  | 0, _, _, _, h => ⟨fun _ => h.2, fun i hi => by rw [h.1] at hi; cases hi⟩
  | f + 1, listed, a, w, h => ⟨h.1, fun i hi => wpOp_mono (fun a' w' h' => wpAny_more f _ a' w' h') (h.2 i hi)⟩
theorem wpAny_plus {P : Program} {md : Region.Mode} {ops : Array Oper} {Q : Exit → Act → World → Prop} {f : Nat} {listed : Array Bool} {a : Act} {w : World} (h : wpAny P md ops Q f listed a w) : ∀ k, wpAny P md ops Q (k + f) listed a w
  | 0 => by rw [Nat.zero_add]; exact h
  | k + 1 => by rw [show k + 1 + f = (k + f) + 1 by omega]; exact wpAny_more _ _ _ _ (wpAny_plus h k)

/-- each of the first n operations waits only for ones before it, and is not guarded -/
def lexB (md : Region.Mode) (ops : Array Oper) (n : Nat) : Bool :=
  (List.range n).all fun i => match ops[i]? with
    | some o => o.guard.isNone && o.after.all fun e => !Region.binds md e || decide (e.on < i)
    | none => false
theorem lexB_spec {md : Region.Mode} {ops : Array Oper} {n : Nat} (h : lexB md ops n = true) {i : Nat} (hi : i < n) : ∃ o, ops[i]? = some o ∧ o.guard = none ∧ ∀ e ∈ o.after, Region.binds md e = true → e.on < i := by
  have h1 := List.all_eq_true.1 h i (List.mem_range.2 hi)
  cases ho : ops[i]? with
  | none => rw [ho] at h1; cases h1
  | some o =>
    rw [ho] at h1
    simp only [Bool.and_eq_true, Option.isNone_iff_eq_none] at h1
    refine ⟨o, rfl, h1.1, fun e he hb => ?_⟩
    have h2 := Array.all_eq_true_iff_forall_mem.1 h1.2 e he
    simpa [hb] using h2

/-- all of the first n are listed, none behind -/
def allHead (n m : Nat) : Array Bool := Array.replicate n true ++ Array.replicate m false

theorem split_any {P : Program} {ops ops' : Array Oper} {Q : Exit → Act → World → Prop} {md : Region.Mode} {n : Nat} {tail : List Oper} (hs : Region.sinkB md ops n = true) (hc : Region.chainB md ops n = true) (hn : n < ops.size) (hx : lexB md ops n = true)
    (hsz : ops'.size = n) (hsame : ∀ i, i < n → ops'[i]? = ops[i]?) (htl : ∀ j, tail[j]? = ops[n + j]?) (hseq : Region.seqB md ops tail.length n (allHead n (ops.size - n)) = true) :
    ∀ (f : Nat) (listed' listed : Array Bool) (a : Act) (w : World), listed'.size = n → HeadInv md ops n listed → (∀ k, k < n → ∀ d, listed'.getD k d = listed.getD k d) →
      wpAny P md ops' (Exit.then (fun a w => wpList P ops Q tail a w) Q) f listed' a w → wpAny P md ops Q (f + tail.length) listed a w := by
  have hready : ∀ (listed' listed : Array Bool), listed'.size = n → HeadInv md ops n listed → (∀ k, k < n → ∀ d, listed'.getD k d = listed.getD k d) → ∀ i, i < n → (i ∈ Region.ready md ops listed ↔ i ∈ Region.ready md ops' listed') := by
    intro listed' listed hl hinv hsm i hi
    obtain ⟨o, ho, _, hlt⟩ := lexB_spec hx hi
    rw [mem_ready, mem_ready, hsame i hi, hsm i hi true]
    have key : ∀ e ∈ o.after, Region.binds md e = true → listed'.getD e.on false = listed.getD e.on false := fun e he hb => hsm _ (Nat.lt_trans (hlt e he hb) hi) false
    constructor
    · rintro ⟨h0, o2, ho2, hall⟩
      have : o2 = o := Option.some.inj (ho2.symm.trans ho)
      subst this
      exact ⟨h0, o2, ho2, fun e he hb => (key e he hb).trans (hall e he hb)⟩
    · rintro ⟨h0, o2, ho2, hall⟩
      have : o2 = o := Option.some.inj (ho2.symm.trans ho)
      subst this
      exact ⟨h0, o2, ho2, fun e he hb => (key e he hb).symm.trans (hall e he hb)⟩
  have hlow : ∀ (listed' : Array Bool), Region.ready md ops' listed' = [] → listed'.size = n → ∀ i, i < n → listed'.getD i true = true := by
    intro listed' h0 hl i
    induction i using Nat.strongRecOn with
    | _ i ih =>
      intro hi
      cases hb : listed'.getD i true with
      | true => rfl
      | false =>
        exfalso
        obtain ⟨o, ho, _, hlt⟩ := lexB_spec hx hi
        have : i ∈ Region.ready md ops' listed' := mem_ready.2 ⟨hb, o, (hsame i hi).trans ho, fun e he hb2 => by
          have h1 := hlt e he hb2
          have h2 := ih e.on h1 (by omega)
          have h3 : e.on < listed'.size := by omega
          simp [h3] at h2 ⊢
          exact h2⟩
        rw [h0] at this
        cases this
  have hhead : ∀ (listed' listed : Array Bool), listed'.size = n → HeadInv md ops n listed → (∀ k, k < n → ∀ d, listed'.getD k d = listed.getD k d) → Region.ready md ops' listed' = [] → listed = allHead n (ops.size - n) := by
    intro listed' listed hl hinv hsm h0
    apply Array.ext_getElem?
    intro k
    unfold allHead
    by_cases hk : k < n
    · have h1 := hlow listed' h0 hl k hk
      rw [hsm k hk true] at h1
      have h2 : k < listed.size := by rw [hinv.size]; omega
      rw [Array.getElem?_append_left (by simpa using hk)]
      simp [h2] at h1
      simp [h2, h1, hk]
    · by_cases hk2 : k < ops.size
      · have h1 := hinv.tail k (by omega) hk2
        have h2 : k < listed.size := by rw [hinv.size]; exact hk2
        rw [Array.getElem?_append_right (by simp; omega)]
        simp [h2] at h1
        rw [Array.getElem?_eq_getElem h2, h1, Array.getElem?_replicate, if_pos (by simp; omega)]
      · rw [Array.getElem?_eq_none (by rw [hinv.size]; omega), Array.getElem?_eq_none (by simp; omega)]
  intro f
  induction f with
  | zero =>
    intro listed' listed a w hl hinv hsm h
    obtain ⟨h0, hq⟩ := h
    rw [Nat.zero_add, hhead listed' listed hl hinv hsm h0]
    exact wpAny_of_seq tail n _ a w htl hseq hq
  | succ f ih =>
    intro listed' listed a w hl hinv hsm h
    obtain ⟨hq, hstep⟩ := h
    by_cases h0 : Region.ready md ops' listed' = []
    · rw [hhead listed' listed hl hinv hsm h0]
      exact wpAny_plus (wpAny_of_seq tail n _ a w htl hseq (hq h0)) _
    · obtain ⟨i, hi⟩ : ∃ i, i ∈ Region.ready md ops' listed' := List.exists_mem_of_ne_nil _ h0
      have hin : i < n := by
        obtain ⟨_, o, ho, _⟩ := mem_ready.1 hi
        have := (Array.getElem?_eq_some_iff.1 ho).1
        omega
      have hun : listed.getD i true = false := by rw [← hsm i hin true]; exact (mem_ready.1 hi).1
      have hmem : i ∈ Region.ready md ops listed := (hready listed' listed hl hinv hsm i hin).2 hi
      rw [show f + 1 + tail.length = (f + tail.length) + 1 by omega]
      refine ⟨fun h1 => absurd hmem (by rw [h1]; exact List.not_mem_nil), fun j hj => ?_⟩
      have hjn : j < n := by
        rcases Nat.lt_or_ge j n with h2 | h2
        · exact h2
        · exact absurd hj (tail_waits hs hc hn hinv _ i rfl hin hun j h2)
      have hj' := (hready listed' listed hl hinv hsm j hjn).1 hj
      have h2 := hstep j hj'
      obtain ⟨o, ho, hg, _⟩ := lexB_spec hx hjn
      have hw : ∀ ys, Region.wanted o ys = true := fun ys => by simp [Region.wanted, hg]
      unfold wpOp at h2 ⊢
      rw [hsame j hjn, ho] at h2
      rw [ho]
      simp only [hw, if_true] at h2 ⊢
      refine h2.imp (fun h3 => Oper.wp_mono (fun a' w' h4 => ih _ _ a' w' (by simpa using hl) (hinv.set hj hjn) (fun k hk d => ?_) h4) (wp_then h3)) (fun h3 => h3)
      by_cases hjk : j = k
      · subst hjk
        have q1 : j < listed'.size := by omega
        have q2 : j < listed.size := by rw [hinv.size]; omega
        simp [q1, q2]
      · rw [getD_set_ne d hjk, getD_set_ne d hjk]; exact hsm k hk d

/-- what is checked of a region that ends in operations which wait for all others -/
def splitB (l : List Oper) (n : Nat) : Bool :=
  decide (n < l.length) && Region.sinkB .any l.toArray n && Region.chainB .any l.toArray n && lexB .any l.toArray n && Region.seqB .any l.toArray (l.length - n) n (allHead n (l.length - n))

theorem wp_region_split {P : Program} {id : Nat} {Q : Exit → Act → World → Prop} {a : Act} {w : World} {l : List Oper} (n : Nat) (hm : P.follows .mixedOrders = true) (hB : splitB l n = true)
    (h : wpAny P .any (l.take n).toArray (Exit.then (fun a w => wpList P l.toArray Q (l.drop n) a w) Q) n (Array.replicate n false) a w.drew) : (Code.region id l.toArray true).wp P Q a w := by
  simp only [splitB, Bool.and_eq_true, decide_eq_true_eq] at hB
  obtain ⟨⟨⟨⟨hn, hs⟩, hc⟩, hx⟩, hq⟩ := hB
  have hn' : n < l.toArray.size := by simpa using hn
  refine wp_region_any hm ?_
  have hdl : (l.drop n).length = l.length - n := by simp
  have H := split_any (P := P) (Q := Q) (ops' := (l.take n).toArray) (tail := l.drop n) hs hc hn' hx (by simp; omega) (fun i hi => by simp [List.getElem?_take, hi]) (fun j => by simp [List.getElem?_drop]) (by rw [hdl]; simpa using hq)
    n (Array.replicate n false) (Array.replicate l.toArray.size false) a w.drew (by simp)
    ⟨by simp, fun j oj _ hl => (by rw [getD_replicate_false] at hl; cases hl), fun t _ ht => getD_in (by simpa using ht) (getD_replicate_false _ _)⟩
    (fun k hk d => by have : k < l.length := by omega
                      simp [hk, this]) h
  rw [hdl, show n + (l.length - n) = l.toArray.size by simp; omega] at H
  exact H
end Go.Proofs.YtableoihgkmbjaaGreat
end
section
namespace Go.Proofs.YtableoihgkmbjaaGreat
open Go.RowKit
set_option linter.unusedVariables false

/-- the blocks of the variables: row, length, columns, yield, grow, s, walk -/
structure Bk where
  R : Nat
  L : Nat
  C : Nat
  Y : Nat
  G : Nat
  S : Nat
  V : Nat

def Bk.caps (b : Bk) : Array Value := #[.pointer (some ⟨b.R, 0, none⟩), .pointer (some ⟨b.L, 0, none⟩), .pointer (some ⟨b.C, 0, none⟩), .pointer (some ⟨b.Y, 0, none⟩), .pointer (some ⟨b.G, 0, none⟩), .pointer (some ⟨b.S, 0, none⟩), .pointer (some ⟨b.V, 0, none⟩)]

/-- the variables that no one writes -/
structure FInv (k w n : Nat) (b : Bk) (l : Nat) (A : World) : Prop where
  yd : A.heap[b.Y]? = some (.cells #[.func (.yield l) #[] #[]] 111 (0, 0))
  fn : A.heap[b.G]? = some (.cells #[.func (.func 39) #[] #[]] 112 (0, 0))
  wk : A.heap[b.V]? = some (.cells #[.func (.func 80) #[] b.caps] 25 (0, 0))
  sp : A.heap[b.S]? = some (.cells #[.int .i64 k, .int .i64 w] 48 (0, 0))
  le : A.heap[b.L]? = some (.cells #[.int .i64 n] 3 (0, 0))

/-- the row and the columns, as they stand at a row -/
structure SInv (k w n : Nat) (b : Bk) (l B0 : Nat) (r : List K.Stp) (A : World) : Prop where
  fix : FInv k w n b l A
  row : ∃ Ar cr, A.heap[b.R]? = some (.cells #[.slice Ar r.length cr] 24 (0, 0)) ∧ OwnAt A 46 3 (.slice Ar r.length cr) r.length (flatS r) ∧ ∀ g, (Value.slice Ar r.length cr).ownBlock = some g → B0 ≤ g
  col : ∃ Ac cc us, A.heap[b.C]? = some (.cells #[.slice Ac (k + 2 + r.length) cc] 73 (0, 0)) ∧ OwnAt A 26 1 (.slice Ac (k + 2 + r.length) cc) (k + 2 + r.length) us ∧ Elems (ColC B0) A us (K.cols k w r) ∧ ∀ g, (Value.slice Ac (k + 2 + r.length) cc).ownBlock = some g → B0 ≤ g

/-- where the blocks lie -/
structure BkAt (b : Bk) (B0 : Nat) : Prop where
  R : B0 ≤ b.R
  C : B0 ≤ b.C
  Y : B0 ≤ b.Y
  G : B0 ≤ b.G
  V : B0 ≤ b.V

section
variable {k w n : Nat} {b : Bk} {l B0 : Nat} {r : List K.Stp} {A A' : World}

theorem FInv.keep (h : FInv k w n b l A) (hk : ∀ g o, A.heap[g]? = some o → (g = b.Y ∨ g = b.G ∨ g = b.V ∨ g = b.S ∨ g = b.L) → A'.heap[g]? = some o) : FInv k w n b l A' :=
  ⟨hk _ _ h.yd (by simp), hk _ _ h.fn (by simp), hk _ _ h.wk (by simp), hk _ _ h.sp (by simp), hk _ _ h.le (by simp)⟩

/-- each block of the walk's stays: then all of it stays -/
theorem SInv.keep (hb : BkAt b B0) (h : SInv k w n b l B0 r A) (hk : ∀ g o, A.heap[g]? = some o → (B0 ≤ g ∨ g = b.S ∨ g = b.L) → A'.heap[g]? = some o) : SInv k w n b l B0 r A' := by
  obtain ⟨hf, ⟨Ar, cr, h1, h2, h3⟩, ⟨Ac, cc, us, c1, c2, c3, c4⟩⟩ := h
  have own : ∀ (e : TypeId) (s m : Nat) (v : Value) (xs : List Value), OwnAt A e s v m xs → (∀ g, v.ownBlock = some g → B0 ≤ g) → OwnAt A' e s v m xs := fun e s m v xs ho hg => ho.same fun g hgv => by
    obtain ⟨cur, hc⟩ := ho.typed g hgv
    exact (hk g _ hc (.inl (hg g hgv))).trans hc.symm
  refine ⟨hf.keep fun g o hg hor => hk g o hg ?_, ⟨Ar, cr, hk _ _ h1 (.inl hb.R), own _ _ _ _ _ h2 h3, h3⟩, ⟨Ac, cc, us, hk _ _ c1 (.inl hb.C), own _ _ _ _ _ c2 c4, c3.map_ fun u x hu => ?_, c4⟩⟩
  · rcases hor with rfl | rfl | rfl | rfl | rfl
    · exact .inl hb.Y
    · exact .inl hb.G
    · exact .inl hb.V
    · exact .inr (.inl rfl)
    · exact .inr (.inr rfl)
  · obtain ⟨q, e1, e2, e3⟩ := hu
    exact ⟨q, e1, e2, hk _ _ e3 (.inl e2)⟩
theorem SInv.below (hb : BkAt b B0) (h : SInv k w n b l B0 r A) (hB : Below A.heap.size A A') : SInv k w n b l B0 r A' :=
  h.keep hb fun g o hg _ => (hB.block g (Array.getElem?_eq_some_iff.1 hg).1).trans hg
theorem SInv.kpt (hb : BkAt b B0) (h : SInv k w n b l B0 r A) (hK : Kpt B0 A A') (hS : A'.heap[b.S]? = some (.cells #[.int .i64 k, .int .i64 w] 48 (0, 0))) (hL : A'.heap[b.L]? = some (.cells #[.int .i64 n] 3 (0, 0))) : SInv k w n b l B0 r A' := by
  refine h.keep hb fun g o hg hor => ?_
  rcases hor with h1 | rfl | rfl
  · exact (hK.block g h1 (Array.getElem?_eq_some_iff.1 hg).1).trans hg
  · rw [h.fix.sp] at hg; rw [← hg]; exact hS
  · rw [h.fix.le] at hg; rw [← hg]; exact hL

theorem SInv.meaning (hk : k = 1 ∨ k = 2) (hsz : K.size k w ≤ 64) (h : SInv k w n b l B0 r A) : ∃ Ac cc q, A.heap[b.C]? = some (.cells #[.slice Ac (k + 2 + r.length) cc] 73 (0, 0)) ∧
    (∃ b1 off, Ac = some ⟨b1, off, none⟩ ∧ b1 < A.heap.size ∧ A.cell? ⟨b1, off + (if r.length = 0 then 0 else k + 2 + r.length - 1), none⟩ = some (.slice (some ⟨q, 0, none⟩) (K.size k w) (K.size k w))) ∧ SlAt (IntR .u32) A (some ⟨q, 0, none⟩) (K.size k w) (K.meaning k w r) := by
  obtain ⟨_, _, ⟨Ac, cc, us, c1, c2, c3, c4⟩⟩ := h
  have hi : (if r.length = 0 then 0 else k + 2 + r.length - 1) < k + 2 + r.length := by split <;> omega
  obtain ⟨b1, off, u, hA, hb1, hcell, hu⟩ := c2.at1 hi
  obtain ⟨q, rfl, hq, hrow⟩ := c3.2 _ _ _ (K.meaning_cols hk r) hu
  have hml := K.meaning_len k w r
  refine ⟨Ac, cc, q, c1, ⟨b1, off, hA, hb1, by rw [hcell, hml]⟩, ?_⟩
  refine ⟨hml, by omega, fun j x hx => ⟨q, 0, .int .u32 x, rfl, (Array.getElem?_eq_some_iff.1 hrow).1, ?_, rfl⟩⟩
  rw [cell_of_row A q _ _ _ (0, 0) hrow, Nat.zero_add, List.getElem?_toArray, List.getElem?_map, hx]
  rfl
end
end Go.Proofs.YtableoihgkmbjaaGreat
end
section
namespace Go.Proofs.YtableoihgkmbjaaGreat
open Go.RowKit
set_option linter.unusedVariables false

/-- what the walk hands to yield -/
def RowArg (k w : Nat) (A : World) (r : List K.Stp) (args : Array Value) : Prop :=
  ∃ Ar cr Al cl, args = #[.slice Ar r.length cr, .slice Al (K.size k w) cl] ∧ StAt 3 StepR A Ar r.length r ∧ SlAt (IntR .u32) A Al (K.size k w) (K.meaning k w r)

theorem own_row {A : World} {Ar : Option Addr} {cr : Nat} {r : List K.Stp} (h : OwnAt A 46 3 (.slice Ar r.length cr) r.length (flatS r)) : StAt 3 StepR A Ar r.length r :=
  OwnAt.stAt h rfl (fun j x hx => by show _ = cellsS x; exact flatS_at r hx)

/-- what yield leaves behind, and what the walk tells of it -/
def Told (B0 : Nat) (A : World) (J Jx : World → Prop) (e : Ending) (A' : World) : Prop :=
  (e = .returned (.bool true) ∧ J A' ∧ Kpt B0 A A') ∨ (e = .returned (.bool false) ∧ Jx A' ∧ Kpt B0 A A')

/-- each block from B on stays, but for those of the four types in which the walk stores -/
structure Frm (B : Nat) (A A' : World) : Prop where
  size : A.heap.size ≤ A'.heap.size
  keep : ∀ g cs T z, B ≤ g → A.heap[g]? = some (.cells cs T z) → T ≠ 46 → T ≠ 24 → T ≠ 26 → T ≠ 73 → A'.heap[g]? = some (.cells cs T z)
theorem Frm.refl (B : Nat) (A : World) : Frm B A A := ⟨Nat.le_refl _, fun _ _ _ _ _ h _ _ _ _ => h⟩
theorem Frm.trans {B : Nat} {X Y Z : World} (h : Frm B X Y) (k : Frm B Y Z) : Frm B X Z := ⟨Nat.le_trans h.size k.size, fun g cs T z hg hc a b c d => k.keep g cs T z hg (h.keep g cs T z hg hc a b c d) a b c d⟩
theorem Kpt.frm {B : Nat} {A A' : World} (h : Kpt B A A') : Frm B A A' := ⟨h.size, fun g cs T z hg hc _ _ _ _ => (h.block g hg (Array.getElem?_eq_some_iff.1 hc).1).trans hc⟩
theorem one_cell {A : World} {g : Nat} {v : Value} {T : TypeId} (h : A.heap[g]? = some (.cells #[v] T (0, 0))) : A.cell? ⟨g, 0, none⟩ = some v := by
  rw [cell_of_row A g 0 _ T (0, 0) h]; rfl

set_option maxRecDepth 100000 in
set_option maxHeartbeats 400000 in
theorem walk0_any {k w n : Nat} {b : Bk} {l B0 : Nat} {r : List K.Stp} (hk : k = 1 ∨ k = 2) (hsz : K.size k w ≤ 64) (hb : BkAt b B0) (hr : r.length = n) (hn : n ≤ 3) (J Jx : World → Prop)
    (hJ : ∀ A, J A ∨ Jx A → A.heap[b.S]? = some (.cells #[.int .i64 k, .int .i64 w] 48 (0, 0)) ∧ A.heap[b.L]? = some (.cells #[.int .i64 n] 3 (0, 0)))
    (A : World) (hS : SInv k w n b l B0 r A) (hY : ∀ args, RowArg k w A r args → YieldAt Fence.wide 0 Tryz.prog l args A (Told B0 A J Jx)) :
    Calls Tryz.prog 80 b.caps A fun e A' => SInv k w n b l B0 r A' ∧ Frm B0 A A' ∧ ((e = .returned (.bool true) ∧ J A') ∨ (e = .returned (.bool false) ∧ Jx A')) := by
  obtain ⟨hf, ⟨Ar, cr, h1, h2, h3⟩, ⟨Ac, cc, us, c1, c2, c3, c4⟩⟩ := id hS
  have hclen : ∀ x ∈ K.cols k w r, x.length = K.size k w := fun x hx => by
    obtain ⟨j, hj, rfl⟩ := List.mem_iff_getElem.1 hx
    have hj' : j < k + 2 + r.length := by rw [K.cols_len] at hj; exact hj
    have := K.cols_at (w := w) hj'
    rw [List.getElem?_eq_getElem hj] at this
    rw [Option.some.inj this, K.col_len]
  obtain ⟨b1, off, q0, hA, hb1, hcell0, hq0, hjunk⟩ := colC_at c2 c3 (i := 0) (by omega) hclen
  subst hA
  obtain ⟨Ac', cc', q, c1', ⟨b1', off', hA', _, hcell⟩, hsl⟩ := SInv.meaning hk hsz hS
  rw [c1] at c1'
  simp only [Option.some.injEq, Obj.cells.injEq, Array.mk.injEq, List.cons.injEq, Value.slice.injEq, and_true, true_and] at c1'
  rw [hA'] at c1'
  obtain ⟨e1, _⟩ := c1'
  injection e1 with e1
  injection e1 with e2 e3
  subst e2
  subst e3
  have HS := Lib.hid hS
  have HArg := Lib.hid (hY _ ⟨Ar, cr, some ⟨q, 0, none⟩, K.size k w, rfl, own_row h2, hsl⟩)
  have HJ := Lib.hid hJ
  have Hb := Lib.hid hb
  have hcR := one_cell h1
  have hcC := one_cell c1
  have hcL := one_cell hf.le
  have hcY := one_cell hf.yd
  obtain ⟨M, hM⟩ : ∃ M, k + 2 + r.length = M + 1 := ⟨k + 1 + r.length, by omega⟩
  rw [hM] at hcC hcell
  have hM9 : M ≤ 100 := by omega
  subst hr
  clear hS hY hJ hb hf h1 h2 h3 c1 c2 c3 c4 hclen hsl hq0 hk hsz hjunk
  obtain ⟨fn, tmps, assign, body, hy, hR⟩ := HArg.out
  obtain ⟨Z, hZ⟩ : ∃ Z, Z = K.size k w := ⟨_, rfl⟩
  rw [← hZ] at hcell hcell0 hy
  clear hZ
  simp only [Bk.caps]
  rcases Nat.eq_zero_or_pos r.length with h0 | h0
  · rw [h0] at hcR hcL hcell hy hn
    simp only [if_true, Nat.add_zero] at hcell
    clear hcell0 hM
    have Hy := Lib.hid hy; clear hy
    refine (callsIn_wide (n := 1)).1 (callsIn_of_wp Tryz.func80 rfl trivial ?_)
    simp only [Tryz.ntmps80, List.size_toArray, List.length_cons, List.length_nil, Nat.reduceAdd, Nat.reduceSub, Array.replicate_succ, Array.replicate_zero, List.push_toArray, List.append_toArray, List.nil_append, List.cons_append]
    have hy := Hy.out
    gi_wp2
    refine hR.mono ?_
    rintro e W2 (⟨rfl, hj, hK⟩ | ⟨rfl, hj, hK⟩)
    · have HK := Lib.hid hK; clear hK
      gi_wp2
      go_ret
      exact ⟨SInv.kpt Hb.out HS.out HK.out (HJ.out _ (.inl hj)).1 (HJ.out _ (.inl hj)).2, HK.out.frm, .inl ⟨rfl, hj⟩⟩
    · have HK := Lib.hid hK; clear hK
      gi_wp2
      go_ret
      exact ⟨SInv.kpt Hb.out HS.out HK.out (HJ.out _ (.inr hj)).1 (HJ.out _ (.inr hj)).2, HK.out.frm, .inr ⟨rfl, hj⟩⟩
  · have e1 : ¬ r.length = 0 := by omega
    have hpos : decide (0 < (r.length : Int)) = true := by simpa using h0
    have hM2 : k + 2 + r.length - 1 = M := by omega
    rw [if_neg e1, Nat.add_sub_cancel] at hcell
    clear hM hM2 e1
    rw [Nat.add_zero] at hcell0
    obtain ⟨N, hN⟩ : ∃ N : Nat, N = r.length := ⟨_, rfl⟩
    rw [← hN] at hcR hcL hy hn hpos h0
    have h0i : 0 < (N : Int) := by omega
    have HN := Lib.hid hN; clear hN
    have Hy := Lib.hid hy; clear hy
    refine (callsIn_wide (n := 1)).1 (callsIn_of_wp Tryz.func80 rfl trivial ?_)
    simp only [Tryz.ntmps80, List.size_toArray, List.length_cons, List.length_nil, Nat.reduceAdd, Nat.reduceSub, Array.replicate_succ, Array.replicate_zero, List.push_toArray, List.append_toArray, List.nil_append, List.cons_append]
    have hy := Hy.out
    gi_wp2
    refine hR.mono ?_
    rintro e W2 (⟨rfl, hj, hK⟩ | ⟨rfl, hj, hK⟩)
    · have HK := Lib.hid hK; clear hK
      gi_wp2
      go_ret
      exact ⟨SInv.kpt Hb.out HS.out HK.out (HJ.out _ (.inl hj)).1 (HJ.out _ (.inl hj)).2, HK.out.frm, .inl ⟨rfl, hj⟩⟩
    · have HK := Lib.hid hK; clear hK
      gi_wp2
      go_ret
      exact ⟨SInv.kpt Hb.out HS.out HK.out (HJ.out _ (.inr hj)).1 (HJ.out _ (.inr hj)).2, HK.out.frm, .inr ⟨rfl, hj⟩⟩
end Go.Proofs.YtableoihgkmbjaaGreat
end
section
namespace Go.Proofs.YtableoihgkmbjaaGreat
open Go.RowKit
set_option linter.unusedVariables false

theorem ty_ne {A : World} {g g' : Nat} {cs cs' : Array Value} {T T' : TypeId} {z z' : Nat × Nat} (h : A.heap[g]? = some (.cells cs T z)) (h' : A.heap[g']? = some (.cells cs' T' z')) (hne : T ≠ T') : g ≠ g' := by
  rintro rfl
  rw [h] at h'
  injection h' with h'
  injection h' with _ h2 _
  exact hne h2

theorem FInv.typed {k w n : Nat} {b : Bk} {l : Nat} {A : World} (h : FInv k w n b l A) : ∀ g, (g = b.Y ∨ g = b.G ∨ g = b.V ∨ g = b.S ∨ g = b.L) → ∃ cs T z, A.heap[g]? = some (.cells cs T z) ∧ T ≠ 46 ∧ T ≠ 24 ∧ T ≠ 26 ∧ T ≠ 73 := by
  rintro g (rfl | rfl | rfl | rfl | rfl)
  · exact ⟨_, _, _, h.yd, by decide, by decide, by decide, by decide⟩
  · exact ⟨_, _, _, h.fn, by decide, by decide, by decide, by decide⟩
  · exact ⟨_, _, _, h.wk, by decide, by decide, by decide, by decide⟩
  · exact ⟨_, _, _, h.sp, by decide, by decide, by decide, by decide⟩
  · exact ⟨_, _, _, h.le, by decide, by decide, by decide, by decide⟩

/-- what stays where two one-cell blocks of two types are stored into -/
theorem two_set {A : World} {R C : Nat} {x0 y0 x y : Value} {T U : TypeId} (hR : A.heap[R]? = some (.cells #[x0] T (0, 0))) (hC : A.heap[C]? = some (.cells #[y0] U (0, 0))) (hne : T ≠ U) :
    ((A.setCell ⟨R, 0, none⟩ x).setCell ⟨C, 0, none⟩ y).heap[R]? = some (.cells #[x] T (0, 0)) ∧ ((A.setCell ⟨R, 0, none⟩ x).setCell ⟨C, 0, none⟩ y).heap[C]? = some (.cells #[y] U (0, 0)) ∧
    ∀ g, g ≠ R → g ≠ C → ((A.setCell ⟨R, 0, none⟩ x).setCell ⟨C, 0, none⟩ y).heap[g]? = A.heap[g]? := by
  have h0 := ty_ne hR hC hne
  have h1 := one_setCell (u := x) hR
  refine ⟨?_, ?_, fun g hg hg' => ?_⟩
  · rw [heap_setCell_other _ _ _ _ (by exact h0)]; exact h1
  · refine one_setCell (v := y0) ?_
    rw [heap_setCell_other _ _ _ _ (by exact h0.symm)]; exact hC
  · rw [heap_setCell_other _ _ _ _ (by exact hg'), heap_setCell_other _ _ _ _ (by exact hg)]

section
variable {k w n : Nat} {b : Bk} {l B0 : Nat} {r : List K.Stp} {A : World}

/-- both variables written: what lies in them now -/
theorem SInv.put {x0 y0 : Value} {Ar Ac : Option Addr} {cr cc : Nat} {us : List Value} (hF : FInv k w n b l A)
    (hR : A.heap[b.R]? = some (.cells #[x0] 24 (0, 0))) (hC : A.heap[b.C]? = some (.cells #[y0] 73 (0, 0)))
    (hrow : OwnAt A 46 3 (.slice Ar r.length cr) r.length (flatS r)) (hrb : ∀ g, (Value.slice Ar r.length cr).ownBlock = some g → B0 ≤ g)
    (hcol : OwnAt A 26 1 (.slice Ac (k + 2 + r.length) cc) (k + 2 + r.length) us) (hel : Elems (ColC B0) A us (K.cols k w r)) (hcb : ∀ g, (Value.slice Ac (k + 2 + r.length) cc).ownBlock = some g → B0 ≤ g) :
    SInv k w n b l B0 r ((A.setCell ⟨b.R, 0, none⟩ (.slice Ar r.length cr)).setCell ⟨b.C, 0, none⟩ (.slice Ac (k + 2 + r.length) cc)) := by
  obtain ⟨e1, e2, e3⟩ := two_set (x := .slice Ar r.length cr) (y := .slice Ac (k + 2 + r.length) cc) hR hC (by decide)
  have stay : ∀ (g : Nat) (cs : Array Value) (T : TypeId) (z : Nat × Nat), A.heap[g]? = some (.cells cs T z) → T ≠ 24 → T ≠ 73 → ((A.setCell ⟨b.R, 0, none⟩ (.slice Ar r.length cr)).setCell ⟨b.C, 0, none⟩ (.slice Ac (k + 2 + r.length) cc)).heap[g]? = A.heap[g]? := fun g cs T z hg h1 h2 => e3 g (ty_ne hg hR h1) (ty_ne hg hC h2)
  refine ⟨hF.keep fun g o hg hor => ?_, ⟨Ar, cr, e1, hrow.same fun g hg => ?_, hrb⟩, ⟨Ac, cc, us, e2, hcol.same fun g hg => ?_, hel.map_ fun u x hu => ?_, hcb⟩⟩
  · obtain ⟨cs, T, z, h1, _, h3, _, h5⟩ := hF.typed g hor
    rw [stay g cs T z h1 h3 h5]; exact hg
  · obtain ⟨cur, hc⟩ := hrow.typed g hg
    exact stay g _ _ _ hc (by decide) (by decide)
  · obtain ⟨cur, hc⟩ := hcol.typed g hg
    exact stay g _ _ _ hc (by decide) (by decide)
  · obtain ⟨q, h1, h2, h3⟩ := hu
    exact ⟨q, h1, h2, (stay q _ _ _ h3 (by decide) (by decide)).trans h3⟩
theorem frm_two {B : Nat} {x0 y0 x y : Value} {R C : Nat} (hR : A.heap[R]? = some (.cells #[x0] 24 (0, 0))) (hC : A.heap[C]? = some (.cells #[y0] 73 (0, 0))) :
    Frm B A ((A.setCell ⟨R, 0, none⟩ x).setCell ⟨C, 0, none⟩ y) := by
  obtain ⟨e1, e2, e3⟩ := two_set (x := x) (y := y) hR hC (by decide)
  refine ⟨by simp, fun g cs T z hg hc a1 a2 a3 a4 => ?_⟩
  rw [e3 g (ty_ne hc hR a2) (ty_ne hc hC a4)]; exact hc

theorem OwnAt.front {e : TypeId} {s : Nat} {Ad : Option Addr} {n m c : Nat} {xs : List Value} (h : OwnAt A e s (.slice Ad n c) n xs) (hm : m ≤ n) : OwnAt A e s (.slice Ad m c) m (xs.take (m * s)) := by
  have hms : m * s ≤ n * s := Nat.mul_le_mul_right _ hm
  refine ⟨by rw [List.length_take, h.1]; omega, ?_⟩
  rcases h.2 with ⟨h1, h2⟩ | ⟨g, off, cap, cur, h1, hg, h2, h3, h4, h5⟩
  · subst h2
    obtain rfl : m = 0 := by omega
    exact .inl ⟨h1, rfl⟩
  · injection h1 with e1 e2 e3
    subst e1 e3
    refine .inr ⟨g, off, c, cur, rfl, hg, by omega, h3, h4, fun j u hu => ?_⟩
    rw [List.getElem?_take] at hu
    split at hu
    · exact h5 j u hu
    · cases hu

theorem Elems.front {α : Type} {R : World → Value → α → Prop} {us : List Value} {xs ys : List α} (h : Elems R A us (xs ++ ys)) : Elems R A (us.take xs.length) xs := by
  have hl := h.1
  rw [List.length_append] at hl
  refine ⟨by rw [List.length_take]; omega, fun i x u hx hu => ?_⟩
  rw [List.getElem?_take] at hu
  split at hu
  · exact h.2 i x u (by rw [List.getElem?_append_left (by assumption)]; exact hx) hu
  · cases hu

/-- a step taken back: the slices that are stored -/
theorem SInv.shorter (hk : k = 1 ∨ k = 2) {s : K.Stp} (hs : K.okStep k r.length s) (h : SInv k w n b l B0 (r ++ [s]) A) :
    ∃ Ar cr Ac cc us, A.heap[b.R]? = some (.cells #[.slice Ar (r.length + 1) cr] 24 (0, 0)) ∧ r.length + 1 ≤ cr ∧ A.heap[b.C]? = some (.cells #[.slice Ac (k + 2 + r.length + 1) cc] 73 (0, 0)) ∧ k + 2 + r.length + 1 ≤ cc ∧
      cr ≤ maxLen ∧ cc ≤ maxLen ∧
      OwnAt A 46 3 (.slice Ar r.length cr) r.length (flatS r) ∧ (∀ g, (Value.slice Ar r.length cr).ownBlock = some g → B0 ≤ g) ∧
      OwnAt A 26 1 (.slice Ac (k + 2 + r.length) cc) (k + 2 + r.length) us ∧ Elems (ColC B0) A us (K.cols k w r) ∧ ∀ g, (Value.slice Ac (k + 2 + r.length) cc).ownBlock = some g → B0 ≤ g := by
  obtain ⟨_, ⟨Ar, cr, h1, h2, h3⟩, ⟨Ac, cc, us, c1, c2, c3, c4⟩⟩ := h
  have hl : (r ++ [s]).length = r.length + 1 := by simp
  rw [hl] at h1 h2 h3 c1 c2 c4
  rw [← Nat.add_assoc] at c1 c2 c4
  rw [K.cols_snoc hk r hs] at c3
  have hcl : (K.cols k w r).length = k + 2 + r.length := K.cols_len k w r
  have f3 := c3.front
  rw [hcl] at f3
  have f2 := c2.front (m := k + 2 + r.length) (by omega)
  rw [Nat.mul_one] at f2
  have g2 := h2.front (m := r.length) (by omega)
  have e : (flatS (r ++ [s])).take (r.length * 3) = flatS r := by
    rw [flatS_snoc, List.take_append_of_le_length (by rw [flatS_len]; omega), List.take_of_length_le (by rw [flatS_len]; omega)]
  rw [e] at g2
  have b1 : r.length + 1 ≤ cr ∧ cr ≤ maxLen := by
    rcases h2.2 with ⟨q1, q2⟩ | ⟨g, off, cap, cur, q1, _, q2, q3, _⟩
    · omega
    · injection q1 with _ _ e3; subst e3; exact ⟨q2, q3⟩
  have b2 : k + 2 + r.length + 1 ≤ cc ∧ cc ≤ maxLen := by
    rcases c2.2 with ⟨q1, q2⟩ | ⟨g, off, cap, cur, q1, _, q2, q3, _⟩
    · omega
    · injection q1 with _ _ e3; subst e3; exact ⟨q2, q3⟩
  refine ⟨Ar, cr, Ac, cc, _, h1, b1.1, c1, b2.1, b1.2, b2.2, g2, fun g hg => h3 g ?_, f2, f3, fun g hg => c4 g ?_⟩
  · cases Ar <;> simp [Value.ownBlock] at hg ⊢; exact hg
  · cases Ac <;> simp [Value.ownBlock] at hg ⊢; exact hg
end

/-- what stays while the row and the columns grow: each block but the two that they own -/
structure Kp (rw_ cl : Option Nat) (X Y : World) : Prop where
  size : X.heap.size ≤ Y.heap.size
  keep : ∀ g o, X.heap[g]? = some o → rw_ ≠ some g → cl ≠ some g → Y.heap[g]? = some o
section
variable {q1 q2 : Option Nat} {X Y Z : World}
theorem Kp.refl (q1 q2 : Option Nat) (X : World) : Kp q1 q2 X X := ⟨Nat.le_refl _, fun _ _ h _ _ => h⟩
theorem Kp.trans (h : Kp q1 q2 X Y) (k : Kp q1 q2 Y Z) : Kp q1 q2 X Z := ⟨Nat.le_trans h.size k.size, fun g o hg a b => k.keep g o (h.keep g o hg a b) a b⟩
theorem Kp.below (h : Below X.heap.size X Y) : Kp q1 q2 X Y := ⟨h.size, fun g o hg _ _ => (h.block g (Array.getElem?_eq_some_iff.1 hg).1).trans hg⟩
theorem Kp.alloc (X : World) (o : Obj) : Kp q1 q2 X (X.alloc o) := Kp.below ((Below.refl _ _).alloc (Nat.le_refl _) _)
theorem Kp.drew (X : World) : Kp q1 q2 X X.drew := Kp.below (Below.refl _ _).drew
theorem Kp.grown1 (h : X.grownBy Y q1) : Kp q1 q2 X Y := ⟨h.size, fun g o hg a _ => (h.block g (Array.getElem?_eq_some_iff.1 hg).1 (fun e => a e.symm)).trans hg⟩
theorem Kp.grown2 (h : X.grownBy Y q2) : Kp q1 q2 X Y := ⟨h.size, fun g o hg _ a => (h.block g (Array.getElem?_eq_some_iff.1 hg).1 (fun e => a e.symm)).trans hg⟩
/-- the two blocks have types of their own -/
def Two (q1 q2 : Option Nat) (X : World) : Prop := (∀ g, q1 = some g → ∃ cur, X.heap[g]? = some (.cells cur 46 (0, 0))) ∧ ∀ g, q2 = some g → ∃ cur, X.heap[g]? = some (.cells cur 26 (0, 0))
theorem Kp.ty (h : Kp q1 q2 X Y) (h2 : Two q1 q2 X) {g : Nat} {cs : Array Value} {T : TypeId} {z : Nat × Nat} (hg : X.heap[g]? = some (.cells cs T z)) (a : T ≠ 46) (b : T ≠ 26) : Y.heap[g]? = some (.cells cs T z) := by
  refine h.keep g _ hg (fun e => ?_) (fun e => ?_)
  · obtain ⟨cur, hc⟩ := h2.1 g e
    exact ty_ne hg hc a rfl
  · obtain ⟨cur, hc⟩ := h2.2 g e
    exact ty_ne hg hc b rfl
theorem Kp.frm {B : Nat} (h : Kp q1 q2 X Y) (h2 : Two q1 q2 X) : Frm B X Y := ⟨h.size, fun g cs T z _ hc a1 _ a3 _ => h.ty h2 hc a1 a3⟩
theorem Kp.finv {k w n : Nat} {b : Bk} {l : Nat} (h : Kp q1 q2 X Y) (h2 : Two q1 q2 X) (hF : FInv k w n b l X) : FInv k w n b l Y := hF.keep fun g o hg hor => by
  obtain ⟨cs, T, z, h1, a1, _, a3, _⟩ := hF.typed g hor
  rw [hg] at h1
  rw [Option.some.inj h1]
  rw [Option.some.inj h1] at hg
  exact h.ty h2 hg a1 a3
theorem Kp.cols {B : Nat} {us : List Value} {cs : List (List Int)} (h : Kp q1 q2 X Y) (h2 : Two q1 q2 X) (he : Elems (ColC B) X us cs) : Elems (ColC B) Y us cs := he.map_ fun u x hu => by
  obtain ⟨q, a1, a2, a3⟩ := hu
  exact ⟨q, a1, a2, h.ty h2 a3 (by decide) (by decide)⟩
theorem Kp.one {g : Nat} {v : Value} {T : TypeId} (h : Kp q1 q2 X Y) (h2 : Two q1 q2 X) (hg : X.heap[g]? = some (.cells #[v] T (0, 0))) (a : T ≠ 46) (b : T ≠ 26) : Y.cell? ⟨g, 0, none⟩ = some v := one_cell (h.ty h2 hg a b)
end

theorem cols_each {k w : Nat} {r : List K.Stp} {x : List Int} (hx : x ∈ K.cols k w r) : x.length = K.size k w := by
  obtain ⟨j, hj, rfl⟩ := List.mem_iff_getElem.1 hx
  have hj' : j < k + 2 + r.length := by rw [K.cols_len] at hj; exact hj
  have := K.cols_at (w := w) hj'
  rw [List.getElem?_eq_getElem hj] at this
  rw [Option.some.inj this, K.col_len]
theorem cols_pos {k w : Nat} (hk : k = 1 ∨ k = 2) (hw : w = 1 ∨ w = 2 ∨ w = 3) (r : List K.Stp) (i j : Nat) : 0 ≤ ((K.cols k w r).getD i []).getD j 0 := by
  by_cases hi : i < k + 2 + r.length
  · by_cases hj : j < K.size k w
    · rw [K.cols_getD hi hj]
      exact ((K.W32.base hk (by omega) hj).vals r).at i |>.1
    · have e : (K.cols k w r).getD i [] = K.col k w r i := by rw [List.getD_eq_getElem?_getD, K.cols_at hi, Option.getD_some]
      rw [e, List.getD_eq_getElem?_getD, List.getElem?_eq_none (by rw [K.col_len]; omega)]
      exact Int.le_refl _
  · have e : (K.cols k w r).getD i [] = [] := by rw [List.getD_eq_getElem?_getD, List.getElem?_eq_none (by rw [K.cols_len]; omega)]; rfl
    rw [e]
    simp

theorem okRow_snoc {k : Nat} {r : List K.Stp} {s : K.Stp} (h : K.okRow k r) (hs : K.okStep k r.length s) : K.okRow k (r ++ [s]) := by
  intro i x hx
  by_cases hi : i < r.length
  · rw [List.getElem?_append_left hi] at hx; exact h i x hx
  · have hl : i < (r ++ [s]).length := (List.getElem?_eq_some_iff.1 hx).1
    simp at hl
    obtain rfl : i = r.length := by omega
    simp at hx
    subst hx
    exact hs
theorem done_next {k m t : Nat} {r : List K.Stp} {s : K.Stp} (h : (K.steps k r.length)[t]? = some s) :
    ((K.steps k r.length).take (t + 1)).flatMap (fun s => K.below k m (r ++ [s])) = ((K.steps k r.length).take t).flatMap (fun s => K.below k m (r ++ [s])) ++ K.below k m (r ++ [s]) := by
  rw [K.take_succ_at h, List.flatMap_append]
  simp
theorem done_pre {k m t : Nat} {r : List K.Stp} {s : K.Stp} {pre xs : List (List K.Stp)} (h : (K.steps k r.length)[t]? = some s) (hp : pre ++ K.below k (m + 1) r <+: xs) :
    pre ++ ((K.steps k r.length).take t).flatMap (fun s => K.below k m (r ++ [s])) ++ K.below k m (r ++ [s]) <+: xs := by
  refine List.IsPrefix.trans ?_ hp
  rw [List.append_assoc, ← done_next h]
  refine (List.prefix_append_right_inj pre).2 ?_
  show _ <+: (K.steps k r.length).flatMap fun s => K.below k m (r ++ [s])
  refine ⟨((K.steps k r.length).drop (t + 1)).flatMap fun s => K.below k m (r ++ [s]), ?_⟩
  rw [← List.flatMap_append, List.take_append_drop]
theorem below_two {B : Nat} {A X : World} {R C : Nat} {x y : Value} (h : Below B A X) (hR : B ≤ R) (hC : B ≤ C) : Below B A ((X.setCell ⟨R, 0, none⟩ x).setCell ⟨C, 0, none⟩ y) := (h.setCell (p := ⟨R, 0, none⟩) hR _).setCell (p := ⟨C, 0, none⟩) hC _

theorem pops_any (W : World) : Calls Tryz.prog 37 #[] W fun e w' => e = .returned (.slice (some ⟨W.heap.size, 0, none⟩) 7 7) ∧ w' = W.alloc (.cells #[.int .i64 1, .int .i64 2, .int .i64 8, .int .i64 9, .int .i64 10, .int .i64 11, .int .i64 12] 3) := by
  go_enter Tryz.func37, Tryz.ntmps37
  go_wp2
  go_ret
  exact ⟨rfl, rfl⟩
theorem ops_at {q : Nat} (h : q < 7) : ∃ o, K.ops[q]? = some o ∧ (#[.int .i64 1, .int .i64 2, .int .i64 8, .int .i64 9, .int .i64 10, .int .i64 11, .int .i64 12] : Array Value)[q]? = some (.int .i64 o) := by
  have : q = 0 ∨ q = 1 ∨ q = 2 ∨ q = 3 ∨ q = 4 ∨ q = 5 ∨ q = 6 := by omega
  rcases this with rfl | rfl | rfl | rfl | rfl | rfl | rfl <;> exact ⟨_, rfl, rfl⟩
end Go.Proofs.YtableoihgkmbjaaGreat
end
section
namespace Go.Proofs.YtableoihgkmbjaaGreat
open Go.RowKit
set_option linter.unusedVariables false
set_option linter.unusedSimpArgs false

/-- the types of the walk's two variables that it stores into behind yield's last word -/
def RowEx (T : TypeId) : Prop := T = 24 ∨ T = 73
/-- the walk from a row on, m steps more -/
def WalkC (k w n : Nat) (b : Bk) (l B0 : Nat) (J : List (List K.Stp) → World → Prop) (Jx : World → Prop) (xs : List (List K.Stp)) (m : Nat) : Prop :=
  ∀ (pre : List (List K.Stp)) (r : List K.Stp) (A : World), K.okRow k r → r.length + m = n → pre ++ K.below k m r <+: xs → SInv k w n b l B0 r A → J pre A →
    Calls Tryz.prog 80 b.caps A fun e A' => SInv k w n b l B0 r A' ∧ Frm B0 A A' ∧ ((e = .returned (.bool true) ∧ J (pre ++ K.below k m r) A') ∨ (e = .returned (.bool false) ∧ Jx A'))

/-- what holds in the walk's loops, t steps done -/
structure LInv (k w n : Nat) (b : Bk) (l B0 : Nat) (J : List (List K.Stp) → World → Prop) (pre : List (List K.Stp)) (r : List K.Stp) (m : Nat) (A0 : World) (t : Nat) (X : World) : Prop where
  inv : SInv k w n b l B0 r X
  j : J (pre ++ ((K.steps k r.length).take t).flatMap fun s => K.below k m (r ++ [s])) X
  frm : Frm B0 A0 X

set_option maxRecDepth 100000 in
set_option maxHeartbeats 4000000 in
theorem walkS_any {k w n : Nat} {b : Bk} {l B0 : Nat} {J : List (List K.Stp) → World → Prop} {Jx : World → Prop} {xs : List (List K.Stp)} {m : Nat}
    (hk : k = 1 ∨ k = 2) (hw : w = 1 ∨ w = 2 ∨ w = 3) (hb : BkAt b B0) (hn : n ≤ 3) (hJ : ∀ pre, StayB B0 (J pre)) (hJx : ∀ A A', Jx A → Lst RowEx B0 A A' → Jx A') (ih : WalkC k w n b l B0 J Jx xs m) : WalkC k w n b l B0 J Jx xs (m + 1) := by
  intro pre r A hok hlen hpre hS hj
  have hsz : B0 ≤ A.heap.size := by have := (Array.getElem?_eq_some_iff.1 hS.fix.fn).1; have := hb.G; omega
  obtain ⟨M, hM⟩ : ∃ M, M = k + 2 + r.length := ⟨_, rfl⟩
  have hM6 : M ≤ 6 := by omega
  obtain ⟨A1, hA1⟩ : ∃ A1, A1 = A.alloc (.cells #[.int .i64 1, .int .i64 2, .int .i64 8, .int .i64 9, .int .i64 10, .int .i64 11, .int .i64 12] 3) := ⟨_, rfl⟩
  have hL0 : LInv k w n b l B0 J pre r m A1 0 A1 := ⟨hS.below hb (by rw [hA1]; exact (Below.refl _ _).alloc (Nat.le_refl _) _), by rw [List.take_zero, List.flatMap_nil, List.append_nil]; exact hJ _ _ _ hj (by rw [hA1]; exact (Below.refl _ _).alloc hsz _), Frm.refl _ _⟩
  have hrow1 : A1.heap[A.heap.size]? = some (.cells #[.int .i64 1, .int .i64 2, .int .i64 8, .int .i64 9, .int .i64 10, .int .i64 11, .int .i64 12] 3 (0, 0)) := by rw [hA1]; exact heap_alloc_new A _
  have hfrm1 : Frm B0 A A1 := by rw [hA1]; exact ⟨by simp, fun g cs T z hg hc _ _ _ _ => row_alloc hc _⟩
  obtain ⟨hf, ⟨Ar, cr, h1, h2, h3⟩, ⟨Ac, cc, us, c1, c2, c3, c4⟩⟩ := id hS
  have hcR := one_cell h1
  have hcC := one_cell c1
  have hcL := one_cell hf.le
  have hne : decide ((r.length : Int) = (n : Int)) = false := by simp; omega
  have hne2 : ¬ (r.length : Int) = (n : Int) := by omega
  have HL0 := Lib.hid hL0
  have Hrow1 := Lib.hid hrow1
  have Hfrm1 := Lib.hid hfrm1
  have Hb := Lib.hid hb
  have HJ := Lib.hid hJ
  have HJx := Lib.hid hJx
  have HI := Lib.hid ih
  have Hok := Lib.hid hok
  have Hpre := Lib.hid hpre
  have HA1 := Lib.hid hA1
  have Hlen := Lib.hid hlen
  have HM := Lib.hid hM
  have Hsz := Lib.hid hsz
  have Hk := Lib.hid hk
  have Hw := Lib.hid hw
  rw [← hM] at hcC
  clear hL0 hrow1 hfrm1 hb hJ hJx ih hok hpre hA1 hlen hM hsz hS hf h1 h2 h3 c1 c2 c3 c4 hj hk hw
  simp only [Bk.caps]
  go_enter Tryz.func80, Tryz.ntmps80
  go_wp2_with (go_at_call 37; (with_reducible refine (pops_any _).mono ?_); rintro e w1 ⟨rfl, hw1⟩; rw [← HA1.out] at hw1; subst hw1; clear hcR hcC hcL)
  go_loopg [39] (7 + 1) (fun g i wr => ∃ (q : Nat), q ≤ 7 ∧ i = .int .i64 (q : Int) ∧ g + q = 7 + 1 ∧ Hid (LInv k w n b l B0 J pre r m w1 (q * (M * M)) wr))
  case atStart => exact ⟨0, by omega, rfl, rfl, by rw [Nat.zero_mul]; exact HL0.out⟩
  case round =>
    clear HL0
    obtain ⟨q, hq, rfl, hgk, HL⟩ := hrel
    have Hgk := Lib.hid hgk; clear hgk
    obtain ⟨gO, hgO⟩ : ∃ g, g = gk := ⟨_, rfl⟩
    subst hgO
    by_cases hlq : q < 7
    · obtain ⟨o, ho, hcell⟩ := ops_at hlq
      have Ho := Lib.hid ho; clear ho
      have Hcell := Lib.hid (show ∀ X : World, Frm B0 w1 X → X.cell? ⟨A.heap.size, q, none⟩ = some (.int .i64 o) from fun X hX => by
        rw [cell_of_row _ _ _ _ _ (0, 0) (hX.keep _ _ _ _ Hsz.out Hrow1.out (by decide) (by decide) (by decide) (by decide))]; exact hcell)
      clear hcell
      have hc9 := Hcell.out wr HL.out.frm
      have hq7 : decide ((q : Int) < 7) = true := by simp; omega
      go_wp2
      clear hc9
      try simp only [hq7]
      clear hq7
      go_loopg [44] (M + 1) (fun g i wr => ∃ (a : Nat), a ≤ M ∧ i = .int .i64 (a : Int) ∧ g + a = M + 1 ∧ Hid (LInv k w n b l B0 J pre r m w1 (q * (M * M) + a * M) wr))
      case atStart => exact ⟨0, by omega, rfl, rfl, by rw [Nat.zero_mul]; exact HL.out⟩
      case round =>
        clear HL
        obtain ⟨a, ha, rfl, hgk, HL⟩ := hrel
        have Hgk2 := Lib.hid hgk; clear hgk
        obtain ⟨gP, hgP⟩ : ∃ g, g = gk := ⟨_, rfl⟩
        subst hgP
        by_cases hla : a < M
        · go_wp2
          go_loopg [48] (M + 1) (fun g i wr => ∃ (c : Nat), c ≤ M ∧ i = .int .i64 (c : Int) ∧ g + c = M + 1 ∧ Hid (LInv k w n b l B0 J pre r m w1 (q * (M * M) + (a * M + c)) wr))
          case atStart => exact ⟨0, by omega, rfl, rfl, HL.out⟩
          case round =>
            clear HL
            obtain ⟨c, hc, rfl, hgk, HL⟩ := hrel
            have Hgk3 := Lib.hid hgk; clear hgk
            by_cases hlc : c < M
            · obtain ⟨hf, ⟨Ar2, cr2, r1, r2, r3⟩, ⟨Ac2, cc2, us2, d1, d2, d3, d4⟩⟩ := id HL.out.inv
              rw [← HM.out] at d1 d2 d4
              obtain ⟨X0, hX0⟩ : ∃ X0, X0 = wr.alloc (.cells #[.int .i64 o, .int .i64 (a : Int), .int .i64 (c : Int)] 46) := ⟨_, rfl⟩
              obtain ⟨q1, hq1⟩ : ∃ q1, q1 = (Value.slice Ar2 r.length cr2).ownBlock := ⟨_, rfl⟩
              obtain ⟨q2, hq2⟩ : ∃ q2, q2 = (Value.slice Ac2 M cc2).ownBlock := ⟨_, rfl⟩
              have hTw : Two q1 q2 wr := ⟨by rw [hq1]; exact r2.typed, by rw [hq2]; exact d2.typed⟩
              have hK0 : Kp q1 q2 wr X0 := by rw [hX0]; exact Kp.alloc _ _
              have hT0 : Two q1 q2 X0 := ⟨fun g hg => by obtain ⟨cur, h⟩ := hTw.1 g hg; exact ⟨cur, by rw [hX0]; exact row_alloc h _⟩, fun g hg => by obtain ⟨cur, h⟩ := hTw.2 g hg; exact ⟨cur, by rw [hX0]; exact row_alloc h _⟩⟩
              have hx0 : X0.heap[wr.heap.size]? = some (.cells #[.int .i64 o, .int .i64 (a : Int), .int .i64 (c : Int)] 46 (0, 0)) := by rw [hX0]; exact heap_alloc_new wr _
              have hxn : q1 ≠ some wr.heap.size ∧ q2 ≠ some wr.heap.size := by
                refine ⟨fun e => ?_, fun e => ?_⟩
                · obtain ⟨cur, h⟩ := hTw.1 _ e; have := (Array.getElem?_eq_some_iff.1 h).1; omega
                · obtain ⟨cur, h⟩ := hTw.2 _ e; have := (Array.getElem?_eq_some_iff.1 h).1; omega
              have HSall := Lib.hid (show ∀ Y : World, Kp q1 q2 X0 Y → (Y.cell? ⟨b.R, 0, none⟩ = some (.slice Ar2 r.length cr2) ∧ Y.cell? ⟨b.C, 0, none⟩ = some (.slice Ac2 M cc2) ∧ Y.cell? ⟨wr.heap.size, 0, none⟩ = some (.int .i64 o) ∧ Y.cell? ⟨wr.heap.size, 1, none⟩ = some (.int .i64 (a : Int)) ∧ Y.cell? ⟨wr.heap.size, 2, none⟩ = some (.int .i64 (c : Int)) ∧
                  Y.cell? ⟨b.G, 0, none⟩ = some (.func (.func 39) #[] #[]) ∧ Y.cell? ⟨b.S, 0, none⟩ = some (.int .i64 (k : Int)) ∧ Y.cell? ⟨b.S, 1, none⟩ = some (.int .i64 (w : Int))) from fun Y hY => by
                have hKY := hK0.trans hY
                have hx := hY.keep _ _ hx0 hxn.1 hxn.2
                have hs := hKY.ty hTw hf.sp (by decide) (by decide)
                refine ⟨hKY.one hTw r1 (by decide) (by decide), hKY.one hTw d1 (by decide) (by decide), ?_, ?_, ?_, hKY.one hTw hf.fn (by decide) (by decide), ?_, ?_⟩
                · rw [cell_of_row _ _ _ _ _ (0, 0) hx]; rfl
                · rw [cell_of_row _ _ _ _ _ (0, 0) hx]; rfl
                · rw [cell_of_row _ _ _ _ _ (0, 0) hx]; rfl
                · rw [cell_of_row _ _ _ _ _ (0, 0) hs]; rfl
                · rw [cell_of_row _ _ _ _ _ (0, 0) hs]; rfl)
              have HX0 := Lib.hid hX0
              have Hq1 := Lib.hid hq1
              have Hq2 := Lib.hid hq2
              have HTw := Lib.hid hTw
              have HK0 := Lib.hid hK0
              have Hf := Lib.hid hf
              have Hr1 := Lib.hid r1
              have Hr2 := Lib.hid r2
              have Hr3 := Lib.hid r3
              have Hd1 := Lib.hid d1
              have Hd2 := Lib.hid d2
              have Hd3 := Lib.hid d3
              have Hd4 := Lib.hid d4
              clear hX0 hq1 hq2 hTw hK0 hT0 hx0 hxn hf r1 r2 r3 d1 d2 d3 d4
              go_wp2
              rw [← HX0.out]
              refine wp_region_split 12 (by kernel_rfl) (by kernel_rfl) ?_
              simp only [List.take_succ_cons, List.take_zero]
              refine wpAny_of_held (S := fun Y => Y.cell? ⟨b.R, 0, none⟩ = some (.slice Ar2 r.length cr2) ∧ Y.cell? ⟨b.C, 0, none⟩ = some (.slice Ac2 M cc2) ∧ Y.cell? ⟨wr.heap.size, 0, none⟩ = some (.int .i64 o) ∧ Y.cell? ⟨wr.heap.size, 1, none⟩ = some (.int .i64 (a : Int)) ∧ Y.cell? ⟨wr.heap.size, 2, none⟩ = some (.int .i64 (c : Int)) ∧
                  Y.cell? ⟨b.G, 0, none⟩ = some (.func (.func 39) #[] #[]) ∧ Y.cell? ⟨b.S, 0, none⟩ = some (.int .i64 (k : Int)) ∧ Y.cell? ⟨b.S, 1, none⟩ = some (.int .i64 (w : Int))) _ _ _ _ ?_
              have hHeld := HSall.out X0.drew (Kp.drew _)
              refine wpAnyH_take (i := 0) (oi := _) (v := .slice Ar2 r.length cr2) rfl (by kernel_rfl) (by kernel_rfl) (by kernel_rfl) (fun _ _ _ h => h) (Or.inl ⟨by rfl, ?_⟩) hHeld ?_
              · rintro Y ⟨s1, s2, s3, s4, s5, s6, s7, s8⟩
                go_simp
              simp only [Act.put, List.setIfInBounds_toArray, List.set_cons_zero, List.set_cons_succ]
              refine wpAnyH_take (i := 1) (oi := _) (v := .agg #[.int .i64 o, .int .i64 (a : Int), .int .i64 (c : Int)]) rfl (by kernel_rfl) (by kernel_rfl) (by kernel_rfl) (fun _ _ _ h => h) (Or.inl ⟨by rfl, ?_⟩) hHeld ?_
              · rintro Y ⟨s1, s2, s3, s4, s5, s6, s7, s8⟩
                go_simp
              simp only [Act.put, List.setIfInBounds_toArray, List.set_cons_zero, List.set_cons_succ]
              refine wpAnyH_take (i := 4) (oi := _) (v := .slice Ac2 M cc2) rfl (by kernel_rfl) (by kernel_rfl) (by kernel_rfl) (fun _ _ _ h => h) (Or.inl ⟨by rfl, ?_⟩) hHeld ?_
              · rintro Y ⟨s1, s2, s3, s4, s5, s6, s7, s8⟩
                go_simp
              simp only [Act.put, List.setIfInBounds_toArray, List.set_cons_zero, List.set_cons_succ]
              refine wpAnyH_take (i := 5) (oi := _) (v := .func (.func 39) #[] #[]) rfl (by kernel_rfl) (by kernel_rfl) (by kernel_rfl) (fun _ _ _ h => h) (Or.inl ⟨by rfl, ?_⟩) hHeld ?_
              · rintro Y ⟨s1, s2, s3, s4, s5, s6, s7, s8⟩
                go_simp
              simp only [Act.put, List.setIfInBounds_toArray, List.set_cons_zero, List.set_cons_succ]
              refine wpAnyH_take (i := 6) (oi := _) (v := .agg #[.int .i64 (k : Int), .int .i64 (w : Int)]) rfl (by kernel_rfl) (by kernel_rfl) (by kernel_rfl) (fun _ _ _ h => h) (Or.inl ⟨by rfl, ?_⟩) hHeld ?_
              · rintro Y ⟨s1, s2, s3, s4, s5, s6, s7, s8⟩
                go_simp
              simp only [Act.put, List.setIfInBounds_toArray, List.set_cons_zero, List.set_cons_succ]
              refine wpAnyH_take (i := 7) (oi := _) (v := .agg #[.int .i64 o, .int .i64 (a : Int), .int .i64 (c : Int)]) rfl (by kernel_rfl) (by kernel_rfl) (by kernel_rfl) (fun _ _ _ h => h) (Or.inl ⟨by rfl, ?_⟩) hHeld ?_
              · rintro Y ⟨s1, s2, s3, s4, s5, s6, s7, s8⟩
                go_simp
              simp only [Act.put, List.setIfInBounds_toArray, List.set_cons_zero, List.set_cons_succ]
              refine wpAnyH_take (i := 8) (oi := _) (v := .slice Ac2 M cc2) rfl (by kernel_rfl) (by kernel_rfl) (by kernel_rfl) (fun _ _ _ h => h) (Or.inl ⟨by rfl, ?_⟩) hHeld ?_
              · rintro Y ⟨s1, s2, s3, s4, s5, s6, s7, s8⟩
                go_simp
              simp only [Act.put, List.setIfInBounds_toArray, List.set_cons_zero, List.set_cons_succ]
              have hK1 : Kp q1 q2 X0 X0.drew := Kp.drew _
              have HK1 := Lib.hid hK1
              have Hown1 := Lib.hid (show OwnAt X0.drew 46 3 (.slice Ar2 r.length cr2) r.length (flatS r) from by rw [HX0.out]; exact own_drew (Hr2.out.alloc _))
              have Hcol1 := Lib.hid (show OwnAt X0.drew 26 1 (.slice Ac2 M cc2) M us2 from by rw [HX0.out]; exact own_drew (Hd2.out.alloc _))
              have HB1 := Lib.hid (show Below B0 wr X0.drew from by rw [HX0.out]; exact ((Below.refl _ _).alloc (by have := HL.out.frm.size; have := Hfrm1.out.size; have := Hsz.out; omega) _).drew)
              clear hK1
              obtain ⟨X1, hX1⟩ : ∃ X1, X1 = X0.drew := ⟨_, rfl⟩
              rw [← hX1] at hHeld HK1 Hown1 Hcol1 HB1 ⊢
              clear hX1
              -- the built slice
              refine wpAnyH_ready (rs := [2]) (by kernel_rfl) (by simp) ?_
              refine AllReadyH.cons (o := _) rfl (fun KK hKK => ?_) AllReadyH.nil
              obtain ⟨s1, s2, s3, s4, s5, s6, s7, s8⟩ := hHeld
              go_simp
              have HK2 := Lib.hid (HK1.out.trans (Kp.alloc X1 (.cells #[.int .i64 o, .int .i64 (a : Int), .int .i64 (c : Int)] 46)))
              refine hKK.out _ _ (HSall.out _ HK2.out) (fun hHeld => ?_)
              clear hKK KK s1 s2 s3 s4 s5 s6 s7 s8
              try simp only [Act.put, List.setIfInBounds_toArray, List.set_cons_zero, List.set_cons_succ]
              -- the row grows
              refine wpAnyH_ready (rs := [3]) (by kernel_rfl) (by simp) ?_
              refine AllReadyH.cons (o := _) rfl (fun KK hKK => ?_) AllReadyH.nil
              have Hown2 := Lib.hid (Hown1.out.alloc (.cells #[.int .i64 o, .int .i64 (a : Int), .int .i64 (c : Int)] 46))
              have Hcol2 := Lib.hid (Hcol1.out.alloc (.cells #[.int .i64 o, .int .i64 (a : Int), .int .i64 (c : Int)] 46))
              have hnews : ∀ (j : Nat) (u : Value), ([.int .i64 o, .int .i64 (a : Int), .int .i64 (c : Int)] : List Value)[j]? = some u → ∃ ad : Addr, (some ⟨X1.heap.size, 0, none⟩ : Option Addr) = some ad ∧ (X1.alloc (.cells #[.int .i64 o, .int .i64 (a : Int), .int .i64 (c : Int)] 46)).cell? (ad.add j) = some u := fun j u hu => ⟨_, rfl, by rw [addr_add_zero, Nat.zero_add, cell_of_row _ _ _ _ _ (0, 0) (heap_alloc_new X1 _)]; simpa using hu⟩
              have hrl : r.length ≤ 3 := by have := Hlen.out; omega
              refine step_append_src _ rfl (.tmp 55) (.tmp 57) 24 rfl 46 (.agg #[.int .i64 0, .int .i64 0, .int .i64 0]) 3 24 Tryz.underlying24 infoStep rfl (by decide) (.slice Ar2 r.length cr2) r.length (flatS r) rfl Hown2.out (some ⟨X1.heap.size, 0, none⟩) 1 1 [.int .i64 o, .int .i64 (a : Int), .int .i64 (c : Int)] rfl rfl hnews (by simp [Value.oneCell']) (by omega) (by omega) ?_
              intro v1 X3 hown3 hgr3 hat3
              obtain ⟨A1', c1', hv1⟩ := hown3.form
              subst hv1
              have HK3 := Lib.hid (HK2.out.trans (Kp.grown1 (by rw [Hq1.out]; exact hgr3)))
              have Hcol3 := Lib.hid (Hcol2.out.kept hgr3 (ownAt_ne Hcol2.out Hown2.out (by decide)))
              obtain ⟨hb3, hv3⟩ := below_append HB1.out (by have := HB1.out.size; have := HL.out.frm.size; have := Hfrm1.out.size; have := Hsz.out; omega) Hr3.out hgr3 (by simpa using hat3)
              have HB3 := Lib.hid hb3
              have Hv3 := Lib.hid hv3
              have Hown3 := Lib.hid (show OwnAt X3 46 3 (.slice A1' (r ++ [(o, (a : Int), (c : Int))]).length c1') (r ++ [(o, (a : Int), (c : Int))]).length (flatS (r ++ [(o, (a : Int), (c : Int))])) from by rw [flatS_snoc, List.length_append]; exact hown3)
              clear hb3 hv3 hnews hown3 hgr3 hat3 Hown2 Hcol2 Hown1 Hcol1 HK1 HK2
              refine hKK.out _ _ (HSall.out _ HK3.out) (fun hHeld => ?_)
              clear hKK KK
              simp only [Act.put, List.setIfInBounds_toArray, List.set_cons_zero, List.set_cons_succ, List.getElem_toArray, List.getElem_cons_succ, List.getElem_cons_zero]
              -- the column of the step
              refine wpAnyH_ready (rs := [9]) (by kernel_rfl) (by simp) ?_
              refine AllReadyH.cons (o := _) rfl (fun KK hKK => ?_) AllReadyH.nil
              clear hHeld
              have HCol := Lib.hid (pcolumn_any k w Hk.out Hw.out o a c B0 Ac2 M cc2 us2 (K.cols k w r) X3 Hcol3.out ((HK0.out.trans HK3.out).cols HTw.out Hd3.out) hla hlc (fun x hx => cols_each hx) (fun i j => cols_pos Hk.out Hw.out r i j) (List.mem_of_getElem? Ho.out) (by omega))
              go_simp
              (with_reducible refine (HCol.out).mono ?_)
              rintro e X4 ⟨u, rfl, hu4, hb4⟩
              obtain ⟨q5, N5, hu5⟩ : ∃ q5 N5, u = .slice (some ⟨q5, 0, none⟩) N5 N5 := by obtain ⟨q5, h5, _⟩ := hu4; exact ⟨q5, _, h5⟩
              subst hu5
              clear HCol
              have HK4 := Lib.hid (HK3.out.trans (Kp.below hb4))
              have Hu4 := Lib.hid hu4
              have Hcol4 := Lib.hid (own_step (Lib.hid hb4) Hcol3.out)
              have Hown4 := Lib.hid (own_step (Lib.hid hb4) Hown3.out)
              have HB4 := Lib.hid (HB3.out.trans (hb4.mono (by have := HB3.out.size; have := HL.out.frm.size; have := Hfrm1.out.size; have := Hsz.out; omega)))
              have Hge4 := Lib.hid (show B0 ≤ X4.heap.size ∧ B0 ≤ X3.heap.size from by have := hb4.size; have := HB3.out.size; have := HL.out.frm.size; have := Hfrm1.out.size; have := Hsz.out; omega)
              have HT4 := Lib.hid (show Two none q2 X4 from ⟨fun g hg => (by cases hg), fun g hg => Hcol4.out.typed g (by rw [← Hq2.out]; exact hg)⟩)
              clear hb4 hu4 Hcol3 Hown3 HB3 HK3
              refine hKK.out _ _ (HSall.out _ HK4.out) (fun hHeld => ?_)
              clear hKK KK
              try simp only [Act.put, List.setIfInBounds_toArray, List.set_cons_zero, List.set_cons_succ, List.getElem_toArray, List.getElem_cons_succ, List.getElem_cons_zero]
              -- the built slice of columns
              refine wpAnyH_ready (rs := [10]) (by kernel_rfl) (by simp) ?_
              refine AllReadyH.cons (o := _) rfl (fun KK hKK => ?_) AllReadyH.nil
              clear hHeld
              go_simp
              have HK5 := Lib.hid (HK4.out.trans (Kp.alloc X4 (.cells #[.slice (some ⟨q5, 0, none⟩) N5 N5] 26)))
              refine hKK.out _ _ (HSall.out _ HK5.out) (fun hHeld => ?_)
              clear hKK KK
              try simp only [Act.put, List.setIfInBounds_toArray, List.set_cons_zero, List.set_cons_succ, List.getElem_toArray, List.getElem_cons_succ, List.getElem_cons_zero]
              -- the columns grow
              refine wpAnyH_ready (rs := [11]) (by kernel_rfl) (by simp) ?_
              refine AllReadyH.cons (o := _) rfl (fun KK hKK => ?_) AllReadyH.nil
              clear hHeld
              have Hcol5 := Lib.hid (Hcol4.out.alloc (.cells #[.slice (some ⟨q5, 0, none⟩) N5 N5] 26))
              have Hown5 := Lib.hid (Hown4.out.alloc (.cells #[.slice (some ⟨q5, 0, none⟩) N5 N5] 26))
              have hnews : ∀ (j : Nat) (x : Value), ([.slice (some ⟨q5, 0, none⟩) N5 N5] : List Value)[j]? = some x → ∃ ad : Addr, (some ⟨X4.heap.size, 0, none⟩ : Option Addr) = some ad ∧ (X4.alloc (.cells #[.slice (some ⟨q5, 0, none⟩) N5 N5] 26)).cell? (ad.add j) = some x := fun j x hx => ⟨_, rfl, by rw [addr_add_zero, Nat.zero_add, cell_of_row _ _ _ _ _ (0, 0) (heap_alloc_new X4 _)]; simpa using hx⟩
              refine step_append_src _ rfl (.tmp 59) (.tmp 65) 73 rfl 26 (.slice none 0 0) 1 24 Tryz.underlying73 infoSlU rfl (by decide) (.slice Ac2 M cc2) M us2 rfl Hcol5.out (some ⟨X4.heap.size, 0, none⟩) 1 1 [.slice (some ⟨q5, 0, none⟩) N5 N5] rfl rfl hnews (by simp [Value.oneCell']) (by omega) (by omega) ?_
              intro v2 X6 hcol6 hgr6 hat6
              obtain ⟨A2', c2', hv2⟩ := hcol6.form
              subst hv2
              have HK6 := Lib.hid (HK5.out.trans (Kp.grown2 (by rw [Hq2.out]; exact hgr6)))
              have Hown6 := Lib.hid (Hown5.out.kept hgr6 (ownAt_ne Hown5.out Hcol5.out (by decide)))
              obtain ⟨hb6, hv6⟩ := below_append HB4.out Hge4.out.1 Hd4.out hgr6 (by simpa using hat6)
              have HB6 := Lib.hid hb6
              have Hv6 := Lib.hid hv6
              have Hcol6 := Lib.hid hcol6
              have HKu := Lib.hid (show Kp none q2 X4 X6 from (Kp.alloc X4 _).trans (Kp.grown2 (by rw [Hq2.out]; exact hgr6)))
              clear hb6 hv6 hnews hcol6 hgr6 hat6 Hown5 Hcol5 Hown4 Hcol4 HK5 HB4
              refine hKK.out _ _ (HSall.out _ HK6.out) (fun hHeld => ?_)
              clear hKK KK
              simp only [Act.put, List.setIfInBounds_toArray, List.set_cons_zero, List.set_cons_succ, List.getElem_toArray, List.getElem_cons_succ, List.getElem_cons_zero]
              clear hHeld HSall
              refine wpAnyH_done (by kernel_rfl) ?_ _
              simp only [Exit.then, List.drop_succ_cons, List.drop_zero]
              have HKa := Lib.hid (HK0.out.trans HK6.out)
              have hR6 := HKa.out.ty HTw.out Hr1.out (by decide) (by decide)
              have hC6 := HKa.out.ty HTw.out Hd1.out (by decide) (by decide)
              have HR6 := Lib.hid hR6
              have HC6 := Lib.hid hC6
              have cR := one_cell hR6
              have cC := one_cell hC6
              have fR := free_of_one hR6
              have fC := free_of_one hC6
              have ne := ty_ne hR6 hC6 (by decide)
              have hat := steps_at (k := k) (p := r.length) (a := a) (b := c) Ho.out (by rw [← HM.out]; exact hla) (by rw [← HM.out]; exact hlc)
              rw [← HM.out] at hat
              have Hat := Lib.hid hat
              have hstep := K.mem_steps (List.mem_of_getElem? hat)
              have Hstep := Lib.hid hstep
              have e1 : (r ++ [(o, (a : Int), (c : Int))]).length = r.length + 1 := by simp
              have e2 : k + 2 + (r.length + 1) = M + 1 := by rw [HM.out]; omega
              have hS6 : SInv k w n b l B0 (r ++ [(o, (a : Int), (c : Int))]) ((X6.setCell ⟨b.R, 0, none⟩ (.slice A1' (r.length + 1) c1')).setCell ⟨b.C, 0, none⟩ (.slice A2' (M + 1) c2')) := by
                have h1 := Hown6.out
                have h2 : OwnAt X6 26 1 (.slice A2' (k + 2 + (r ++ [(o, (a : Int), (c : Int))]).length) c2') (k + 2 + (r ++ [(o, (a : Int), (c : Int))]).length) (us2 ++ [.slice (some ⟨q5, 0, none⟩) N5 N5]) := by rw [e1, e2]; exact Hcol6.out
                have h3 : Elems (ColC B0) X6 (us2 ++ [.slice (some ⟨q5, 0, none⟩) N5 N5]) (K.cols k w (r ++ [(o, (a : Int), (c : Int))])) := by
                  rw [K.cols_snoc Hk.out r Hstep.out]
                  refine (HKa.out.cols HTw.out Hd3.out).snoc ?_
                  obtain ⟨qq, g1, g2, g3⟩ := Hu4.out
                  exact ⟨qq, g1, Nat.le_trans Hge4.out.2 g2, HKu.out.ty HT4.out g3 (by decide) (by decide)⟩
                have h4 := SInv.put (HKa.out.finv HTw.out Hf.out) HR6.out HC6.out h1 (by rw [e1]; exact Hv3.out) h2 h3 (by rw [e1, e2]; exact Hv6.out)
                rw [e1, e2] at h4
                exact h4
              have hJ6 := HJ.out _ _ _ HL.out.j (below_two (x := .slice A1' (r.length + 1) c1') (y := .slice A2' (M + 1) c2') HB6.out Hb.out.R Hb.out.C)
              have HIn := Lib.hid (HI.out _ _ _ (okRow_snoc Hok.out Hstep.out) (by rw [e1]; have := Hlen.out; omega) (done_pre Hat.out Hpre.out) hS6 hJ6)
              have hcV := one_cell hS6.fix.wk
              have HS6 := Lib.hid hS6
              clear hR6 hC6 hat hstep e1 e2 hS6 hJ6
              go_wp2_with (go_at_call 80; (with_reducible refine (HIn.out).mono ?_); rintro e X7 ⟨hS7, hfr7, (⟨rfl, hj7⟩ | ⟨rfl, hj7⟩)⟩)
              all_goals
                have HS7 := Lib.hid hS7
                have Hfr7 := Lib.hid hfr7
                obtain ⟨Ar3, cr3, Ac3, cc3, us3, t1, t2, t3, t4, t5, t6, t7, t8, t9, t10, t11⟩ := hS7.shorter Hk.out Hstep.out
                rw [← HM.out] at t3 t4 t9 t11
                have T1 := Lib.hid t1
                have T3 := Lib.hid t3
                have T7 := Lib.hid t7
                have T8 := Lib.hid t8
                have T9 := Lib.hid t9
                have T10 := Lib.hid t10
                have T11 := Lib.hid t11
                have cR := one_cell t1
                have cC := one_cell t3
                have fR := free_of_one t1
                have fC := free_of_one t3
                have ne := ty_ne t1 t3 (by decide)
                unfold maxLen at t5 t6
                clear t1 t3 t7 t8 t9 t10 t11 hS7 hfr7
                have Hj7 := Lib.hid hj7; clear hj7
                obtain ⟨p, hp⟩ : ∃ p, p = r.length := ⟨_, rfl⟩
                rw [← hp] at cR t2
                have HP := Lib.hid hp; clear hp
                have e5 : IntKind.i64.wrap (((p + 1 : Nat) : Int) - 1) = (p : Int) := by rw [show ((p + 1 : Nat) : Int) - 1 = (p : Int) by omega]; exact IntWalk.i64_in _ (by omega)
                go_region
                have HS8 := Lib.hid (show SInv k w n b l B0 r ((X7.setCell ⟨b.R, 0, none⟩ (.slice Ar3 p cr3)).setCell ⟨b.C, 0, none⟩ (.slice Ac3 M cc3)).drew from by
                  have h := SInv.put HS7.out.fix T1.out T3.out T7.out T8.out (by rw [← HM.out]; exact T9.out) T10.out (by rw [← HM.out]; exact T11.out)
                  rw [← HM.out, ← HP.out] at h
                  exact h.below Hb.out (Below.refl _ _).drew)
                have HB8 := Lib.hid (show Below B0 X7 ((X7.setCell ⟨b.R, 0, none⟩ (.slice Ar3 p cr3)).setCell ⟨b.C, 0, none⟩ (.slice Ac3 M cc3)).drew from (below_two (Below.refl _ _) Hb.out.R Hb.out.C).drew)
                have HLs := Lib.hid (show Lst RowEx B0 X7 ((X7.setCell ⟨b.R, 0, none⟩ (.slice Ar3 p cr3)).setCell ⟨b.C, 0, none⟩ (.slice Ac3 M cc3)).drew from ⟨HB8.out, fun g cs T z hg hx =>
                  ((two_set T1.out T3.out (by decide)).2.2 g (ty_ne hg T1.out fun e => hx (.inl e)) (ty_ne hg T3.out fun e => hx (.inr e))).trans hg⟩)
                have HF8 := Lib.hid (show Frm B0 w1 ((X7.setCell ⟨b.R, 0, none⟩ (.slice Ar3 p cr3)).setCell ⟨b.C, 0, none⟩ (.slice Ac3 M cc3)).drew from
                  ((((HL.out.frm.trans (HKa.out.frm HTw.out)).trans (frm_two HR6.out HC6.out)).trans Hfr7.out).trans (frm_two T1.out T3.out)).trans ⟨Nat.le_refl _, fun g cs T z _ h _ _ _ _ => h⟩)
                clear HS7 Hfr7 T1 T3 T7 T8 T9 T10 T11 cR cC fR fC ne e5 t2 t4 t5 t6
                generalize ((X7.setCell ⟨b.R, 0, none⟩ (.slice Ar3 p cr3)).setCell ⟨b.C, 0, none⟩ (.slice Ac3 M cc3)).drew = X8 at HS8 HB8 HF8 HLs ⊢
              · have HL8 := Lib.hid (show LInv k w n b l B0 J pre r m w1 (q * (M * M) + (a * M + (c + 1))) X8 from ⟨HS8.out, by
                  have h := HJ.out _ _ _ Hj7.out HB8.out
                  rw [show q * (M * M) + (a * M + (c + 1)) = q * (M * M) + (a * M + c) + 1 by omega, done_next Hat.out, ← List.append_assoc]
                  exact h, HF8.out⟩)
                go_wp2
                go_roundg (gk - 1)
                case measure => have := Hgk3.out; omega
                case rel => have := Hgk3.out; exact ⟨c + 1, by omega, by go_num, by omega, HL8.out⟩
              · have HX := Lib.hid (HJx.out _ _ Hj7.out HLs.out)
                go_wp2
                go_ret
                exact ⟨HS8.out, Hfrm1.out.trans HF8.out, .inr ⟨rfl, HX.out⟩⟩
            · obtain rfl : c = M := by omega
              have HL2 := HL.out
              rw [show q * (c * c) + (a * c + c) = q * (c * c) + (a + 1) * c by rw [Nat.succ_mul]] at HL2
              have HL3 := Lib.hid HL2; clear HL2 HL
              go_wp2
              go_roundg (gP - 1)
              case measure => have := Hgk2.out; omega
              case rel => have := Hgk2.out; exact ⟨a + 1, by omega, by go_num, by omega, HL3.out⟩
        · obtain rfl : a = M := by omega
          have HL2 := HL.out
          rw [show q * (a * a) + a * a = (q + 1) * (a * a) by rw [Nat.succ_mul]] at HL2
          have HL3 := Lib.hid HL2; clear HL2 HL
          go_wp2
          go_roundg (gO - 1)
          case measure => have := Hgk.out; omega
          case rel => have := Hgk.out; exact ⟨q + 1, by omega, by go_num, by omega, HL3.out⟩
    · obtain rfl : q = 7 := by omega
      go_wp2
      go_ret
      have hL := HL.out
      have hj := hL.j
      rw [List.take_of_length_le (by rw [steps_length, ← HM.out]; exact Nat.le_refl _)] at hj
      exact ⟨hL.inv, Hfrm1.out.trans hL.frm, .inl ⟨rfl, hj⟩⟩
end Go.Proofs.YtableoihgkmbjaaGreat
end
section
namespace Go.Proofs.YtableoihgkmbjaaGreat
open Go.RowKit
set_option linter.unusedVariables false
set_option linter.unusedSimpArgs false

theorem walk_all {k w n : Nat} {b : Bk} {l B0 : Nat} {J : List (List K.Stp) → World → Prop} {Jx : World → Prop} {xs : List (List K.Stp)}
    (hk : k = 1 ∨ k = 2) (hw : w = 1 ∨ w = 2 ∨ w = 3) (hb : BkAt b B0) (hn : n ≤ 3) (hJ : ∀ pre, StayB B0 (J pre)) (hJx : ∀ A A', Jx A → Lst RowEx B0 A A' → Jx A')
    (hSL : ∀ A, (∃ pre, J pre A) ∨ Jx A → A.heap[b.S]? = some (.cells #[.int .i64 k, .int .i64 w] 48 (0, 0)) ∧ A.heap[b.L]? = some (.cells #[.int .i64 n] 3 (0, 0)))
    (hY : ∀ pre x A args, J pre A → RowArg k w A x args → pre ++ [x] <+: xs → YieldAt Fence.wide 0 Tryz.prog l args A (Told B0 A (J (pre ++ [x])) Jx)) :
    ∀ m, WalkC k w n b l B0 J Jx xs m
  | 0 => fun pre r A hok hlen hpre hS hj => walk0_any hk (K.size_le (by omega) (by omega)) hb (by omega) hn (J (pre ++ [r])) Jx
      (fun A' h => hSL A' (h.imp (fun h => ⟨_, h⟩) id)) A hS (fun args ha => hY pre r A args hj ha hpre)
  | m + 1 => walkS_any hk hw hb hn hJ hJx (walk_all hk hw hb hn hJ hJx hSL hY m)

/-- what rows asks of the blocks that it has captured -/
def SLAt (k w n S L : Nat) (A : World) : Prop := A.heap[S]? = some (.cells #[.int .i64 k, .int .i64 w] 48 (0, 0)) ∧ A.heap[L]? = some (.cells #[.int .i64 n] 3 (0, 0))

set_option maxRecDepth 100000 in
set_option maxHeartbeats 1000000 in
theorem rows1_any (k w n S L : Nat) (hk : k = 1 ∨ k = 2) (hw : w = 1 ∨ w = 2 ∨ w = 3) (hn : n ≤ 3) (Wc : World) :
    SeqB RowEx Tryz.prog 79 #[.pointer (some ⟨S, 0, none⟩), .pointer (some ⟨L, 0, none⟩)] (RowArg k w) (SLAt k w n S L) (K.rows k n) Wc := by
  intro l J Jx hJ hJx hSL hSLx hY h0
  obtain ⟨hs, hl⟩ := hSL _ _ h0
  have hS0 : Wc.cell? ⟨S, 0, none⟩ = some (.int .i64 (k : Int)) ∧ Wc.cell? ⟨S, 1, none⟩ = some (.int .i64 (w : Int)) := by
    constructor
    · rw [cell_of_row _ _ _ _ _ (0, 0) hs]; rfl
    · rw [cell_of_row _ _ _ _ _ (0, 0) hs]; rfl
  have hSlt : S < Wc.heap.size := (Array.getElem?_eq_some_iff.1 hs).1
  obtain ⟨hc0, hc1⟩ := hS0
  have HS := Lib.hid hs
  have HL := Lib.hid hl
  have HJ := Lib.hid hJ
  have HJx := Lib.hid hJx
  have HSL := Lib.hid hSL
  have HSLx := Lib.hid hSLx
  have HY := Lib.hid hY
  have H0 := Lib.hid h0
  have HP := Lib.hid (fun W' => pstart_any k w hk hw W')
  have Hk := Lib.hid hk
  have Hw := Lib.hid hw
  clear hs hl hJ hJx hSL hSLx hY h0 hk hw
  simp only [List.append_toArray, List.nil_append, List.cons_append]
  go_enter Tryz.func79, Tryz.ntmps79
  go_wp2_with (go_at_call 38; (with_reducible refine (HP.out _).mono ?_); rintro e X1 ⟨Ac, cc, us, rfl, hown, hel, hob, hb1⟩)
  obtain ⟨b, hb⟩ : ∃ b : Bk, b = ⟨X1.heap.size + 1 + 1, L, X1.heap.size, Wc.heap.size, X1.heap.size + 1, S, X1.heap.size + 1 + 1 + 1⟩ := ⟨_, rfl⟩
  have hge : Wc.heap.size + 1 ≤ X1.heap.size := by have := hb1.size; simpa using this
  have hB9 : ∀ o1 o2 o3 o4, Below Wc.heap.size Wc ((((X1.alloc o1).alloc o2).alloc o3).alloc o4) := fun o1 o2 o3 o4 =>
    (((((((Below.refl _ _).alloc (Nat.le_refl _) _).trans (hb1.mono (by simp))).alloc (by omega) _).alloc (by simp; omega) _).alloc (by simp; omega) _).alloc (by simp; omega) _)
  have h1 : ∀ o1 o2 o3 o4, ((((X1.alloc o1).alloc o2).alloc o3).alloc o4).heap[X1.heap.size]? = some o1 := fun o1 o2 o3 o4 => row_alloc (row_alloc (row_alloc (heap_alloc_new X1 o1) _) _) _
  have h2 : ∀ o1 o2 o3 o4, ((((X1.alloc o1).alloc o2).alloc o3).alloc o4).heap[X1.heap.size + 1]? = some o2 := fun o1 o2 o3 o4 => row_alloc (row_alloc (new_two X1 o1 o2) _) _
  have h3 : ∀ o1 o2 o3 o4, ((((X1.alloc o1).alloc o2).alloc o3).alloc o4).heap[X1.heap.size + 1 + 1]? = some o3 := fun o1 o2 o3 o4 => row_alloc (by have := new_two (X1.alloc o1) o2 o3; simpa using this) _
  have h4 : ∀ o1 o2 o3 o4, ((((X1.alloc o1).alloc o2).alloc o3).alloc o4).heap[X1.heap.size + 1 + 1 + 1]? = some o4 := fun o1 o2 o3 o4 => by have := new_two ((X1.alloc o1).alloc o2) o3 o4; simpa using this
  have h5 : ∀ o1 o2 o3 o4 (g : Nat) (o : Obj), X1.heap[g]? = some o → ((((X1.alloc o1).alloc o2).alloc o3).alloc o4).heap[g]? = some o := fun o1 o2 o3 o4 g o hg => row_alloc (row_alloc (row_alloc (row_alloc hg _) _) _) _
  have hyd : X1.heap[Wc.heap.size]? = some (.cells #[.func (.yield l) #[] #[]] 111 (0, 0)) := row_step (Lib.hid hb1) (heap_alloc_new Wc _)
  have h6 : ∀ (g : Nat) (o : Obj), Wc.heap[g]? = some o → X1.heap[g]? = some o := fun g o hg => row_step (Lib.hid hb1) (row_alloc hg _)
  have hbk : BkAt b Wc.heap.size := by rw [hb]; exact ⟨by simp only; omega, by simp only; omega, by simp only; omega, by simp only; omega, by simp only; omega⟩
  have hW := walk_all (l := l) (J := J) (Jx := Jx) (xs := K.rows k n) Hk.out Hw.out hbk hn HJ.out HJx.out (fun A h => by
    have : SLAt k w n S L A := by
      rcases h with ⟨pre, h⟩ | h
      · exact HSL.out _ _ h
      · exact HSLx.out _ h
    rw [hb]; exact this) HY.out n [] []
  have hfin : ∀ X9 : World, X9 = ((((X1.alloc (.cells #[.slice Ac (k + 2) cc] 73)).alloc (.cells #[.func (.func 39) #[] #[]] 112)).alloc (.cells #[.slice none 0 0] 24)).alloc (.cells #[.func (.func 80) #[] b.caps] 25)) →
      SInv k w n b l Wc.heap.size [] X9 ∧ J [] X9 := by
    rintro X9 rfl
    refine ⟨⟨⟨?_, ?_, ?_, ?_, ?_⟩, ⟨none, 0, ?_, ?_, ?_⟩, ⟨Ac, cc, us, ?_, ?_, ?_, ?_⟩⟩, HJ.out _ _ _ H0.out (hB9 _ _ _ _)⟩
    · rw [show b.Y = Wc.heap.size by rw [hb]]; exact h5 _ _ _ _ _ _ hyd
    · rw [show b.G = X1.heap.size + 1 by rw [hb]]; exact h2 _ _ _ _
    · rw [show b.V = X1.heap.size + 1 + 1 + 1 by rw [hb]]; exact h4 _ _ _ _
    · rw [show b.S = S by rw [hb]]; exact h5 _ _ _ _ _ _ (h6 _ _ HS.out)
    · rw [show b.L = L by rw [hb]]; exact h5 _ _ _ _ _ _ (h6 _ _ HL.out)
    · rw [show b.R = X1.heap.size + 1 + 1 by rw [hb]]; exact h3 _ _ _ _
    · exact OwnAt.nil_ _ _ _
    · intro g hg; simp [Value.ownBlock] at hg
    · rw [show b.C = X1.heap.size by rw [hb]]; exact h1 _ _ _ _
    · exact ((((hown.alloc _).alloc _).alloc _).alloc _)
    · exact (elC_alloc (elC_alloc (elC_alloc (elC_alloc hel _) _) _) _).map_ fun u x hu => ColC.less hu (by simp)
    · intro g hg; have := hob g hg; simp at this; omega
  have HW := Lib.hid hW
  have HF := Lib.hid hfin
  have Hb := Lib.hid hb
  clear hW hfin h1 h2 h3 h4 h5 h6 hB9 hyd hbk hge hown hel hob hb1 hc0 hc1 hSlt HP hb
  subst b
  refine Calls.mono (HW.out _ (by intro i s hi; simp at hi) (by simp) (by rw [K.rows_eq_below]; exact List.prefix_refl _) (HF.out _ rfl).1 (HF.out _ rfl).2) ?_
  rintro e X2 ⟨_, _, (⟨rfl, hj⟩ | ⟨rfl, hj⟩)⟩
  · rw [List.nil_append, ← K.rows_eq_below] at hj
    have Hj := Lib.hid hj; clear hj
    go_wp2
    go_end0
    exact ⟨⟨_, rfl⟩, .inl Hj.out⟩
  · have Hj := Lib.hid hj; clear hj
    go_wp2
    go_end0
    exact ⟨⟨_, rfl⟩, .inr Hj.out⟩

theorem prows_any (k w n : Int) (W : World) : Calls Tryz.prog 58 #[.agg #[.int .i64 k, .int .i64 w], .int .i64 n] W fun e w' =>
    e = .returned (.func (.func 79) #[] #[.pointer (some ⟨W.heap.size, 0, none⟩), .pointer (some ⟨W.heap.size + 1, 0, none⟩)]) ∧ w' = (W.alloc (.cells #[.int .i64 k, .int .i64 w] 48)).alloc (.cells #[.int .i64 n] 3) := by
  go_enter Tryz.func58, Tryz.ntmps58
  go_wp2
  go_ret
  exact ⟨rfl, rfl⟩
end Go.Proofs.YtableoihgkmbjaaGreat
end
