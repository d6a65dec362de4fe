/- Merged: Rf, Sp, Q6, Q7, Q8, Q9, Q10. -/
import Derived.Test.YtcmlmjbpdaecbaaGreatC00
import Derived.RangeFuncIn
import Derived.RangeFuncRecord
import Derived.RangeFuncSeq
import Derived.RangeFuncLeaves
import Derived.StillTail
import Derived.Deep.RegionHeld3
import Derived.Test.YtcmlmjbpdaecbaaGreatC10
import Derived.OneCell
set_option linter.unusedVariables false
set_option linter.unusedSimpArgs false
section
namespace Go.Proofs.YtcmlmjbpdaecbaaGreat
open Go.RowKit
set_option linter.unusedVariables false

/-- what lies from B on stays as it lies -/
structure Kpt (B : Nat) (A A' : World) : Prop where
  size : A.heap.size ≤ A'.heap.size
  block : ∀ k, B ≤ k → k < A.heap.size → A'.heap[k]? = A.heap[k]?
theorem Kpt.refl (B : Nat) (A : World) : Kpt B A A := ⟨Nat.le_refl _, fun _ _ _ => rfl⟩
theorem Kpt.trans {B : Nat} {X Y Z : World} (h : Kpt B X Y) (k : Kpt B Y Z) : Kpt B X Z := ⟨Nat.le_trans h.size k.size, fun i hB hi => (k.block i hB (Nat.lt_of_lt_of_le hi h.size)).trans (h.block i hB hi)⟩
theorem Kpt.more {B B' : Nat} {A A' : World} (h : Kpt B A A') (hB : B ≤ B') : Kpt B' A A' := ⟨h.size, fun k hk hl => h.block k (Nat.le_trans hB hk) hl⟩
/-- each cell stays as it lies -/
structure CK (A A' : World) : Prop where
  size : A.heap.size ≤ A'.heap.size
  cell : ∀ p v, A.cell? p = some v → A'.cell? p = some v
theorem CK.refl (A : World) : CK A A := ⟨Nat.le_refl _, fun _ _ h => h⟩
theorem below_putObj {B l : Nat} {A A' : World} (h : Below B A A') (hl : B ≤ l) (o : Obj) : Below B A (A'.putObj l o) :=
  h.trans ⟨rfl, rfl, rfl, by simp [World.putObj], fun k hk => World.putObj_heap_other (by omega)⟩
theorem size_putObj (A : World) (l : Nat) (o : Obj) : (A.putObj l o).heap.size = A.heap.size := by simp [World.putObj]
theorem ck_putObj {A : World} {l : Nat} {r : Loop} (h : A.heap[l]? = some (.loop r)) (o : Obj) : CK A (A.putObj l o) := by
  refine ⟨by simp [World.putObj], fun p v hp => ?_⟩
  have hne : p.block ≠ l := by
    intro e
    unfold World.cell? at hp
    rw [e, h] at hp
    simp at hp
  unfold World.cell? at hp ⊢
  rw [World.putObj_heap_other hne]
  exact hp
theorem cell_lt {A : World} {p : Addr} {v : Value} (h : A.cell? p = some v) : p.block < A.heap.size := by
  unfold World.cell? at h
  cases hb : A.heap[p.block]? with
  | none => rw [hb] at h; simp at h
  | some o => exact (Array.getElem?_eq_some_iff.1 hb).1
theorem CK.of_below {A A' : World} (h : Below A.heap.size A A') : CK A A' := ⟨h.size, fun p v hp => (h.cell (cell_lt hp)).trans hp⟩
theorem CK.trans {X Y Z : World} (h : CK X Y) (k : CK Y Z) : CK X Z := ⟨Nat.le_trans h.size k.size, fun p v hp => k.cell p v (h.cell p v hp)⟩

/-- stays under whatever turns nothing below B -/
def StayB (B : Nat) (J : World → Prop) : Prop := ∀ A A', J A → Below B A A' → J A'

/-- nothing below B turns, and no block of cells but those of the types ex -/
structure Lst (ex : TypeId → Prop) (B : Nat) (A A' : World) : Prop where
  below : Below B A A'
  cells : ∀ (g : Nat) (cs : Array Value) (T : TypeId) (z : Nat × Nat), A.heap[g]? = some (.cells cs T z) → ¬ ex T → A'.heap[g]? = some (.cells cs T z)
theorem Lst.refl (ex : TypeId → Prop) (B : Nat) (A : World) : Lst ex B A A := ⟨Below.refl _ _, fun _ _ _ _ h _ => h⟩
theorem Lst.trans {ex : TypeId → Prop} {B : Nat} {X Y Z : World} (h : Lst ex B X Y) (k : Lst ex B Y Z) : Lst ex B X Z := ⟨h.below.trans k.below, fun g cs T z hg hx => k.cells g cs T z (h.cells g cs T z hg hx) hx⟩
theorem Lst.mono {ex : TypeId → Prop} {B B' : Nat} {A A' : World} (h : Lst ex B A A') (hB : B' ≤ B) : Lst ex B' A A' := ⟨h.below.mono hB, h.cells⟩
theorem Lst.drew (ex : TypeId → Prop) (B : Nat) (A : World) : Lst ex B A A.drew := ⟨(Below.refl _ _).drew, fun _ _ _ _ h _ => h⟩
theorem lst_putObj {ex : TypeId → Prop} {B l : Nat} {A : World} {r : Loop} (h : A.heap[l]? = some (.loop r)) (hl : B ≤ l) (o : Obj) : Lst ex B A (A.putObj l o) := by
  refine ⟨below_putObj (Below.refl _ _) hl _, fun g cs T z hg _ => ?_⟩
  have hne : g ≠ l := by
    rintro rfl
    rw [h] at hg
    cases hg
  rw [World.putObj_heap_other hne]; exact hg
/-- AN ITERATOR's CONTRACT: called at Wc with yield it hands over the list xs, in this order, or stops behind an element at which the body leaves. -/
def SeqB (ex : TypeId → Prop) (P : Program) (gf : FuncId) (lb : Array Value) {α : Type} (Arg : World → α → Array Value → Prop) (SL : World → Prop) (xs : List α) (Wc : World) : Prop :=
  ∀ (l : Nat) (J : List α → World → Prop) (Jx : World → Prop), (∀ pre, StayB Wc.heap.size (J pre)) → (∀ A A', Jx A → Lst ex Wc.heap.size A A' → Jx A') → (∀ pre A, J pre A → SL A) → (∀ A, Jx A → SL A) →
    (∀ pre x A args, J pre A → Arg A x args → pre ++ [x] <+: xs → YieldAt Fence.wide 0 P l args A fun e A' =>
      (e = .returned (.bool true) ∧ J (pre ++ [x]) A' ∧ Kpt Wc.heap.size A A') ∨ (e = .returned (.bool false) ∧ Jx A' ∧ Kpt Wc.heap.size A A')) →
    J [] Wc → Calls P gf (#[.func (.yield l) #[] #[]] ++ lb) Wc fun e w' => (∃ v, e = .returned v) ∧ (J xs w' ∨ Jx w')

/-- how the body of a round may be left -/
def roundB {α : Type} (B : Nat) (I : List α → World → Prop) (Ix : Code → World → Prop) (xs : List α) (A : World) : Exit → Act → World → Prop
  | .normal, _, A' => Kpt B A A' ∧ I xs A'
  | .ret, _, A' => Kpt B A A' ∧ Ix .ret A'
  | .exit id, _, A' => Kpt B A A' ∧ Ix (.exit id) A'
  | .goto t, _, A' => Kpt B A A' ∧ Ix (.goto t) A'
  | .panic _, _, _ => False
  | .outgrown, _, _ => False

theorem wp_rangeFunc_B {ex : TypeId → Prop} {α : Type} {P : Program} {g : Operand} {ps : Array Tmp} {assign body : Code} {Q : Exit → Act → World → Prop} {a : Act} {w : World}
    {gf : FuncId} {lb : Array Value} (hg : a.eval g = .func (.func gf) #[] lb) (eg : ∀ args w, (callFunc gf args).run P w = .ok (.enter gf args) w)
    {Arg : World → α → Array Value → Prop} {SL : World → Prop} {xs : List α} (hseq : ∀ Wc, Below w.heap.size w Wc → Wc.heap.size = w.heap.size + 2 → SeqB ex P gf lb Arg SL xs Wc)
    (hps : ∀ A x args, Arg A x args → args.size = ps.size) (hArg : ∀ A A' x args, Arg A x args → CK A A' → Arg A' x args)
    (I : List α → World → Prop) (Ix : Code → World → Prop) (hI : ∀ pre, StayB w.heap.size (I pre)) (hIx : ∀ c A A', Ix c A → Lst ex w.heap.size A A' → Ix c A') (hSL : ∀ pre A, I pre A → SL A) (hSLx : ∀ c A, Ix c A → SL A) (h0 : I [] w)
    (a₁ : Array Value → Act)
    (hassign : ∀ (l : Nat) (x : α) (args : Array Value) (A : World) (K : Act → World → Prop), Arg A x args → K (a₁ args) A →
      assign.wpIn (Fence.wide.inRound l) 0 P (Exit.then K (fun _ _ _ => False)) { tmps := (ps.zip args).foldl (fun t (p, v) => t.setIfInBounds p v) a.tmps, defers := [] } A)
    (hbody : ∀ (l : Nat) (pre : List α) (x : α) (args : Array Value) (A : World), I pre A → Arg A x args → w.heap.size + 2 ≤ A.heap.size → pre ++ [x] <+: xs → body.wpIn (Fence.wide.inRound l) 0 P (roundB w.heap.size I Ix (pre ++ [x]) A) (a₁ args) A)
    (hdone : ∀ (W : World), I xs W → W.heap[w.heap.size]? = some (.deferred (some [])) → w.heap.size ≤ W.heap.size → Q .normal { a with defers := { target := .collected w.heap.size, args := #[] } :: a.defers } W)
    (hstop : ∀ (c : Code) (W : World), Ix c W → W.heap[w.heap.size]? = some (.deferred (some [])) → w.heap.size ≤ W.heap.size → c.wp P Q { a with defers := { target := .collected w.heap.size, args := #[] } :: a.defers } W) :
    (Code.rangeFunc g ps assign body).wp P Q a w := by
  refine (wpIn_wide (n := 0)).1 (wpIn_rangeFunc ?_)
  intro fn hfn
  obtain ⟨rec, hrec⟩ : ∃ rec : LoopState → Option Code → Loop, rec = fun st pe => { state := st, pending := pe, fn, tmps := a.tmps, params := ps, assign, body, defers := w.heap.size } := ⟨_, rfl⟩
  obtain ⟨W1, hW1⟩ : ∃ W1, (w.alloc (.deferred (some []))).alloc (.loop (rec .ready none)) = W1 := ⟨_, rfl⟩
  have hL1 : W1.heap[w.heap.size + 1]? = some (.loop (rec .ready none)) := by
    rw [← hW1]; have := World.alloc_heap_new (w.alloc (.deferred (some []))) (.loop (rec .ready none)); rwa [World.size_alloc] at this
  have hK1 : W1.heap[w.heap.size]? = some (.deferred (some [])) := by
    rw [← hW1]; exact (Below.heap_alloc _ _ _ (by simp)).trans (World.alloc_heap_new w _)
  have hB1 : Below w.heap.size w W1 := by rw [← hW1]; exact ((Below.refl _ w).alloc (Nat.le_refl _) _).alloc (by simp) _
  have hsz : W1.heap.size = w.heap.size + 2 := by rw [← hW1]; simp
  refine ⟨w.heap.size + 1, [{ target := .collected w.heap.size, args := #[] }], W1, { target := .fn (.func gf) lb, args := #[.func (.yield (w.heap.size + 1)) #[] #[]] }, W1, gf,
    #[.func (.yield (w.heap.size + 1)) #[] #[]] ++ lb, W1, ?_, ?_, ?_, ?_, ?_, ?_⟩
  · rw [← hW1, hrec]; exact run_enterLoop_outer _ _ _ _ _
  · simp only [resolve, hg]
    simp [go_sem]
  · intro f' hf'; trivial
  · simp [invoke, go_sem, eg]
  · intro h; simp [Fence.wide] at h
  · refine callsIn_wide.2 ((hseq W1 hB1 hsz (w.heap.size + 1)
      (fun pre W => I pre W ∧ W.heap[w.heap.size + 1]? = some (.loop (rec .ready none)) ∧ W.heap[w.heap.size]? = some (.deferred (some [])) ∧ w.heap.size + 2 ≤ W.heap.size)
      (fun W => ∃ c, Ix c W ∧ W.heap[w.heap.size + 1]? = some (.loop (rec .done (some c))) ∧ W.heap[w.heap.size]? = some (.deferred (some [])) ∧ w.heap.size + 2 ≤ W.heap.size)
      ?_ ?_ (fun pre A h => hSL pre A h.1) (fun A h => hSLx _ A h.choose_spec.1) ?_ ⟨hI [] _ _ h0 hB1, hL1, hK1, by omega⟩).mono ?_)
    · rintro pre A A' ⟨h1, h2, h3, h4⟩ hb
      exact ⟨hI _ _ _ h1 (hb.mono (by omega)), (hb.block _ (by omega)).trans h2, (hb.block _ (by omega)).trans h3, Nat.le_trans h4 hb.size⟩
    · rintro A A' ⟨c, h1, h2, h3, h4⟩ hb
      exact ⟨c, hIx _ _ _ h1 (hb.mono (by omega)), (hb.below.block _ (by omega)).trans h2, (hb.below.block _ (by omega)).trans h3, Nat.le_trans h4 hb.below.size⟩
    · rintro pre x A args ⟨hi, hl, hk, hs⟩ harg hpre
      have hy := run_yield (P := P) (args := args) hl (by rw [hrec]; exact hps A x args harg)
      rw [hrec] at hy
      refine ⟨fn, _, assign, body, hy, roundIn_of_wpIn hfn (hassign _ x args A _ harg ?_)⟩
      clear hy
      refine ⟨_, run_beginRound hl (by rw [hrec]), ?_⟩
      have hlt : w.heap.size + 1 < A.heap.size := by omega
      have hl2 : (A.putObj (w.heap.size + 1) (.loop { rec .ready none with state := .busy })).heap[w.heap.size + 1]? = some (.loop { rec .ready none with state := .busy }) := World.putObj_heap_same hlt
      have hk2 : (A.putObj (w.heap.size + 1) (.loop { rec .ready none with state := .busy })).heap[w.heap.size]? = some (.deferred (some [])) := (World.putObj_heap_other (by omega)).trans hk
      have hs2 : (A.putObj (w.heap.size + 1) (.loop { rec .ready none with state := .busy })).heap.size = A.heap.size := by simp [World.putObj]
      have hk0 : ∀ o, Kpt W1.heap.size A (A.putObj (w.heap.size + 1) o) := fun o => ⟨by simp [World.putObj], fun k hk _ => World.putObj_heap_other (by omega)⟩
      refine wpIn_mono (hbody _ pre x args _ (hI _ _ _ hi (below_putObj (Below.refl _ _) (by omega) _)) (hArg _ _ _ _ harg (ck_putObj hl _)) (Nat.le_trans hs (Nat.le_of_eq (size_putObj _ _ _).symm)) hpre) ?_
      have fin : ∀ (jump : Option Code) (W3 : World), Kpt w.heap.size (A.putObj (w.heap.size + 1) (.loop { rec .ready none with state := .busy })) W3 →
          (Instr.endRound (w.heap.size + 1) jump).run P W3 = .ok (.bool jump.isNone) (W3.putObj (w.heap.size + 1) (.loop (rec (if jump.isNone then .ready else .done) jump))) ∧
          Lst ex w.heap.size W3 (W3.putObj (w.heap.size + 1) (.loop (rec (if jump.isNone then .ready else .done) jump))) ∧
          (W3.putObj (w.heap.size + 1) (.loop (rec (if jump.isNone then .ready else .done) jump))).heap[w.heap.size + 1]? = some (.loop (rec (if jump.isNone then .ready else .done) jump)) ∧
          (W3.putObj (w.heap.size + 1) (.loop (rec (if jump.isNone then .ready else .done) jump))).heap[w.heap.size]? = some (.deferred (some [])) ∧
          w.heap.size + 2 ≤ (W3.putObj (w.heap.size + 1) (.loop (rec (if jump.isNone then .ready else .done) jump))).heap.size ∧
          Kpt W1.heap.size A (W3.putObj (w.heap.size + 1) (.loop (rec (if jump.isNone then .ready else .done) jump))) := fun jump W3 hk3 => by
        have hl3 := (hk3.block _ (by omega) (by omega)).trans hl2
        have hs3 := hk3.size
        have hs4 : (W3.putObj (w.heap.size + 1) (.loop (rec (if jump.isNone then .ready else .done) jump))).heap.size = W3.heap.size := by simp [World.putObj]
        have := run_endRound (P := P) jump hl3
        rw [hrec] at this
        refine ⟨by rw [hrec]; exact this, lst_putObj hl3 (by omega) _, World.putObj_heap_same (by omega), (World.putObj_heap_other (by omega)).trans ((hk3.block _ (Nat.le_refl _) (by omega)).trans hk2), by omega,
          ((hk0 _).trans (hk3.more (by omega))).trans ⟨by omega, fun k hk _ => World.putObj_heap_other (by omega)⟩⟩
      rintro e a3 W3 hp
      cases e with
      | normal =>
        obtain ⟨hk3, hi3⟩ := hp
        obtain ⟨hr, hb4, hl4, hk4, hs4, hkp⟩ := fin none W3 hk3
        exact ⟨_, _, hr, .inl ⟨rfl, ⟨hI _ _ _ hi3 hb4.below, hl4, hk4, hs4⟩, hkp⟩⟩
      | ret =>
        obtain ⟨hk3, hi3⟩ := hp
        obtain ⟨hr, hb4, hl4, hk4, hs4, hkp⟩ := fin (some .ret) W3 hk3
        exact ⟨_, _, hr, .inr ⟨rfl, ⟨.ret, hIx _ _ _ hi3 hb4, hl4, hk4, hs4⟩, hkp⟩⟩
      | exit id =>
        obtain ⟨hk3, hi3⟩ := hp
        obtain ⟨hr, hb4, hl4, hk4, hs4, hkp⟩ := fin (some (.exit id)) W3 hk3
        exact ⟨_, _, hr, .inr ⟨rfl, ⟨.exit id, hIx _ _ _ hi3 hb4, hl4, hk4, hs4⟩, hkp⟩⟩
      | goto t =>
        obtain ⟨hk3, hi3⟩ := hp
        obtain ⟨hr, hb4, hl4, hk4, hs4, hkp⟩ := fin (some (.goto t)) W3 hk3
        exact ⟨_, _, hr, .inr ⟨rfl, ⟨.goto t, hIx _ _ _ hi3 hb4, hl4, hk4, hs4⟩, hkp⟩⟩
      | panic ch => exact hp.elim
      | outgrown => exact hp.elim
    · rintro e W2 ⟨⟨v, rfl⟩, (⟨hi, hl, hk, hs⟩ | ⟨c, hi, hl, hk, hs⟩)⟩
      · have he := run_endLoop (P := P) hl (by rw [hrec]; simp)
        rw [hrec] at he
        exact ⟨none, _, he, hdone _ (hI _ _ _ hi (below_putObj (Below.refl _ _) (by omega) _)) ((World.putObj_heap_other (by omega)).trans hk) (by simp [World.putObj]; omega)⟩
      · have he := run_endLoop (P := P) hl (by rw [hrec]; simp)
        rw [hrec] at he
        exact ⟨some c, _, he, wpIn_wide.2 (hstop c _ (hIx _ _ _ hi (lst_putObj hl (by omega) _)) ((World.putObj_heap_other (by omega)).trans hk) (by simp [World.putObj]; omega))⟩
end Go.Proofs.YtcmlmjbpdaecbaaGreat
end
section
namespace Go.Proofs.YtcmlmjbpdaecbaaGreat
open Go Go.RowKit
set_option linter.unusedVariables false
set_option linter.unusedSimpArgs false

/-- an operation's way, where only the post of the end without panic is turned -/
theorem wp_then {P : Program} {o : Oper} {a : Act} {w : World} {K : Act → World → Prop} {K0 : Act → World → Prop} {Q : Exit → Act → World → Prop} (h : o.wp P a w K (Exit.then K0 Q)) : o.wp P a w K Q := by
  unfold Oper.wp at *
  generalize (execOp a.eval o).run P w = r at *
  cases r with
  | ok n w' =>
    cases n <;> simp only [Oper.upon] at h ⊢ <;>
      first
        | exact h
        | exact Calls.mono h (fun e w'' he => by cases e <;> exact he)
  | halt x w' => cases x <;> simp only [Oper.upon] at h ⊢ <;> exact h

theorem wpAny_more {P : Program} {md : Region.Mode} {ops : Array Oper} {Q : Exit → Act → World → Prop} : ∀ (f : Nat) (listed : Array Bool) (a : Act) (w : World), wpAny P md ops Q f listed a w → wpAny P md ops Q (f + 1) listed a w
  | 0, _, _, _, h => ⟨fun _ => h.2, fun i hi => by rw [h.1] at hi; cases hi⟩
  | f + 1, listed, a, w, h => ⟨h.1, fun i hi => wpOp_mono (fun a' w' h' => wpAny_more f _ a' w' h') (h.2 i hi)⟩
theorem wpAny_plus {P : Program} {md : Region.Mode} {ops : Array Oper} {Q : Exit → Act → World → Prop} {f : Nat} {listed : Array Bool} {a : Act} {w : World} (h : wpAny P md ops Q f listed a w) : ∀ k, wpAny P md ops Q (k + f) listed a w
  | 0 => by rw [Nat.zero_add]; exact h
  | k + 1 => by rw [show k + 1 + f = (k + f) + 1 by omega]; exact wpAny_more _ _ _ _ (wpAny_plus h k)

/-- each of the first n operations waits only for ones before it, and is not guarded -/
def lexB (md : Region.Mode) (ops : Array Oper) (n : Nat) : Bool :=
  (List.range n).all fun i => match ops[i]? with
    | some o => o.guard.isNone && o.after.all fun e => !Region.binds md e || decide (e.on < i)
    | none => false
theorem lexB_spec {md : Region.Mode} {ops : Array Oper} {n : Nat} (h : lexB md ops n = true) {i : Nat} (hi : i < n) : ∃ o, ops[i]? = some o ∧ o.guard = none ∧ ∀ e ∈ o.after, Region.binds md e = true → e.on < i := by
  have h1 := List.all_eq_true.1 h i (List.mem_range.2 hi)
  cases ho : ops[i]? with
  | none => rw [ho] at h1; cases h1
  | some o =>
    rw [ho] at h1
    simp only [Bool.and_eq_true, Option.isNone_iff_eq_none] at h1
    refine ⟨o, rfl, h1.1, fun e he hb => ?_⟩
    have h2 := Array.all_eq_true_iff_forall_mem.1 h1.2 e he
    simpa [hb] using h2

/-- all of the first n are listed, none behind -/
def allHead (n m : Nat) : Array Bool := Array.replicate n true ++ Array.replicate m false

theorem split_any {P : Program} {ops ops' : Array Oper} {Q : Exit → Act → World → Prop} {md : Region.Mode} {n : Nat} {tail : List Oper} (hs : Region.sinkB md ops n = true) (hc : Region.chainB md ops n = true) (hn : n < ops.size) (hx : lexB md ops n = true)
    (hsz : ops'.size = n) (hsame : ∀ i, i < n → ops'[i]? = ops[i]?) (htl : ∀ j, tail[j]? = ops[n + j]?) (hseq : Region.seqB md ops tail.length n (allHead n (ops.size - n)) = true) :
    ∀ (f : Nat) (listed' listed : Array Bool) (a : Act) (w : World), listed'.size = n → HeadInv md ops n listed → (∀ k, k < n → ∀ d, listed'.getD k d = listed.getD k d) →
      wpAny P md ops' (Exit.then (fun a w => wpList P ops Q tail a w) Q) f listed' a w → wpAny P md ops Q (f + tail.length) listed a w := by
  have hready : ∀ (listed' listed : Array Bool), listed'.size = n → HeadInv md ops n listed → (∀ k, k < n → ∀ d, listed'.getD k d = listed.getD k d) → ∀ i, i < n → (i ∈ Region.ready md ops listed ↔ i ∈ Region.ready md ops' listed') := by
    intro listed' listed hl hinv hsm i hi
    obtain ⟨o, ho, _, hlt⟩ := lexB_spec hx hi
    rw [mem_ready, mem_ready, hsame i hi, hsm i hi true]
    have key : ∀ e ∈ o.after, Region.binds md e = true → listed'.getD e.on false = listed.getD e.on false := fun e he hb => hsm _ (Nat.lt_trans (hlt e he hb) hi) false
    constructor
    · rintro ⟨h0, o2, ho2, hall⟩
      have : o2 = o := Option.some.inj (ho2.symm.trans ho)
      subst this
      exact ⟨h0, o2, ho2, fun e he hb => (key e he hb).trans (hall e he hb)⟩
    · rintro ⟨h0, o2, ho2, hall⟩
      have : o2 = o := Option.some.inj (ho2.symm.trans ho)
      subst this
      exact ⟨h0, o2, ho2, fun e he hb => (key e he hb).symm.trans (hall e he hb)⟩
  have hlow : ∀ (listed' : Array Bool), Region.ready md ops' listed' = [] → listed'.size = n → ∀ i, i < n → listed'.getD i true = true := by
    intro listed' h0 hl i
    induction i using Nat.strongRecOn with
    | _ i ih =>
      intro hi
      cases hb : listed'.getD i true with
      | true => rfl
      | false =>
        exfalso
        obtain ⟨o, ho, _, hlt⟩ := lexB_spec hx hi
        have : i ∈ Region.ready md ops' listed' := mem_ready.2 ⟨hb, o, (hsame i hi).trans ho, fun e he hb2 => by
          have h1 := hlt e he hb2
          have h2 := ih e.on h1 (by omega)
          have h3 : e.on < listed'.size := by omega
          simp [h3] at h2 ⊢
          exact h2⟩
        rw [h0] at this
        cases this
  have hhead : ∀ (listed' listed : Array Bool), listed'.size = n → HeadInv md ops n listed → (∀ k, k < n → ∀ d, listed'.getD k d = listed.getD k d) → Region.ready md ops' listed' = [] → listed = allHead n (ops.size - n) := by
    intro listed' listed hl hinv hsm h0
    apply Array.ext_getElem?
    intro k
    unfold allHead
    by_cases hk : k < n
    · have h1 := hlow listed' h0 hl k hk
      rw [hsm k hk true] at h1
      have h2 : k < listed.size := by rw [hinv.size]; omega
      rw [Array.getElem?_append_left (by simpa using hk)]
      simp [h2] at h1
      simp [h2, h1, hk]
    · by_cases hk2 : k < ops.size
      · have h1 := hinv.tail k (by omega) hk2
        have h2 : k < listed.size := by rw [hinv.size]; exact hk2
        rw [Array.getElem?_append_right (by simp; omega)]
        simp [h2] at h1
        rw [Array.getElem?_eq_getElem h2, h1, Array.getElem?_replicate, if_pos (by simp; omega)]
      · rw [Array.getElem?_eq_none (by rw [hinv.size]; omega), Array.getElem?_eq_none (by simp; omega)]
  intro f
  induction f with
  | zero =>
    intro listed' listed a w hl hinv hsm h
    obtain ⟨h0, hq⟩ := h
    rw [Nat.zero_add, hhead listed' listed hl hinv hsm h0]
    exact wpAny_of_seq tail n _ a w htl hseq hq
  | succ f ih =>
    intro listed' listed a w hl hinv hsm h
    obtain ⟨hq, hstep⟩ := h
    by_cases h0 : Region.ready md ops' listed' = []
    · rw [hhead listed' listed hl hinv hsm h0]
      exact wpAny_plus (wpAny_of_seq tail n _ a w htl hseq (hq h0)) _
    · obtain ⟨i, hi⟩ : ∃ i, i ∈ Region.ready md ops' listed' := List.exists_mem_of_ne_nil _ h0
      have hin : i < n := by
        obtain ⟨_, o, ho, _⟩ := mem_ready.1 hi
        have := (Array.getElem?_eq_some_iff.1 ho).1
        omega
      have hun : listed.getD i true = false := by rw [← hsm i hin true]; exact (mem_ready.1 hi).1
      have hmem : i ∈ Region.ready md ops listed := (hready listed' listed hl hinv hsm i hin).2 hi
      rw [show f + 1 + tail.length = (f + tail.length) + 1 by omega]
      refine ⟨fun h1 => absurd hmem (by rw [h1]; exact List.not_mem_nil), fun j hj => ?_⟩
      have hjn : j < n := by
        rcases Nat.lt_or_ge j n with h2 | h2
        · exact h2
        · exact absurd hj (tail_waits hs hc hn hinv _ i rfl hin hun j h2)
      have hj' := (hready listed' listed hl hinv hsm j hjn).1 hj
      have h2 := hstep j hj'
      obtain ⟨o, ho, hg, _⟩ := lexB_spec hx hjn
      have hw : ∀ ys, Region.wanted o ys = true := fun ys => by simp [Region.wanted, hg]
      unfold wpOp at h2 ⊢
      rw [hsame j hjn, ho] at h2
      rw [ho]
      simp only [hw, if_true] at h2 ⊢
      refine h2.imp (fun h3 => Oper.wp_mono (fun a' w' h4 => ih _ _ a' w' (by simpa using hl) (hinv.set hj hjn) (fun k hk d => ?_) h4) (wp_then h3)) (fun h3 => h3)
      by_cases hjk : j = k
      · subst hjk
        have q1 : j < listed'.size := by omega
        have q2 : j < listed.size := by rw [hinv.size]; omega
        simp [q1, q2]
      · rw [getD_set_ne d hjk, getD_set_ne d hjk]; exact hsm k hk d

/-- what is checked of a region that ends in operations which wait for all others -/
def splitB (l : List Oper) (n : Nat) : Bool :=
  decide (n < l.length) && Region.sinkB .any l.toArray n && Region.chainB .any l.toArray n && lexB .any l.toArray n && Region.seqB .any l.toArray (l.length - n) n (allHead n (l.length - n))

theorem wp_region_split {P : Program} {id : Nat} {Q : Exit → Act → World → Prop} {a : Act} {w : World} {l : List Oper} (n : Nat) (hm : P.follows .mixedOrders = true) (hB : splitB l n = true)
    (h : wpAny P .any (l.take n).toArray (Exit.then (fun a w => wpList P l.toArray Q (l.drop n) a w) Q) n (Array.replicate n false) a w.drew) : (Code.region id l.toArray true).wp P Q a w := by
  simp only [splitB, Bool.and_eq_true, decide_eq_true_eq] at hB
  obtain ⟨⟨⟨⟨hn, hs⟩, hc⟩, hx⟩, hq⟩ := hB
  have hn' : n < l.toArray.size := by simpa using hn
  refine wp_region_any hm ?_
  have hdl : (l.drop n).length = l.length - n := by simp
  have H := split_any (P := P) (Q := Q) (ops' := (l.take n).toArray) (tail := l.drop n) hs hc hn' hx (by simp; omega) (fun i hi => by simp [List.getElem?_take, hi]) (fun j => by simp [List.getElem?_drop]) (by rw [hdl]; simpa using hq)
    n (Array.replicate n false) (Array.replicate l.toArray.size false) a w.drew (by simp)
    ⟨by simp, fun j oj _ hl => (by rw [getD_replicate_false] at hl; cases hl), fun t _ ht => getD_in (by simpa using ht) (getD_replicate_false _ _)⟩
    (fun k hk d => by have : k < l.length := by omega
                      simp [hk, this]) h
  rw [hdl, show n + (l.length - n) = l.toArray.size by simp; omega] at H
  exact H
end Go.Proofs.YtcmlmjbpdaecbaaGreat
end
section
namespace Go.Proofs.YtcmlmjbpdaecbaaGreat
open Go.RowKit
set_option linter.unusedVariables false

/-- the blocks of the variables: row, length, columns, yield, grow, s, walk -/
structure Bk where
  R : Nat
  L : Nat
  C : Nat
  Y : Nat
  G : Nat
  S : Nat
  V : Nat

def Bk.caps (b : Bk) : Array Value := #[.pointer (some ⟨b.R, 0, none⟩), .pointer (some ⟨b.L, 0, none⟩), .pointer (some ⟨b.C, 0, none⟩), .pointer (some ⟨b.Y, 0, none⟩), .pointer (some ⟨b.G, 0, none⟩), .pointer (some ⟨b.S, 0, none⟩), .pointer (some ⟨b.V, 0, none⟩)]

/-- where the blocks lie -/
structure BkAt (b : Bk) (B0 : Nat) : Prop where
  R : B0 ≤ b.R
  C : B0 ≤ b.C
  Y : B0 ≤ b.Y
  G : B0 ≤ b.G
  V : B0 ≤ b.V

section
variable {k w n : Nat} {b : Bk} {l B0 : Nat} {r : List K.Stp} {A A' : World}

end
end Go.Proofs.YtcmlmjbpdaecbaaGreat
end
section
namespace Go.Proofs.YtcmlmjbpdaecbaaGreat
open Go.RowKit
set_option linter.unusedVariables false

/-- what the walk hands to yield -/
def RowArg (k w : Nat) (A : World) (r : List K.Stp) (args : Array Value) : Prop :=
  ∃ Ar cr Al cl, args = #[.slice Ar r.length cr, .slice Al (K.size k w) cl] ∧ StAt 3 StepR A Ar r.length r ∧ SlAt (IntR .u32) A Al (K.size k w) (K.meaning k w r)

/-- what yield leaves behind, and what the walk tells of it -/
def Told (B0 : Nat) (A : World) (J Jx : World → Prop) (e : Ending) (A' : World) : Prop :=
  (e = .returned (.bool true) ∧ J A' ∧ Kpt B0 A A') ∨ (e = .returned (.bool false) ∧ Jx A' ∧ Kpt B0 A A')

theorem one_cell {A : World} {g : Nat} {v : Value} {T : TypeId} (h : A.heap[g]? = some (.cells #[v] T (0, 0))) : A.cell? ⟨g, 0, none⟩ = some v := by
  rw [cell_of_row A g 0 _ T (0, 0) h]; rfl

end Go.Proofs.YtcmlmjbpdaecbaaGreat
end
section
namespace Go.Proofs.YtcmlmjbpdaecbaaGreat
open Go.RowKit
set_option linter.unusedVariables false

theorem ty_ne {A : World} {g g' : Nat} {cs cs' : Array Value} {T T' : TypeId} {z z' : Nat × Nat} (h : A.heap[g]? = some (.cells cs T z)) (h' : A.heap[g']? = some (.cells cs' T' z')) (hne : T ≠ T') : g ≠ g' := by
  rintro rfl
  rw [h] at h'
  injection h' with h'
  injection h' with _ h2 _
  exact hne h2

/-- what stays where two one-cell blocks of two types are stored into -/
theorem two_set {A : World} {R C : Nat} {x0 y0 x y : Value} {T U : TypeId} (hR : A.heap[R]? = some (.cells #[x0] T (0, 0))) (hC : A.heap[C]? = some (.cells #[y0] U (0, 0))) (hne : T ≠ U) :
    ((A.setCell ⟨R, 0, none⟩ x).setCell ⟨C, 0, none⟩ y).heap[R]? = some (.cells #[x] T (0, 0)) ∧ ((A.setCell ⟨R, 0, none⟩ x).setCell ⟨C, 0, none⟩ y).heap[C]? = some (.cells #[y] U (0, 0)) ∧
    ∀ g, g ≠ R → g ≠ C → ((A.setCell ⟨R, 0, none⟩ x).setCell ⟨C, 0, none⟩ y).heap[g]? = A.heap[g]? := by
  have h0 := ty_ne hR hC hne
  have h1 := one_setCell (u := x) hR
  refine ⟨?_, ?_, fun g hg hg' => ?_⟩
  · rw [heap_setCell_other _ _ _ _ (by exact h0)]; exact h1
  · refine one_setCell (v := y0) ?_
    rw [heap_setCell_other _ _ _ _ (by exact h0.symm)]; exact hC
  · rw [heap_setCell_other _ _ _ _ (by exact hg'), heap_setCell_other _ _ _ _ (by exact hg)]

section
variable {k w n : Nat} {b : Bk} {l B0 : Nat} {r : List K.Stp} {A : World}

theorem OwnAt.front {e : TypeId} {s : Nat} {Ad : Option Addr} {n m c : Nat} {xs : List Value} (h : OwnAt A e s (.slice Ad n c) n xs) (hm : m ≤ n) : OwnAt A e s (.slice Ad m c) m (xs.take (m * s)) := by
  have hms : m * s ≤ n * s := Nat.mul_le_mul_right _ hm
  refine ⟨by rw [List.length_take, h.1]; omega, ?_⟩
  rcases h.2 with ⟨h1, h2⟩ | ⟨g, off, cap, cur, h1, hg, h2, h3, h4, h5⟩
  · subst h2
    obtain rfl : m = 0 := by omega
    exact .inl ⟨h1, rfl⟩
  · injection h1 with e1 e2 e3
    subst e1 e3
    refine .inr ⟨g, off, c, cur, rfl, hg, by omega, h3, h4, fun j u hu => ?_⟩
    rw [List.getElem?_take] at hu
    split at hu
    · exact h5 j u hu
    · cases hu

theorem Elems.front {α : Type} {R : World → Value → α → Prop} {us : List Value} {xs ys : List α} (h : Elems R A us (xs ++ ys)) : Elems R A (us.take xs.length) xs := by
  have hl := h.1
  rw [List.length_append] at hl
  refine ⟨by rw [List.length_take]; omega, fun i x u hx hu => ?_⟩
  rw [List.getElem?_take] at hu
  split at hu
  · exact h.2 i x u (by rw [List.getElem?_append_left (by assumption)]; exact hx) hu
  · cases hu

end

/-- what stays while the row and the columns grow: each block but the two that they own -/
structure Kp (rw_ cl : Option Nat) (X Y : World) : Prop where
  size : X.heap.size ≤ Y.heap.size
  keep : ∀ g o, X.heap[g]? = some o → rw_ ≠ some g → cl ≠ some g → Y.heap[g]? = some o
section
variable {q1 q2 : Option Nat} {X Y Z : World}
theorem Kp.refl (q1 q2 : Option Nat) (X : World) : Kp q1 q2 X X := ⟨Nat.le_refl _, fun _ _ h _ _ => h⟩
theorem Kp.trans (h : Kp q1 q2 X Y) (k : Kp q1 q2 Y Z) : Kp q1 q2 X Z := ⟨Nat.le_trans h.size k.size, fun g o hg a b => k.keep g o (h.keep g o hg a b) a b⟩
theorem Kp.below (h : Below X.heap.size X Y) : Kp q1 q2 X Y := ⟨h.size, fun g o hg _ _ => (h.block g (Array.getElem?_eq_some_iff.1 hg).1).trans hg⟩
theorem Kp.alloc (X : World) (o : Obj) : Kp q1 q2 X (X.alloc o) := Kp.below ((Below.refl _ _).alloc (Nat.le_refl _) _)
theorem Kp.drew (X : World) : Kp q1 q2 X X.drew := Kp.below (Below.refl _ _).drew
theorem Kp.grown1 (h : X.grownBy Y q1) : Kp q1 q2 X Y := ⟨h.size, fun g o hg a _ => (h.block g (Array.getElem?_eq_some_iff.1 hg).1 (fun e => a e.symm)).trans hg⟩
theorem Kp.grown2 (h : X.grownBy Y q2) : Kp q1 q2 X Y := ⟨h.size, fun g o hg _ a => (h.block g (Array.getElem?_eq_some_iff.1 hg).1 (fun e => a e.symm)).trans hg⟩
end

theorem cols_each {k w : Nat} {r : List K.Stp} {x : List Int} (hx : x ∈ K.cols k w r) : x.length = K.size k w := by
  obtain ⟨j, hj, rfl⟩ := List.mem_iff_getElem.1 hx
  have hj' : j < k + 2 + r.length := by rw [K.cols_len] at hj; exact hj
  have := K.cols_at (w := w) hj'
  rw [List.getElem?_eq_getElem hj] at this
  rw [Option.some.inj this, K.col_len]
theorem cols_pos {k w : Nat} (hk : k = 1 ∨ k = 2) (hw : w = 1 ∨ w = 2 ∨ w = 3) (r : List K.Stp) (i j : Nat) : 0 ≤ ((K.cols k w r).getD i []).getD j 0 := by
  by_cases hi : i < k + 2 + r.length
  · by_cases hj : j < K.size k w
    · rw [K.cols_getD hi hj]
      exact ((K.W32.base hk (by omega) hj).vals r).at i |>.1
    · have e : (K.cols k w r).getD i [] = K.col k w r i := by rw [List.getD_eq_getElem?_getD, K.cols_at hi, Option.getD_some]
      rw [e, List.getD_eq_getElem?_getD, List.getElem?_eq_none (by rw [K.col_len]; omega)]
      exact Int.le_refl _
  · have e : (K.cols k w r).getD i [] = [] := by rw [List.getD_eq_getElem?_getD, List.getElem?_eq_none (by rw [K.cols_len]; omega)]; rfl
    rw [e]
    simp

theorem okRow_snoc {k : Nat} {r : List K.Stp} {s : K.Stp} (h : K.okRow k r) (hs : K.okStep k r.length s) : K.okRow k (r ++ [s]) := by
  intro i x hx
  by_cases hi : i < r.length
  · rw [List.getElem?_append_left hi] at hx; exact h i x hx
  · have hl : i < (r ++ [s]).length := (List.getElem?_eq_some_iff.1 hx).1
    simp at hl
    obtain rfl : i = r.length := by omega
    simp at hx
    subst hx
    exact hs
theorem done_next {k m t : Nat} {r : List K.Stp} {s : K.Stp} (h : (K.steps k r.length)[t]? = some s) :
    ((K.steps k r.length).take (t + 1)).flatMap (fun s => K.below k m (r ++ [s])) = ((K.steps k r.length).take t).flatMap (fun s => K.below k m (r ++ [s])) ++ K.below k m (r ++ [s]) := by
  rw [K.take_succ_at h, List.flatMap_append]
  simp
theorem done_pre {k m t : Nat} {r : List K.Stp} {s : K.Stp} {pre xs : List (List K.Stp)} (h : (K.steps k r.length)[t]? = some s) (hp : pre ++ K.below k (m + 1) r <+: xs) :
    pre ++ ((K.steps k r.length).take t).flatMap (fun s => K.below k m (r ++ [s])) ++ K.below k m (r ++ [s]) <+: xs := by
  refine List.IsPrefix.trans ?_ hp
  rw [List.append_assoc, ← done_next h]
  refine (List.prefix_append_right_inj pre).2 ?_
  show _ <+: (K.steps k r.length).flatMap fun s => K.below k m (r ++ [s])
  refine ⟨((K.steps k r.length).drop (t + 1)).flatMap fun s => K.below k m (r ++ [s]), ?_⟩
  rw [← List.flatMap_append, List.take_append_drop]
theorem below_two {B : Nat} {A X : World} {R C : Nat} {x y : Value} (h : Below B A X) (hR : B ≤ R) (hC : B ≤ C) : Below B A ((X.setCell ⟨R, 0, none⟩ x).setCell ⟨C, 0, none⟩ y) := (h.setCell (p := ⟨R, 0, none⟩) hR _).setCell (p := ⟨C, 0, none⟩) hC _

theorem ops_at {q : Nat} (h : q < 7) : ∃ o, K.ops[q]? = some o ∧ (#[.int .i64 1, .int .i64 2, .int .i64 8, .int .i64 9, .int .i64 10, .int .i64 11, .int .i64 12] : Array Value)[q]? = some (.int .i64 o) := by
  have : q = 0 ∨ q = 1 ∨ q = 2 ∨ q = 3 ∨ q = 4 ∨ q = 5 ∨ q = 6 := by omega
  rcases this with rfl | rfl | rfl | rfl | rfl | rfl | rfl <;> exact ⟨_, rfl, rfl⟩
end Go.Proofs.YtcmlmjbpdaecbaaGreat
end
section
namespace Go.Proofs.YtcmlmjbpdaecbaaGreat
open Go.RowKit
set_option linter.unusedVariables false
set_option linter.unusedSimpArgs false

end Go.Proofs.YtcmlmjbpdaecbaaGreat
end
section
namespace Go.Proofs.YtcmlmjbpdaecbaaGreat
open Go.RowKit
set_option linter.unusedVariables false
set_option linter.unusedSimpArgs false

end Go.Proofs.YtcmlmjbpdaecbaaGreat
end
