/- Merged: Ov, Fr, M2. -/
import Derived.Test.YtcmlmjbpdaecbaaGreatC07
import Derived.Test.YtcmlmjbpdaecbaaGreatC01
set_option linter.unusedVariables false
set_option linter.unusedSimpArgs false
section
namespace Go.Proofs.YtcmlmjbpdaecbaaGreat
open Go.RowKit

/-- worlds that keep what W holds, as the values of one function -/
structure Ov (W : World) where
  f : World → World
  below : ∀ u, Below W.heap.size W (f u)
  eq : ∀ u, Below W.heap.size W u → f u = u

theorem ov_ex (W : World) : Nonempty (Ov W) := by
  have h : ∀ u : World, ∃ v : World, Below W.heap.size W v ∧ (Below W.heap.size W u → v = u) := fun u => by
    by_cases h : Below W.heap.size W u
    · exact ⟨u, h, fun _ => rfl⟩
    · exact ⟨W, Below.refl _ _, fun h' => absurd h' h⟩
  obtain ⟨f, hf⟩ := Classical.axiomOfChoice h
  exact ⟨⟨f, fun u => (hf u).1, fun u => (hf u).2⟩⟩

theorem cell_below {W : World} {b o : Nat} {v : Value} (h : W.cell? ⟨b, o, none⟩ = some v) : b < W.heap.size := by
  rcases Nat.lt_or_ge b W.heap.size with h' | h'
  · exact h'
  · simp [World.cell?, Array.getElem?_eq_none h'] at h

theorem Ov.cell {W : World} (ov : Ov W) {b o : Nat} {v : Value} (h : W.cell? ⟨b, o, none⟩ = some v) (u : World) : (ov.f u).cell? ⟨b, o, none⟩ = some v :=
  ((ov.below u).cell (p := ⟨b, o, none⟩) (cell_below h)).trans h

theorem calls_over {P : Program} {f : FuncId} {args : Array Value} {W u : World} {ov : Ov W} {v : Value} (h : Calls P f args (ov.f u) fun e w' => e = .returned v ∧ Below (ov.f u).heap.size (ov.f u) w') :
    Calls P f args (ov.f u) fun e w'' => e = .returned v ∧ ∃ m, w'' = ov.f m :=
  h.mono fun _ w'' ⟨he, hb⟩ => ⟨he, w'', (ov.eq _ ((ov.below u).trans (hb.mono (ov.below u).size))).symm⟩
theorem calls_over_same {P : Program} {f : FuncId} {args : Array Value} {W u : World} {ov : Ov W} {v : Value} (h : Calls P f args (ov.f u) fun e w' => e = .returned v ∧ ov.f u = w') :
    Calls P f args (ov.f u) fun e w'' => e = .returned v ∧ ∃ m, w'' = ov.f m :=
  h.mono fun _ w'' ⟨he, hb⟩ => ⟨he, u, hb.symm⟩
theorem calls_over_dr {P : Program} {f : FuncId} {args : Array Value} {W u : World} {ov : Ov W} {v : Value} (h : Calls P f args (ov.f u) fun e w' => e = .returned v ∧ Dr (ov.f u) w') :
    Calls P f args (ov.f u) fun e w'' => e = .returned v ∧ ∃ m, w'' = ov.f m :=
  calls_over (h.mono fun _ w'' ⟨he, hb⟩ => ⟨he, hb.below _⟩)

def lastOf : List Oper → List Oper
  | [] => []
  | o :: l => match l with
    | [] => [o]
    | _ => lastOf l
def headOf : List Oper → List Oper
  | [] => []
  | o :: l => match l with
    | [] => []
    | _ => o :: headOf l
theorem headOf_take (l : List Oper) : headOf l = l.take (l.length - 1) := by
  induction l with
  | nil => rfl
  | cons o l ih =>
    cases l with
    | nil => rfl
    | cons o' l => show o :: headOf (o' :: l) = _; rw [ih]; simp
theorem lastOf_drop (l : List Oper) : lastOf l = l.drop (l.length - 1) := by
  induction l with
  | nil => rfl
  | cons o l ih =>
    cases l with
    | nil => rfl
    | cons o' l => show lastOf (o' :: l) = _; rw [ih]; simp

/-- A drawn region with a tail: its head reads and calls, its last operation is whatever. -/
theorem wp_region_ov {P : Program} {id : Nat} {Q : Exit → Act → World → Prop} {a : Act} {w : World} {l : List Oper} (ov : Ov w) (hm : P.follows .mixedOrders = true) (hB : (Rg.fineB .any l.toArray (l.length - 1) && decide (l.length - 1 + 1 = l.length)) = true)
    (h : wpQuiet P l.toArray (fun w' => ∃ u, w' = ov.f u) (fun a' => ∀ w', (∃ u, w' = ov.f u) → ∀ K : Act → World → Prop, (∀ a w, Q .normal a w → K a w) → wpList P l.toArray (Rg.onlyK K) (lastOf l) a' w') (headOf l) a) : (Code.region id l.toArray true).wp P Q a w := by
  rw [headOf_take, lastOf_drop] at h
  exact Rg.wp_region (fun w' => ∃ u, w' = ov.f u) _ hm hB ⟨w.drew, (ov.eq w.drew ⟨rfl, rfl, rfl, Nat.le_refl _, fun _ _ => rfl⟩).symm⟩ h

/-- A drawn region that reads and calls. -/
theorem wp_region_ovq {P : Program} {id : Nat} {Q : Exit → Act → World → Prop} {a : Act} {w : World} {l : List Oper} (ov : Ov w) (hm : P.follows .mixedOrders = true) (hB : Region.lexB .any l.toArray = true)
    (h : wpQuiet P l.toArray (fun w' => ∃ u, w' = ov.f u) (fun a' => ∀ w', (∃ u, w' = ov.f u) → Q .normal a' w') l a) : (Code.region id l.toArray true).wp P Q a w :=
  wp_region_quiet (C := fun w' => ∃ u, w' = ov.f u) hm hB ⟨w.drew, (ov.eq w.drew ⟨rfl, rfl, rfl, Nat.le_refl _, fun _ _ => rfl⟩).symm⟩ (by simpa using h)
end Go.Proofs.YtcmlmjbpdaecbaaGreat
end
section
namespace Go.Proofs.YtcmlmjbpdaecbaaGreat
open Go.RowKit

namespace Fr
open Rg
section
variable {P : Program} {ops : Array Oper} {md : Region.Mode}

/-- values with the allocs' addresses -/
def vg (al : Nat → Option Obj) (vs : Nat → Value) (g : Nat → Nat) (k : Nat) : Value := if (al k).isSome then .pointer (some ⟨g k, 0, none⟩) else vs k

structure FineF (md : Region.Mode) (ops : Array Oper) (al : Nat → Option Obj) : Prop where
  sel : ∀ (j : Nat) (o : Oper) cs b, ops[j]? = some o → o.op ≠ .select cs b
  apart : ∀ (i j : Nat) (t : Tmp), i < ops.size → j < ops.size → i ≠ j → dst ops i = some t → dst ops j ≠ some t
  dep : ∀ (i : Nat) (o : Oper) (t : Tmp) (k : Nat), ops[i]? = some o → t ∈ o.looksAt ops → dst ops k = some t → al k = none ∧ ∃ e ∈ o.after, Region.binds md e = true ∧ e.on = k
  lex : ∀ (i : Nat) (o : Oper) (e : Edge), ops[i]? = some o → e ∈ o.after → Region.binds md e = true → e.on < i

structure InvF (md : Region.Mode) (ops : Array Oper) (al : Nat → Option Obj) (W : World) (vs : Nat → Value) (a : Act) (listed : Array Bool) (g : Nat → Nat) (act : Act) (w : World) : Prop where
  size : listed.size = ops.size
  act : act = cp ops (vg al vs g) a (fun k => listed.getD k false) ops.size
  below : Below W.heap.size W w
  row : ∀ k obj, al k = some obj → listed.getD k false = true → W.heap.size ≤ g k ∧ w.heap[g k]? = some obj
  ne : ∀ k k', (al k).isSome → (al k').isSome → listed.getD k false = true → listed.getD k' false = true → k ≠ k' → g k ≠ g k'

theorem cp_vals {vs vs' : Nat → Value} (a : Act) (c : Nat → Bool) (m : Nat) (h : ∀ k, k < m → c k = true → vs k = vs' k) : cp ops vs a c m = cp ops vs' a c m := by
  induction m with
  | zero => rfl
  | succ m ih =>
    simp only [cp, ih fun k hk => h k (by omega)]
    split
    · rename_i hc; rw [h m (by omega) hc]
    · rfl

theorem some_readyF {al : Nat → Option Obj} (hf : FineF md ops al) {listed : Array Bool} (hs : listed.size = ops.size) (m : Nat) (hm : m ≤ ops.size) (h : ∃ k, k < m ∧ listed.getD k true = false) : ∃ i, i ∈ Region.ready md ops listed := by
  induction m with
  | zero => obtain ⟨k, hk, _⟩ := h; omega
  | succ m ih =>
    by_cases h' : ∃ k, k < m ∧ listed.getD k true = false
    · exact ih (by omega) h'
    · obtain ⟨k, hk, hl⟩ := h
      have e : k = m := by
        rcases Nat.lt_or_ge k m with h1 | h1
        · exact absurd ⟨k, h1, hl⟩ h'
        · omega
      subst e
      have hks : k < ops.size := by omega
      refine ⟨k, mem_ready.2 ⟨hl, ops[k], Array.getElem?_eq_getElem hks, fun e he hb => ?_⟩⟩
      have hlt := hf.lex k _ e (Array.getElem?_eq_getElem hks) he hb
      have : ¬ listed.getD e.on true = false := fun h1 => h' ⟨e.on, hlt, h1⟩
      rw [two_getD (by omega) false true]
      simpa using this

theorem any_free {al : Nat → Option Obj} (hf : FineF md ops al) {W : World} {vs : Nat → Value} {a : Act} {K : Act → World → Prop}
    (hq : ∀ i, i < ops.size → al i = none → ∃ o, ops[i]? = some o ∧ ∀ X, Below W.heap.size W X → YieldsIn P ops (fun Y => Below X.heap.size X Y) o (vs i) (cp ops vs a (fun k => (al k).isNone) i))
    (ha : ∀ i obj, al i = some obj → ∃ o, ops[i]? = some o ∧ o.guard = none ∧ ∀ ρ w, (execOp ρ o).run P w = .ok (.value (.pointer (some ⟨w.heap.size, 0, none⟩))) (w.alloc obj))
    (hK : ∀ (g : Nat → Nat) w, Below W.heap.size W w → (∀ k obj, al k = some obj → k < ops.size → W.heap.size ≤ g k ∧ w.heap[g k]? = some obj) → (∀ k k', k < ops.size → k' < ops.size → (al k).isSome → (al k').isSome → k ≠ k' → g k ≠ g k') → K (cp ops (vg al vs g) a (fun _ => true) ops.size) w) :
    ∀ (fuel : Nat) (listed : Array Bool) (g : Nat → Nat) (act : Act) (w : World), unl listed ops.size ≤ fuel → InvF md ops al W vs a listed g act w → wpAny P md ops (onlyK K) fuel listed act w := by
  intro fuel
  have done : ∀ (listed : Array Bool) (g : Nat → Nat) (act : Act) (w : World), unl listed ops.size = 0 → InvF md ops al W vs a listed g act w → onlyK K .normal act w := by
    intro listed g act w h0 I
    have hall := unl_zero h0
    have hall' : ∀ k, k < ops.size → listed.getD k false = true := fun k hk => by rw [two_getD (by rw [I.size]; omega) false true]; exact hall k hk
    show K act w
    rw [I.act, cp_congr (ops := ops) (vg al vs g) a (c' := fun _ => true) ops.size fun k hk => hall' k hk]
    exact hK g w I.below (fun k obj hk hkl => I.row k obj hk (hall' k hkl)) (fun k k' hk hk' h1 h2 hne => I.ne k k' h1 h2 (hall' k hk) (hall' k' hk') hne)
  have noReady : ∀ (listed : Array Bool) (g : Nat → Nat) (act : Act) (w : World), InvF md ops al W vs a listed g act w → Region.ready md ops listed = [] → unl listed ops.size = 0 := by
    intro listed g act w I hr
    rcases Nat.eq_zero_or_pos (unl listed ops.size) with h | h
    · exact h
    · have hex : ∃ k, k < ops.size ∧ listed.getD k true = false := by
        apply Classical.byContradiction
        intro hno
        have : ∀ m, m ≤ ops.size → unl listed m = 0 := by
          intro m
          induction m with
          | zero => intro _; rfl
          | succ m ih =>
            intro hm
            simp only [unl, ih (by omega)]
            cases hl : listed.getD m true
            · exact absurd ⟨m, by omega, hl⟩ hno
            · simp
        have := this _ (Nat.le_refl _)
        omega
      obtain ⟨i, hi⟩ := some_readyF hf I.size ops.size (Nat.le_refl _) hex
      rw [hr] at hi
      cases hi
  induction fuel with
  | zero =>
    intro listed g act w hu I
    have h0 : unl listed ops.size = 0 := by omega
    refine ⟨?_, done listed g act w h0 I⟩
    have hall := unl_zero h0
    cases hr : Region.ready md ops listed with
    | nil => rfl
    | cons i r =>
      have hi : i ∈ Region.ready md ops listed := by rw [hr]; simp
      obtain ⟨h1, o, ho, _⟩ := mem_ready.1 hi
      rw [hall i (at_lt ho)] at h1
      cases h1
  | succ fuel ih =>
    intro listed g act w hu I
    refine ⟨fun hr => done listed g act w (noReady listed g act w I hr) I, fun i hi => ?_⟩
    obtain ⟨hun, o, ho, hedges⟩ := mem_ready.1 hi
    have hilt := at_lt ho
    have hun' : listed.getD i false = false := by rw [two_getD (by rw [I.size]; omega) false true]; exact hun
    have hcount := unl_set hun ops.size hilt
    have his : i < listed.size := by rw [I.size]; exact hilt
    have hset : (listed.setIfInBounds i true).getD i false = true := by simp [his]
    have hother : ∀ k, k ≠ i → (listed.setIfInBounds i true).getD k false = listed.getD k false := fun k hk => getD_set_ne false (fun e => hk e.symm)
    have hdi : dst ops i = o.dst := by simp [dst, ho]
    cases hal : al i with
    | none =>
      obtain ⟨o2, ho2, hy⟩ := hq i hilt hal
      rw [ho] at ho2
      cases ho2
      have evs : ∀ t, t ∈ o.looksAt ops → act.eval (.tmp t) = (cp ops vs a (fun k => (al k).isNone) i).eval (.tmp t) := by
        intro t ht
        rw [I.act]
        by_cases hex : ∃ k, k < ops.size ∧ dst ops k = some t
        · obtain ⟨k, hk, hd⟩ := hex
          obtain ⟨hak, e, he, hb, hon⟩ := hf.dep i o t k ho ht hd
          have hkl : listed.getD k false = true := by rw [← hon]; exact hedges e he hb
          have hki : k < i := by rw [← hon]; exact hf.lex i o e ho he hb
          rw [eval_hit (vg al vs g) a _ t k hd hkl ops.size hk fun j hj hjk => hf.apart k j t (dst_lt hd) (by omega) (fun e => hjk e.symm) hd,
            eval_hit vs a _ t k hd (by simp [hak]) i hki fun j hj hjk => hf.apart k j t (dst_lt hd) (by omega) (fun e => hjk e.symm) hd]
          unfold vg
          rw [hak]
          rfl
        · have hno : ∀ k, k < ops.size → dst ops k ≠ some t := fun k hk hd => hex ⟨k, hk, hd⟩
          rw [eval_none (vg al vs g) a _ t ops.size hno, eval_none vs a _ t i fun k hk => hno k (by omega)]
      obtain ⟨e1, e2⟩ := same_of_evals (hf.sel i o · · ho) evs
      have hy' := (hy w I.below).of_same e1 e2
      refine wpOp_of_qOp (C := fun Y => Below w.heap.size w Y) (K := fun a' => a' = act.put o.dst (vs i)) (Below.refl _ _) ?_ (hy'.qOp ho rfl)
      rintro a' w' hw' rfl
      refine ih _ g _ _ (by omega) ⟨by simp [I.size], ?_, I.below.trans (hw'.mono I.below.size), fun k obj hk hkl => ?_, fun k k' h1 h2 hk hk' hne => ?_⟩
      · have := cp_set (ops := ops) (vg al vs g) a (c := fun k => listed.getD k false) (c' := fun k => (listed.setIfInBounds i true).getD k false) i ops.size hilt hun' hset hother (fun k t hk hki hd => hf.apart k i t (dst_lt hd) hilt hki hd)
        rw [this, ← I.act, hdi]
        unfold vg
        rw [hal]
        rfl
      · have hki : k ≠ i := by rintro rfl; rw [hal] at hk; cases hk
        rw [hother k hki] at hkl
        obtain ⟨h1, h2⟩ := I.row k obj hk hkl
        exact ⟨h1, (hw'.block _ (Array.getElem?_eq_some_iff.1 h2).1).trans h2⟩
      · have hki : k ≠ i := by rintro rfl; rw [hal] at h1; cases h1
        have hki' : k' ≠ i := by rintro rfl; rw [hal] at h2; cases h2
        rw [hother k hki] at hk
        rw [hother k' hki'] at hk'
        exact I.ne k k' h1 h2 hk hk' hne
    | some obj =>
      obtain ⟨o2, ho2, hgd, hrun⟩ := ha i obj hal
      rw [ho] at ho2
      cases ho2
      have hwant : Region.wanted o (yielded ops act.tmps) = true := by unfold Region.wanted; rw [hgd]
      unfold wpOp
      simp only [ho]
      rw [if_pos hwant]
      left
      unfold Oper.wp
      rw [hrun]
      simp only [Oper.upon]
      have hg : ∀ k, k ≠ i → (fun k => if k = i then w.heap.size else g k) k = g k := fun k hk => if_neg hk
      refine ih _ (fun k => if k = i then w.heap.size else g k) _ _ (by omega) ⟨by simp [I.size], ?_, I.below.alloc I.below.size obj, fun k ob hk hkl => ?_, fun k k' h1 h2 hk hk' hne => ?_⟩
      · have := cp_set (ops := ops) (vg al vs (fun k => if k = i then w.heap.size else g k)) a (c := fun k => listed.getD k false) (c' := fun k => (listed.setIfInBounds i true).getD k false) i ops.size hilt hun' hset hother (fun k t hk hki hd => hf.apart k i t (dst_lt hd) hilt hki hd)
        rw [this, hdi, I.act]
        have e : cp ops (vg al vs g) a (fun k => listed.getD k false) ops.size = cp ops (vg al vs (fun k => if k = i then w.heap.size else g k)) a (fun k => listed.getD k false) ops.size := by
          refine cp_vals a _ _ fun k hk hkl => ?_
          have hki : k ≠ i := by rintro rfl; rw [hun'] at hkl; cases hkl
          unfold vg
          simp only [if_neg hki]
        rw [e]
        congr 1
        unfold vg
        simp [hal]
      · by_cases hki : k = i
        · subst hki
          rw [hal] at hk
          cases hk
          simp only [if_true]
          exact ⟨I.below.size, heap_alloc_new w obj⟩
        · rw [hother k hki] at hkl
          obtain ⟨h1, h2⟩ := I.row k ob hk hkl
          simp only [if_neg hki]
          exact ⟨h1, (Below.heap_alloc _ _ _ (Array.getElem?_eq_some_iff.1 h2).1).trans h2⟩
      · have lt : ∀ q, q ≠ i → (al q).isSome → (listed.setIfInBounds i true).getD q false = true → g q < w.heap.size := fun q hq h hl => by
          obtain ⟨ob, hob⟩ := Option.isSome_iff_exists.1 h
          rw [hother q hq] at hl
          exact (Array.getElem?_eq_some_iff.1 (I.row q ob hob hl).2).1
        by_cases hki : k = i
        · have hki' : k' ≠ i := fun e => hne (hki.trans e.symm)
          simp only [if_pos hki, if_neg hki']
          have := lt k' hki' h2 hk'
          omega
        · by_cases hki' : k' = i
          · simp only [if_neg hki, if_pos hki']
            have := lt k hki h1 hk
            omega
          · simp only [if_neg hki, if_neg hki']
            rw [hother k hki] at hk
            rw [hother k' hki'] at hk'
            exact I.ne k k' h1 h2 hk hk' hne
end
end Fr
end Go.Proofs.YtcmlmjbpdaecbaaGreat
end
section
section
namespace Go.Proofs.YtcmlmjbpdaecbaaGreat
open Go.RowKit
set_option linter.unusedVariables false

theorem rsize_any (n : Int) (w : World) (h0 : 0 ≤ n) (h1 : n ≤ 32) : Calls Tryz.prog 124 #[.int .i64 n] w fun e w' => e = .returned (.int .i64 (B.pw n)) ∧ w = w' := by
  go_enter Tryz.func124, Tryz.ntmps124
  go_wp2
  go_ret
  refine ⟨ret_int ?_, rfl⟩
  have e : (2 : Int) ^ n.toNat = B.pw n := rfl
  have hp := B.pw_pos n
  have hl := B.pw_le h1
  simp only [e]
  exact B.wrap64_id (by omega) (by omega)

theorem risWidth_yes (n : Int) (w : World) (h0 : 1 ≤ n) (h1 : n ≤ 32) : Calls Tryz.prog 120 #[.int .i64 n] w fun e w' => e = .returned (.bool true) ∧ w = w' := by
  go_enter Tryz.func120, Tryz.ntmps120
  go_wp2
  go_ret
  exact ⟨rfl, rfl⟩
theorem risWidth_no (n : Int) (w : World) (h : n < 1 ∨ 32 < n) : Calls Tryz.prog 120 #[.int .i64 n] w fun e w' => e = .returned (.bool false) ∧ w = w' := by
  rcases h with h | h
  · go_enter Tryz.func120, Tryz.ntmps120
    go_wp2
    go_ret
    exact ⟨rfl, rfl⟩
  · have h1 : 1 ≤ n := by omega
    have hd : decide (n ≤ 32) = false := by simp; omega
    go_enter Tryz.func120, Tryz.ntmps120
    go_wp2
    go_ret
    exact ⟨rfl, rfl⟩
theorem not_wd {n : Int} (h : B.isWd n = false) : n < 1 ∨ 32 < n := by
  have : ¬ (1 ≤ n ∧ n ≤ 32) := fun hc => by rw [B.isWd_iff.2 hc] at h; cases h
  omega
theorem risWidth_any (n : Int) (w : World) : Calls Tryz.prog 120 #[.int .i64 n] w fun e w' => e = .returned (.bool (B.isWd n)) ∧ w = w' := by
  cases h : B.isWd n
  · exact risWidth_no n w (not_wd h)
  · have := B.isWd_iff.1 h
    exact risWidth_yes n w this.1 this.2

theorem isWord_any (n a : Int) (w : World) (h0 : 0 ≤ a) (h1 : a < 4294967296) : Calls Tryz.prog 117 #[.int .i64 n, .int .u32 a] w fun e w' => e = .returned (.bool (B.isW n a)) ∧ w = w' := by
  have H1 := Lib.hid (risWidth_any n w)
  cases h : B.isWd n
  · have hw : B.isW n a = false := by unfold B.isW; rw [h]; rfl
    rw [h] at H1
    rw [hw]
    clear h hw
    go_enter Tryz.func117, Tryz.ntmps117
    go_wp2_with fail
    refine H1.out.mono ?_
    rintro e w' ⟨rfl, rfl⟩
    go_wp2
    go_ret
    exact ⟨rfl, rfl⟩
  · have hn := B.isWd_iff.1 h
    have hw : B.isW n a = decide (a < B.pw n) := by unfold B.isW; rw [h]; rfl
    rw [h] at H1
    rw [hw]
    have H2 := Lib.hid (fun W => rsize_any n W (by omega) hn.2)
    clear h hn hw
    go_enter Tryz.func117, Tryz.ntmps117
    go_wp2_with fail
    refine H1.out.mono ?_
    rintro e w' ⟨rfl, rfl⟩
    go_wp2_with fail
    refine (H2.out _).mono ?_
    rintro e w' ⟨rfl, rfl⟩
    go_wp2
    go_ret
    exact ⟨rfl, rfl⟩

end Go.Proofs.YtcmlmjbpdaecbaaGreat
end
section
namespace Go.Proofs.YtcmlmjbpdaecbaaGreat
open Go.RowKit
set_option linter.unusedVariables false

theorem quiet_eq {P : Program} {f : FuncId} {args : Array Value} {w : World} {n : Nat} {v : Value}
    (h : Calls P f args (w.drewN n) fun e w' => e = .returned v ∧ w.drewN n = w') : Calls P f args (w.drewN n) fun e w'' => e = .returned v ∧ ∃ m, w'' = w.drewN m :=
  h.mono fun _ _ ⟨he, hm⟩ => ⟨he, n, hm.symm⟩

end Go.Proofs.YtcmlmjbpdaecbaaGreat
end
section
namespace Go.Proofs.YtcmlmjbpdaecbaaGreat
open Go.RowKit
set_option linter.unusedVariables false

end Go.Proofs.YtcmlmjbpdaecbaaGreat
end
section
namespace Go.Proofs.YtcmlmjbpdaecbaaGreat
open Go.RowKit
set_option linter.unusedVariables false

theorem sg_bound {n a b : Int} (h : B.Wds n a b) : -2147483648 ≤ B.sg n a ∧ B.sg n a < 2147483648 ∧ -2147483648 ≤ B.sg n b ∧ B.sg n b < 2147483648 := by
  obtain ⟨n0, n1, a0, a1, b0, b1⟩ := h
  have h3 := B.pw_le31 (show n - 1 ≤ 31 by omega)
  have := B.sg_lo n0 a0
  have := B.sg_hi n0 a1
  have := B.sg_lo n0 b0
  have := B.sg_hi n0 b1
  omega

theorem mul_bound {x y : Int} (h1 : -2147483648 ≤ x) (h2 : x < 2147483648) (h3 : -2147483648 ≤ y) (h4 : y < 2147483648) : -4611686018427387904 ≤ x * y ∧ x * y ≤ 4611686018427387904 := by
  have h : (x * y).natAbs ≤ 2147483648 * 2147483648 := by
    rw [Int.natAbs_mul]
    exact Nat.mul_le_mul (by omega) (by omega)
  omega

/-- what '/' and '%' of signed values come to -/
theorem quot_facts {n a b : Int} (h : B.Wds n a b) (hq : ¬ (b = 0 ∨ (B.sg n a = -B.pw (n - 1) ∧ B.sg n b = -1))) :
    B.sg n b ≠ 0 ∧ -2147483648 ≤ (B.sg n a).tdiv (B.sg n b) ∧ (B.sg n a).tdiv (B.sg n b) ≤ 2147483648 ∧ -2147483648 ≤ (B.sg n a).tmod (B.sg n b) ∧ (B.sg n a).tmod (B.sg n b) ≤ 2147483648 ∧
    B.sg n a - (B.sg n a).tdiv (B.sg n b) * B.sg n b = (B.sg n a).tmod (B.sg n b) ∧ -4294967296 ≤ (B.sg n a).tdiv (B.sg n b) * B.sg n b ∧ (B.sg n a).tdiv (B.sg n b) * B.sg n b ≤ 4294967296 := by
  have hbd := sg_bound h
  obtain ⟨n0, n1, a0, a1, b0, b1⟩ := h
  have hz := B.sg_zero n0 b0 b1
  have bd := B.tdiv_bound (B.sg n a) (B.sg n b)
  have bm := B.tmod_bound (B.sg n a) (B.sg n b)
  have e : B.sg n a - (B.sg n a).tdiv (B.sg n b) * B.sg n b = (B.sg n a).tmod (B.sg n b) := by
    have := Int.mul_tdiv_add_tmod (B.sg n a) (B.sg n b)
    rw [Int.mul_comm] at this
    omega
  exact ⟨fun h => hq (.inl (hz.1 h)), by omega, by omega, by omega, by omega, e, by omega, by omega⟩

end Go.Proofs.YtcmlmjbpdaecbaaGreat
end
section
namespace Go.Proofs.YtcmlmjbpdaecbaaGreat
open Go.RowKit
set_option linter.unusedVariables false

end Go.Proofs.YtcmlmjbpdaecbaaGreat
end
section
namespace Go.Proofs.YtcmlmjbpdaecbaaGreat
open Go.RowKit
set_option linter.unusedVariables false
set_option linter.unusedSimpArgs false

end Go.Proofs.YtcmlmjbpdaecbaaGreat
end
end
