/- Merged: C4Rg, C4Ov, C4U4. -/
import Derived.Test.YtbiopedpceddeaaGreatDoorW00
import Derived.Deep.Quiet
import Derived.Test.YtbiopedpceddeaaGreatDoorW03
set_option linter.unusedVariables false
set_option linter.unusedSimpArgs false
section
namespace Go.Proofs.YtbiopedpceddeaaGreatDoor
open Go.RowKit

namespace Rg
section
variable {P : Program} {ops : Array Oper} {md : Region.Mode} {C : World → Prop}

def dst (ops : Array Oper) (k : Nat) : Option Tmp := (ops[k]?).bind (·.dst)

/-- the values of those among the first m operations that are chosen, laid into their slots -/
def cp (ops : Array Oper) (vs : Nat → Value) (a : Act) (c : Nat → Bool) : Nat → Act
  | 0 => a
  | m + 1 => if c m then (cp ops vs a c m).put (dst ops m) (vs m) else cp ops vs a c m

theorem size_put (a : Act) (d : Option Tmp) (v : Value) : (a.put d v).tmps.size = a.tmps.size := by
  cases d <;> simp [Act.put]

theorem size_cp (vs : Nat → Value) (a : Act) (c : Nat → Bool) (m : Nat) : (cp ops vs a c m).tmps.size = a.tmps.size := by
  induction m with
  | zero => rfl
  | succ m ih =>
    simp only [cp]
    split
    · rw [size_put, ih]
    · exact ih

theorem eval_put_same (a : Act) (t : Tmp) (v : Value) : (a.put (some t) v).eval (.tmp t) = if t < a.tmps.size then v else undef := by
  simp only [Act.eval, Act.put, Array.getD_eq_getD_getElem?, Array.getElem?_setIfInBounds]
  by_cases h : t < a.tmps.size <;> simp [h]

theorem eval_other (a : Act) (d : Option Tmp) (t : Tmp) (v : Value) (h : d ≠ some t) : (a.put d v).eval (.tmp t) = a.eval (.tmp t) :=
  Act.eval_put fun e he hx => h (by rw [he]; injection hx with hx; rw [hx])

theorem eval_none (vs : Nat → Value) (a : Act) (c : Nat → Bool) (t : Tmp) (m : Nat) (h : ∀ k, k < m → dst ops k ≠ some t) : (cp ops vs a c m).eval (.tmp t) = a.eval (.tmp t) := by
  induction m with
  | zero => rfl
  | succ m ih =>
    simp only [cp]
    split
    · rw [eval_other _ _ _ _ (h m (by omega))]; exact ih fun k hk => h k (by omega)
    · exact ih fun k hk => h k (by omega)

theorem eval_hit (vs : Nat → Value) (a : Act) (c : Nat → Bool) (t : Tmp) (k : Nat) (hd : dst ops k = some t) (hc : c k = true) (m : Nat) (hk : k < m) (h : ∀ j, j < m → j ≠ k → dst ops j ≠ some t) :
    (cp ops vs a c m).eval (.tmp t) = if t < a.tmps.size then vs k else undef := by
  induction m with
  | zero => omega
  | succ m ih =>
    simp only [cp]
    by_cases e : k = m
    · subst e
      rw [if_pos hc, hd, eval_put_same, size_cp]
    · have hm := h m (by omega) (fun e' => e e'.symm)
      split
      · rw [eval_other _ _ _ _ hm]; exact ih (by omega) fun j hj => h j (by omega)
      · exact ih (by omega) fun j hj => h j (by omega)

theorem cp_congr (vs : Nat → Value) (a : Act) {c c' : Nat → Bool} (m : Nat) (h : ∀ k, k < m → c k = c' k) : cp ops vs a c m = cp ops vs a c' m := by
  induction m with
  | zero => rfl
  | succ m ih => simp only [cp, ih fun k hk => h k (by omega), h m (by omega)]

theorem cp_set (vs : Nat → Value) (a : Act) {c c' : Nat → Bool} (i : Nat) (m : Nat) (hi : i < m) (h0 : c i = false) (h1 : c' i = true) (h : ∀ k, k ≠ i → c' k = c k)
    (hd : ∀ k t, k < m → k ≠ i → dst ops k = some t → dst ops i ≠ some t) : cp ops vs a c' m = (cp ops vs a c m).put (dst ops i) (vs i) := by
  induction m with
  | zero => omega
  | succ m ih =>
    simp only [cp]
    by_cases e : i = m
    · subst e
      rw [if_pos h1, if_neg (by simp [h0]), cp_congr vs a i fun k hk => h k (by omega)]
    · rw [ih (by omega) fun k t hk => hd k t (by omega), h m (fun e' => e e'.symm)]
      split
      · exact (Act.put_comm _ _ _ fun t ht e' => hd m t (by omega) (fun e'' => e e''.symm) e' ht)
      · rfl

/-- What an operation looks at. -/
theorem same_of_evals {o : Oper} (hs : ∀ cs b, o.op ≠ .select cs b) {a b : Act} (h : ∀ t, t ∈ o.looksAt ops → a.eval (.tmp t) = b.eval (.tmp t)) :
    execOp a.eval o = execOp b.eval o ∧ Region.wanted o (yielded ops a.tmps) = Region.wanted o (yielded ops b.tmps) := by
  constructor
  · refine execOp_congr o hs fun x hx => ?_
    cases x with
    | tmp t => exact h t (List.mem_append_left _ (List.mem_filterMap.2 ⟨.tmp t, by simpa using hx, rfl⟩))
    | const v => rfl
    | global g => rfl
    | func f => rfl
  · unfold Region.wanted
    cases hg : o.guard with
    | none => rfl
    | some p =>
      obtain ⟨g, want⟩ := p
      simp only
      have : yielded ops a.tmps g = yielded ops b.tmps g := by
        unfold yielded
        cases hd : (ops[g]?).bind (·.dst) with
        | none => rfl
        | some d =>
          have := h d (List.mem_append_right _ (by simp [hg, hd]))
          simp only [Act.eval, Array.getD_eq_getD_getElem?] at this
          simp only [Option.bind_some]
          cases h1 : a.tmps[d]? with
          | none =>
            cases h2 : b.tmps[d]? with
            | none => rfl
            | some u => rw [h1, h2] at this; simp at this; subst this; rfl
          | some u =>
            cases h2 : b.tmps[d]? with
            | none => rw [h1, h2] at this; simp at this; subst this; rfl
            | some u' => rw [h1, h2] at this; simp at this; subst this; rfl
      rw [this]

/-- the operations in the order of the text: their values -/
theorem lex_values {Q : Act → Prop} : ∀ (l : List Oper) (k : Nat) (a : Act), (∀ j, j < l.length → l[j]? = ops[k + j]?) → wpQuiet P ops C Q l a →
    ∃ vs : Nat → Value, (∀ j, j < l.length → ∃ o b, ops[k + j]? = some o ∧ YieldsIn P ops C o (vs j) b ∧ b = (List.range j).foldl (fun a i => a.put (dst ops (k + i)) (vs i)) a) ∧
      Q ((List.range l.length).foldl (fun a i => a.put (dst ops (k + i)) (vs i)) a)
  | [], k, a, _, h => ⟨fun _ => undef, fun j hj => absurd hj (by simp), h⟩
  | o :: rest, k, a, hl, h => by
    have ho : ops[k]? = some o := by have := hl 0 (by simp); simpa using this.symm
    have h' : qOp P ops C k (wpQuiet P ops C Q rest) a := by
      unfold qOp
      simp only [ho]
      exact h
    obtain ⟨v, hy, hr⟩ := yieldsIn_of_qOp ho h'
    obtain ⟨vs, h1, h2⟩ := lex_values rest (k + 1) (a.put o.dst v) (fun j hj => by
      have := hl (j + 1) (by simp; omega)
      simpa [Nat.add_assoc, Nat.add_comm 1 j] using this) hr
    have hd : dst ops k = o.dst := by simp [dst, ho]
    have shift : ∀ m, (List.range (m + 1)).foldl (fun a i => a.put (dst ops (k + i)) ((fun j => if j = 0 then v else vs (j - 1)) i)) a = (List.range m).foldl (fun a i => a.put (dst ops (k + 1 + i)) (vs i)) (a.put o.dst v) := by
      intro m
      rw [List.range_succ_eq_map, List.foldl_cons, List.foldl_map]
      simp only [Nat.add_zero, hd, if_true]
      congr 1
      funext b i
      simp [Nat.add_assoc, Nat.add_comm 1 i]
    refine ⟨fun j => if j = 0 then v else vs (j - 1), fun j hj => ?_, ?_⟩
    · cases j with
      | zero => exact ⟨o, a, by simpa using ho, by simpa using hy, rfl⟩
      | succ j =>
        obtain ⟨o', b, g1, g2, g3⟩ := h1 j (by simp at hj; omega)
        refine ⟨o', b, by rw [← g1]; congr 1; omega, by simpa using g2, ?_⟩
        rw [g3]
        exact (shift j).symm
    · rw [List.length_cons]
      have := shift rest.length
      rw [this]
      exact h2

theorem fold_cp (vs : Nat → Value) (a : Act) (m : Nat) : (List.range m).foldl (fun a i => a.put (dst ops (0 + i)) (vs i)) a = cp ops vs a (fun _ => true) m := by
  induction m with
  | zero => rfl
  | succ m ih =>
    rw [List.range_succ, List.foldl_append, ih]
    simp [cp]

theorem dst_lt {k : Nat} {t : Tmp} (h : dst ops k = some t) : k < ops.size := by
  rcases Nat.lt_or_ge k ops.size with h' | h'
  · exact h'
  · simp [dst, Array.getElem?_eq_none h'] at h

theorem at_lt {i : Nat} {o : Oper} (h : ops[i]? = some o) : i < ops.size := (Array.getElem?_eq_some_iff.1 h).1

/-- how many have not come up -/
def unl (listed : Array Bool) : Nat → Nat
  | 0 => 0
  | m + 1 => unl listed m + if listed.getD m true then 0 else 1

theorem unl_same {listed listed' : Array Bool} (m : Nat) (h : ∀ k, k < m → listed'.getD k true = listed.getD k true) : unl listed' m = unl listed m := by
  induction m with
  | zero => rfl
  | succ m ih => simp only [unl, ih fun k hk => h k (by omega), h m (by omega)]

theorem unl_set {listed : Array Bool} {i : Nat} (h : listed.getD i true = false) (m : Nat) (hi : i < m) : unl (listed.setIfInBounds i true) m + 1 = unl listed m := by
  have his : i < listed.size := by
    rcases Nat.lt_or_ge i listed.size with h' | h'
    · exact h'
    · simp [Array.getElem?_eq_none h'] at h
  induction m with
  | zero => omega
  | succ m ih =>
    simp only [unl]
    by_cases e : i = m
    · subst e
      have e1 : unl (listed.setIfInBounds i true) i = unl listed i := unl_same i fun k hk => getD_set_ne true (by omega)
      rw [e1, h]
      simp [his]
    · have := ih (by omega)
      rw [getD_set_ne true e]
      omega

theorem unl_zero {listed : Array Bool} {m : Nat} (h : unl listed m = 0) : ∀ k, k < m → listed.getD k true = true := by
  induction m with
  | zero => intro k hk; omega
  | succ m ih =>
    simp only [unl] at h
    intro k hk
    by_cases e : k = m
    · subst e
      cases hl : listed.getD k true
      · simp [hl] at h
      · rfl
    · exact ih (by omega) k (by omega)

theorem two_getD {listed : Array Bool} {k : Nat} (hk : k < listed.size) (d d' : Bool) : listed.getD k d = listed.getD k d' := by simp [hk]

/-- nothing but what comes behind, no panic -/
def onlyK (K : Act → World → Prop) : Exit → Act → World → Prop
  | .normal, a, w => K a w
  | _, _, _ => False

theorem no_out (K : Act → World → Prop) : ¬ LetsOut (onlyK K) := by
  rintro ⟨a, w, h⟩; exact h

end

theorem wpOp_out {P : Program} {ops : Array Oper} {Q : Exit → Act → World → Prop} {K K' : Act → World → Prop} {i : Nat} {a : Act} {w : World} (h : wpOp P ops (onlyK K') i K a w) : wpOp P ops Q i K a w := by
  unfold wpOp at h ⊢
  split
  · rename_i ho; simpa only [ho] using h
  · rename_i o ho
    simp only [ho] at h
    split
    · rename_i hw
      rw [if_pos hw] at h
      rcases h with h | ⟨_, h⟩
      · left
        unfold Oper.wp at h ⊢
        generalize (execOp a.eval o).run P w = r at h
        cases r with
        | ok nx w' =>
          cases nx <;> simp only [Oper.upon] at h ⊢
          case value u => exact h
          case skip => exact h
          case defer d => exact h
          case enter f args =>
            refine Calls.mono h fun e w'' he => ?_
            cases e with
            | returned u => exact he
            | panicked c => exact he.elim
            | outgrown => exact absurd he (no_out K')
          case row row args => exact h
        | halt x w' =>
          cases x <;> simp only [Oper.upon] at h ⊢
          case panic u => exact h.elim
      · exact absurd h (no_out K')
    · rename_i hw
      rw [if_neg hw] at h
      exact h

theorem wpAny_out {P : Program} {ops : Array Oper} {md : Region.Mode} {Q : Exit → Act → World → Prop} {K : Act → World → Prop} (hK : ∀ a w, K a w → Q .normal a w) : ∀ (fuel : Nat) (listed : Array Bool) (a : Act) (w : World), wpAny P md ops (onlyK K) fuel listed a w → wpAny P md ops Q fuel listed a w
  | 0, _, _, _, h => ⟨h.1, hK _ _ h.2⟩
  | fuel + 1, _, _, _, h => ⟨fun h0 => hK _ _ (h.1 h0), fun i hi => wpOp_mono (fun a' w' h' => wpAny_out hK fuel _ a' w' h') (wpOp_out (h.2 i hi))⟩

end Rg
end Go.Proofs.YtbiopedpceddeaaGreatDoor
end
section
namespace Go.Proofs.YtbiopedpceddeaaGreatDoor
open Go.RowKit

/-- worlds that keep what W holds, as the values of one function -/
structure Ov (W : World) where
  f : World → World
  below : ∀ u, Below W.heap.size W (f u)
  eq : ∀ u, Below W.heap.size W u → f u = u

theorem ov_ex (W : World) : Nonempty (Ov W) := by
  have h : ∀ u : World, ∃ v : World, Below W.heap.size W v ∧ (Below W.heap.size W u → v = u) := fun u => by
    by_cases h : Below W.heap.size W u
    · exact ⟨u, h, fun _ => rfl⟩
    · exact ⟨W, Below.refl _ _, fun h' => absurd h' h⟩
  obtain ⟨f, hf⟩ := Classical.axiomOfChoice h
  exact ⟨⟨f, fun u => (hf u).1, fun u => (hf u).2⟩⟩

theorem cell_below {W : World} {b o : Nat} {v : Value} (h : W.cell? ⟨b, o, none⟩ = some v) : b < W.heap.size := by
  rcases Nat.lt_or_ge b W.heap.size with h' | h'
  · exact h'
  · simp [World.cell?, Array.getElem?_eq_none h'] at h

theorem Ov.cell {W : World} (ov : Ov W) {b o : Nat} {v : Value} (h : W.cell? ⟨b, o, none⟩ = some v) (u : World) : (ov.f u).cell? ⟨b, o, none⟩ = some v :=
  ((ov.below u).cell (p := ⟨b, o, none⟩) (cell_below h)).trans h

theorem calls_over {P : Program} {f : FuncId} {args : Array Value} {W u : World} {ov : Ov W} {v : Value} (h : Calls P f args (ov.f u) fun e w' => e = .returned v ∧ Below (ov.f u).heap.size (ov.f u) w') :
    Calls P f args (ov.f u) fun e w'' => e = .returned v ∧ ∃ m, w'' = ov.f m :=
  h.mono fun _ w'' ⟨he, hb⟩ => ⟨he, w'', (ov.eq _ ((ov.below u).trans (hb.mono (ov.below u).size))).symm⟩
theorem calls_over_same {P : Program} {f : FuncId} {args : Array Value} {W u : World} {ov : Ov W} {v : Value} (h : Calls P f args (ov.f u) fun e w' => e = .returned v ∧ ov.f u = w') :
    Calls P f args (ov.f u) fun e w'' => e = .returned v ∧ ∃ m, w'' = ov.f m :=
  h.mono fun _ w'' ⟨he, hb⟩ => ⟨he, u, hb.symm⟩
/-- A drawn region that reads and calls. -/
theorem wp_region_ovq {P : Program} {id : Nat} {Q : Exit → Act → World → Prop} {a : Act} {w : World} {l : List Oper} (ov : Ov w) (hm : P.follows .mixedOrders = true) (hB : Region.lexB .any l.toArray = true)
    (h : wpQuiet P l.toArray (fun w' => ∃ u, w' = ov.f u) (fun a' => ∀ w', (∃ u, w' = ov.f u) → Q .normal a' w') l a) : (Code.region id l.toArray true).wp P Q a w :=
  wp_region_quiet (C := fun w' => ∃ u, w' = ov.f u) hm hB ⟨w.drew, (ov.eq w.drew ⟨rfl, rfl, rfl, Nat.le_refl _, fun _ _ => rfl⟩).symm⟩ (by simpa using h)
end Go.Proofs.YtbiopedpceddeaaGreatDoor
end
section
namespace Go.Proofs.YtbiopedpceddeaaGreatDoor
open Go.RowKit
set_option linter.unusedVariables false
set_option linter.unusedSimpArgs false

set_option maxHeartbeats 1000000 in
theorem typedClo_any (t : List T.Nd) (args : List Int) (i Bt Bx n m c ct : Nat) (At A : Option Addr) (W : World) (hT : StAt 5 NdR W At n t) (hA : SlAt (IntR .i64) W A m args) (hBt : W.cell? ⟨Bt, 0, none⟩ = some (.slice At n ct)) (hBx : W.cell? ⟨Bx, 3, none⟩ = some (.slice A m c))
    (hi : i < m) (ha : 0 ≤ args.getD i 0 ∧ args.getD i 0 < n) :
    Calls Tryz.prog 197 #[.int .i64 (i : Int), .pointer (some ⟨Bt, 0, none⟩), .pointer (some ⟨Bx, 0, none⟩)] W fun e w' => e = .returned (.int .i64 (t.getD (args.getD i 0).toNat default).w) ∧ Dr W w' := by
  obtain ⟨y, b, off, u, hy, rfl, hb, hc, rfl⟩ := hA.at_ hi
  rw [getD_of hy] at ha ⊢
  obtain ⟨j, rfl⟩ : ∃ j : Nat, y = j := ⟨y.toNat, by omega⟩
  obtain ⟨x, b2, off2, A2, c2, hx, rfl, _, _, hw, _⟩ := nd_cells hT (j := j) (by omega)
  rw [Int.toNat_natCast, getD_of hx]
  have hj : j < n := by omega
  have hle := hA.le
  have hle2 := hT.le
  clear hy hA hT hx hb ha
  go_enter Tryz.func197, Tryz.ntmps197
  go_wp2
  go_quiet (fail)
  go_wp2
  go_ret
  exact ⟨rfl, _, rfl⟩

set_option maxRecDepth 100000 in
set_option maxHeartbeats 4000000 in
theorem pisTyped_any (t : List T.Nd) (x : T.Nd) (n ct : Nat) (At A : Option Addr) (c : Nat) (W : World) (hT : StAt 5 NdR W At n t) (hA : SlAt (IntR .i64) W A x.args.length x.args) (hlen : 1 ≤ x.op → x.op ≤ 18 → (x.args.length : Int) = T.ar x.op) (harg : ∀ a ∈ x.args, 0 ≤ a ∧ a < (n : Int)) :
    Calls Tryz.prog 158 #[.slice At n ct, ndV x A c] W fun e w' => e = .returned (.bool (T.typed t x)) ∧ Below W.heap.size W w' := by
  obtain ⟨W1, hW1⟩ : ∃ W1, W1 = (W.alloc (.cells #[.slice At n ct] 22)).alloc (.cells #[.int .i64 x.op, .int .i64 x.w, .int .i64 x.fl, .slice A x.args.length c, .int .u32 x.imm] 62) := ⟨_, rfl⟩
  have hB1 : Below W.heap.size W W1 := by rw [hW1]; exact ((Below.refl _ _).alloc (Nat.le_refl _) _).alloc (by simp) _
  have hr0 : W1.heap[W.heap.size]? = some (.cells #[.slice At n ct] 22 (0, 0)) := by rw [hW1]; exact row_alloc (heap_alloc_new W _) _
  have hr1 : W1.heap[W.heap.size + 1]? = some (.cells #[.int .i64 x.op, .int .i64 x.w, .int .i64 x.fl, .slice A x.args.length c, .int .u32 x.imm] 62 (0, 0)) := by rw [hW1]; exact new_two W _ _
  have HQ : ∀ i, i < x.args.length → Hid (∀ nn, Calls Tryz.prog 197 #[.int .i64 (i : Int), .pointer (some ⟨W.heap.size, 0, none⟩), .pointer (some ⟨W.heap.size + 1, 0, none⟩)] (W1.drewN nn) fun e w'' => e = .returned (.int .i64 (T.wd t x i)) ∧ ∃ m, w'' = W1.drewN m) := fun i hi => by
    intro nn
    have hb := hB1.dr ⟨nn, rfl⟩
    have ha := harg _ (List.getElem_mem hi)
    have hc := typedClo_any t x.args i W.heap.size (W.heap.size + 1) n x.args.length c ct At A (W1.drewN nn) (hT.below monoNd hb) (hA.below (monoInt _) hb) (by rw [cell_of_row (W1.drewN nn) _ _ _ _ (0, 0) hr0]; rfl) (by rw [cell_of_row (W1.drewN nn) _ _ _ _ (0, 0) hr1]; rfl) hi (by rw [List.getD_eq_getElem?_getD, List.getElem?_eq_getElem hi]; exact ha)
    exact Calls.quiet_of (hc.mono fun e w' ⟨h1, m, h2⟩ => ⟨h1, m, h2⟩)
  obtain ⟨op, w, fl, args, imm⟩ := x
  rw [show ndV ⟨op, w, fl, args, imm⟩ A c = .agg #[.int .i64 op, .int .i64 w, .int .i64 fl, .slice A args.length c, .int .u32 imm] from rfl]
  dsimp only at HQ hW1 hlen
  have HB1 := Lib.hid hB1
  have hle := hA.le
  dsimp only at hr1
  have x0 : W1.cell? ⟨W.heap.size + 1, 0, none⟩ = some (.int .i64 op) := by rw [cell_of_row _ _ _ _ _ (0, 0) hr1]; rfl
  have x1 : W1.cell? ⟨W.heap.size + 1, 1, none⟩ = some (.int .i64 w) := by rw [cell_of_row _ _ _ _ _ (0, 0) hr1]; rfl
  rcases typed_cases op with h | h | h | h | h | h | h
  · have hl2 : (args.length : Int) = 2 := by rw [hlen (by omega) (by omega)]; unfold T.ar; rw [if_neg (by omega), if_pos (by omega)]
    have Q0 : Hid (∀ nn, Calls Tryz.prog 197 #[.int .i64 0, .pointer (some ⟨W.heap.size, 0, none⟩), .pointer (some ⟨W.heap.size + 1, 0, none⟩)] (W1.drewN nn) fun e w'' => e = .returned (.int .i64 (T.wd t ⟨op, w, fl, args, imm⟩ 0)) ∧ ∃ m, w'' = W1.drewN m) := HQ 0 (by omega)
    have Q1 : Hid (∀ nn, Calls Tryz.prog 197 #[.int .i64 1, .pointer (some ⟨W.heap.size, 0, none⟩), .pointer (some ⟨W.heap.size + 1, 0, none⟩)] (W1.drewN nn) fun e w'' => e = .returned (.int .i64 (T.wd t ⟨op, w, fl, args, imm⟩ 1)) ∧ ∃ m, w'' = W1.drewN m) := HQ 1 (by omega)
    have q1 : decide (1 ≤ op) = true := by simpa using h.1
    have q2 : decide (op ≤ 13) = true := by simpa using h.2
    rw [typed_13 h]
    dsimp only
    obtain ⟨a0, h0⟩ : ∃ a0, a0 = T.wd t ⟨op, w, fl, args, imm⟩ 0 := ⟨_, rfl⟩
    obtain ⟨a1, h1⟩ : ∃ a1, a1 = T.wd t ⟨op, w, fl, args, imm⟩ 1 := ⟨_, rfl⟩
    rw [← h0] at Q0 ⊢
    rw [← h1] at Q1 ⊢
    clear HQ hr0 hr1 hT hA harg hlen hB1
    clear h0 h1 h hl2
    by_cases e0 : a0 = w
    · have z0 : (a0 == w) = true := by simpa using e0
      have hd : (decide (a0 = w) && decide (a1 = w)) = (a1 == w) := by rw [decide_eq_true e0, Bool.true_and]; by_cases h : a1 = w <;> simp [h]
      rw [hd]
      clear e0 hd
      go_enter Tryz.func158, Tryz.ntmps158
      go_wp2
      rw [← hW1]
      clear hW1
      go_quiet ((go_at_call 197; first | with_reducible exact Q0.out _ | with_reducible exact Q1.out _ | fail))
      go_wp2
      go_ret
      exact ⟨rfl, HB1.out.dr ⟨_, rfl⟩⟩
    · have z0 : (a0 == w) = false := by simpa using e0
      rw [decide_eq_false e0, Bool.false_and]
      clear e0
      go_enter Tryz.func158, Tryz.ntmps158
      go_wp2
      rw [← hW1]
      clear hW1
      go_quiet ((go_at_call 197; first | with_reducible exact Q0.out _ | with_reducible exact Q1.out _ | fail))
      go_wp2
      go_ret
      exact ⟨rfl, HB1.out.dr ⟨_, rfl⟩⟩
  · have hl2 : (args.length : Int) = 2 := by rw [hlen (by omega) (by omega)]; unfold T.ar; rw [if_neg (by omega), if_pos (by omega)]
    have Q0 : Hid (∀ nn, Calls Tryz.prog 197 #[.int .i64 0, .pointer (some ⟨W.heap.size, 0, none⟩), .pointer (some ⟨W.heap.size + 1, 0, none⟩)] (W1.drewN nn) fun e w'' => e = .returned (.int .i64 (T.wd t ⟨op, w, fl, args, imm⟩ 0)) ∧ ∃ m, w'' = W1.drewN m) := HQ 0 (by omega)
    have Q1 : Hid (∀ nn, Calls Tryz.prog 197 #[.int .i64 1, .pointer (some ⟨W.heap.size, 0, none⟩), .pointer (some ⟨W.heap.size + 1, 0, none⟩)] (W1.drewN nn) fun e w'' => e = .returned (.int .i64 (T.wd t ⟨op, w, fl, args, imm⟩ 1)) ∧ ∃ m, w'' = W1.drewN m) := HQ 1 (by omega)
    rw [typed_14 h]
    try dsimp only at h ⊢
    obtain ⟨a0, h0⟩ : ∃ a0, a0 = T.wd t ⟨op, w, fl, args, imm⟩ 0 := ⟨_, rfl⟩
    obtain ⟨a1, h1⟩ : ∃ a1, a1 = T.wd t ⟨op, w, fl, args, imm⟩ 1 := ⟨_, rfl⟩
    rw [← h0] at Q0 ⊢
    rw [← h1] at Q1 ⊢
    clear HQ hr0 hr1 hT hA harg hlen hB1
    clear h0 h1 hl2
    subst h
    have hd : decide (a0 = a1) = (a0 == a1) := by by_cases h : a0 = a1 <;> simp [h]
    rw [hd]
    clear hd
    go_enter Tryz.func158, Tryz.ntmps158
    go_wp2_with fail
    rw [← hW1]
    clear hW1
    refine Calls.mono (w := W1) (Q0.out 0) ?_
    rintro e w2 ⟨rfl, m0, rfl⟩
    go_wp2_with fail
    refine (Q1.out m0).mono ?_
    rintro e w3 ⟨rfl, m1, rfl⟩
    go_wp2
    go_ret
    exact ⟨rfl, HB1.out.dr ⟨_, rfl⟩⟩
  · have hl3 : (args.length : Int) = 3 := by rw [hlen (by omega) (by omega)]; unfold T.ar; rw [if_neg (by omega), if_neg (by omega), if_pos (by omega)]
    have Q0 : Hid (∀ nn, Calls Tryz.prog 197 #[.int .i64 0, .pointer (some ⟨W.heap.size, 0, none⟩), .pointer (some ⟨W.heap.size + 1, 0, none⟩)] (W1.drewN nn) fun e w'' => e = .returned (.int .i64 (T.wd t ⟨op, w, fl, args, imm⟩ 0)) ∧ ∃ m, w'' = W1.drewN m) := HQ 0 (by omega)
    have Q1 : Hid (∀ nn, Calls Tryz.prog 197 #[.int .i64 1, .pointer (some ⟨W.heap.size, 0, none⟩), .pointer (some ⟨W.heap.size + 1, 0, none⟩)] (W1.drewN nn) fun e w'' => e = .returned (.int .i64 (T.wd t ⟨op, w, fl, args, imm⟩ 1)) ∧ ∃ m, w'' = W1.drewN m) := HQ 1 (by omega)
    have Q2 : Hid (∀ nn, Calls Tryz.prog 197 #[.int .i64 2, .pointer (some ⟨W.heap.size, 0, none⟩), .pointer (some ⟨W.heap.size + 1, 0, none⟩)] (W1.drewN nn) fun e w'' => e = .returned (.int .i64 (T.wd t ⟨op, w, fl, args, imm⟩ 2)) ∧ ∃ m, w'' = W1.drewN m) := HQ 2 (by omega)
    rw [typed_15 h]
    try dsimp only at h ⊢
    obtain ⟨a0, h0⟩ : ∃ a0, a0 = T.wd t ⟨op, w, fl, args, imm⟩ 0 := ⟨_, rfl⟩
    obtain ⟨a1, h1⟩ : ∃ a1, a1 = T.wd t ⟨op, w, fl, args, imm⟩ 1 := ⟨_, rfl⟩
    obtain ⟨a2, h2⟩ : ∃ a2, a2 = T.wd t ⟨op, w, fl, args, imm⟩ 2 := ⟨_, rfl⟩
    rw [← h0] at Q0 ⊢
    rw [← h1] at Q1 ⊢
    rw [← h2] at Q2 ⊢
    clear HQ hr0 hr1 hT hA harg hlen hB1
    clear h0 h1 h2 hl3
    subst h
    by_cases e0 : a0 = 1
    · have z0 : (a0 == 1) = true := by simpa using e0
      by_cases e1 : a1 = w
      · have z1 : (a1 == w) = true := by simpa using e1
        have hd : (decide (a0 = 1) && decide (a1 = w) && decide (a2 = w)) = (a2 == w) := by rw [decide_eq_true e0, decide_eq_true e1, Bool.true_and, Bool.true_and]; by_cases h : a2 = w <;> simp [h]
        rw [hd]
        clear e0 e1 hd
        go_enter Tryz.func158, Tryz.ntmps158
        go_wp2
        rw [← hW1]
        clear hW1
        go_quiet ((go_at_call 197; first | with_reducible exact Q0.out _ | with_reducible exact Q1.out _ | with_reducible exact Q2.out _ | fail))
        go_wp2
        go_ret
        exact ⟨rfl, HB1.out.dr ⟨_, rfl⟩⟩
      · have z1 : (a1 == w) = false := by simpa using e1
        rw [decide_eq_false e1, Bool.and_false, Bool.false_and]
        clear e0 e1
        go_enter Tryz.func158, Tryz.ntmps158
        go_wp2
        rw [← hW1]
        clear hW1
        go_quiet ((go_at_call 197; first | with_reducible exact Q0.out _ | with_reducible exact Q1.out _ | with_reducible exact Q2.out _ | fail))
        go_wp2
        go_ret
        exact ⟨rfl, HB1.out.dr ⟨_, rfl⟩⟩
    · have z0 : (a0 == 1) = false := by simpa using e0
      rw [decide_eq_false e0, Bool.false_and, Bool.false_and]
      clear e0
      go_enter Tryz.func158, Tryz.ntmps158
      go_wp2
      rw [← hW1]
      clear hW1
      go_quiet ((go_at_call 197; first | with_reducible exact Q0.out _ | with_reducible exact Q1.out _ | with_reducible exact Q2.out _ | fail))
      go_wp2
      go_ret
      exact ⟨rfl, HB1.out.dr ⟨_, rfl⟩⟩
  · have hl1 : (args.length : Int) = 1 := by rw [hlen (by omega) (by omega)]; unfold T.ar; rw [if_neg (by omega), if_neg (by omega), if_neg (by omega), if_pos (by omega)]
    have Q0 : Hid (∀ nn, Calls Tryz.prog 197 #[.int .i64 0, .pointer (some ⟨W.heap.size, 0, none⟩), .pointer (some ⟨W.heap.size + 1, 0, none⟩)] (W1.drewN nn) fun e w'' => e = .returned (.int .i64 (T.wd t ⟨op, w, fl, args, imm⟩ 0)) ∧ ∃ m, w'' = W1.drewN m) := HQ 0 (by omega)
    rw [typed_16 (.inl h)]
    try dsimp only at h ⊢
    obtain ⟨a0, h0⟩ : ∃ a0, a0 = T.wd t ⟨op, w, fl, args, imm⟩ 0 := ⟨_, rfl⟩
    rw [← h0] at Q0 ⊢
    clear HQ hr0 hr1 hT hA harg hlen hB1
    clear h0 hl1
    subst h
    go_enter Tryz.func158, Tryz.ntmps158
    go_wp2
    rw [← hW1]
    clear hW1
    go_quiet ((go_at_call 197; first | with_reducible exact Q0.out _ | fail))
    go_wp2
    go_ret
    exact ⟨rfl, HB1.out.dr ⟨_, rfl⟩⟩
  · have hl1 : (args.length : Int) = 1 := by rw [hlen (by omega) (by omega)]; unfold T.ar; rw [if_neg (by omega), if_neg (by omega), if_neg (by omega), if_pos (by omega)]
    have Q0 : Hid (∀ nn, Calls Tryz.prog 197 #[.int .i64 0, .pointer (some ⟨W.heap.size, 0, none⟩), .pointer (some ⟨W.heap.size + 1, 0, none⟩)] (W1.drewN nn) fun e w'' => e = .returned (.int .i64 (T.wd t ⟨op, w, fl, args, imm⟩ 0)) ∧ ∃ m, w'' = W1.drewN m) := HQ 0 (by omega)
    rw [typed_16 (.inr h)]
    try dsimp only at h ⊢
    obtain ⟨a0, h0⟩ : ∃ a0, a0 = T.wd t ⟨op, w, fl, args, imm⟩ 0 := ⟨_, rfl⟩
    rw [← h0] at Q0 ⊢
    clear HQ hr0 hr1 hT hA harg hlen hB1
    clear h0 hl1
    subst h
    go_enter Tryz.func158, Tryz.ntmps158
    go_wp2
    rw [← hW1]
    clear hW1
    go_quiet ((go_at_call 197; first | with_reducible exact Q0.out _ | fail))
    go_wp2
    go_ret
    exact ⟨rfl, HB1.out.dr ⟨_, rfl⟩⟩
  · have hl1 : (args.length : Int) = 1 := by rw [hlen (by omega) (by omega)]; unfold T.ar; rw [if_neg (by omega), if_neg (by omega), if_neg (by omega), if_pos (by omega)]
    have Q0 : Hid (∀ nn, Calls Tryz.prog 197 #[.int .i64 0, .pointer (some ⟨W.heap.size, 0, none⟩), .pointer (some ⟨W.heap.size + 1, 0, none⟩)] (W1.drewN nn) fun e w'' => e = .returned (.int .i64 (T.wd t ⟨op, w, fl, args, imm⟩ 0)) ∧ ∃ m, w'' = W1.drewN m) := HQ 0 (by omega)
    rw [typed_18 h]
    try dsimp only at h ⊢
    obtain ⟨a0, h0⟩ : ∃ a0, a0 = T.wd t ⟨op, w, fl, args, imm⟩ 0 := ⟨_, rfl⟩
    rw [← h0] at Q0 ⊢
    clear HQ hr0 hr1 hT hA harg hlen hB1
    clear h0 hl1
    subst h
    go_enter Tryz.func158, Tryz.ntmps158
    go_wp2
    rw [← hW1]
    clear hW1
    go_quiet ((go_at_call 197; first | with_reducible exact Q0.out _ | fail))
    go_wp2
    go_ret
    exact ⟨rfl, HB1.out.dr ⟨_, rfl⟩⟩
  · rw [typed_else h]
    obtain ⟨h1, h2, h3, h4, h5, h6⟩ := h
    have q14 : (op == 14) = false := by simpa using h2
    have q15 : (op == 15) = false := by simpa using h3
    have q16 : (op == 16) = false := by simpa using h4
    have q17 : (op == 17) = false := by simpa using h5
    have q18 : (op == 18) = false := by simpa using h6
    clear HQ hr0 hr1 hT hA harg hlen hB1 x0 x1
    by_cases hp : 1 ≤ op
    · have q1 : decide (1 ≤ op) = true := by simpa using hp
      have q2 : decide (op ≤ 13) = false := by simp; omega
      clear h1 h2 h3 h4 h5 h6 hp
      go_enter Tryz.func158, Tryz.ntmps158
      go_wp2
      go_ret
      exact ⟨rfl, by have := HB1.out; rwa [hW1] at this⟩
    · have q1 : decide (1 ≤ op) = false := by simpa using hp
      clear h1 h2 h3 h4 h5 h6 hp
      go_enter Tryz.func158, Tryz.ntmps158
      go_wp2
      go_ret
      exact ⟨rfl, by have := HB1.out; rwa [hW1] at this⟩
end Go.Proofs.YtbiopedpceddeaaGreatDoor
end
