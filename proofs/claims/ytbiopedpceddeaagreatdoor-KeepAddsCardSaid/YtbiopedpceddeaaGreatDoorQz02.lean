/- Part. -/
import Derived.Deep.Quiet
import Derived.Test.YtbiopedpceddeaaGreatDoorQz01
import Derived.BigGuardPart
set_option linter.unusedVariables false
set_option linter.unusedSimpArgs false
set_option maxRecDepth 100000
set_option maxHeartbeats 16000000
namespace Go.Proofs.YtbiopedpceddeaaGreatDoor
section
open Go.RowKit
namespace Rg
section
variable {P : Program} {ops : Array Oper} {md : Region.Mode} {C : World → Prop}
def dst (ops : Array Oper) (k : Nat) : Option Tmp := (ops[k]?).bind (·.dst)
def cp (ops : Array Oper) (vs : Nat → Value) (a : Act) (c : Nat → Bool) : Nat → Act
 | 0 => a
 | m + 1 => if c m then (cp ops vs a c m).put (dst ops m) (vs m) else cp ops vs a c m
theorem size_put (a : Act) (d : Option Tmp) (v : Value) : (a.put d v).tmps.size = a.tmps.size := by
 cases d <;> simp [Act.put]
theorem size_cp (vs : Nat → Value) (a : Act) (c : Nat → Bool) (m : Nat) : (cp ops vs a c m).tmps.size = a.tmps.size := by
 induction m with
 | zero => rfl
 | succ m ih =>
  simp only [cp]
  split
  · rw [size_put, ih]
  · exact ih
theorem eval_put_same (a : Act) (t : Tmp) (v : Value) : (a.put (some t) v).eval (.tmp t) = if t < a.tmps.size then v else undef := by
 simp only [Act.eval, Act.put, Array.getD_eq_getD_getElem?, Array.getElem?_setIfInBounds]
 by_cases h : t < a.tmps.size <;> simp [h]
theorem eval_other (a : Act) (d : Option Tmp) (t : Tmp) (v : Value) (h : d ≠ some t) : (a.put d v).eval (.tmp t) = a.eval (.tmp t) :=
 Act.eval_put fun e he hx => h (by rw [he]; injection hx with hx; rw [hx])
theorem eval_none (vs : Nat → Value) (a : Act) (c : Nat → Bool) (t : Tmp) (m : Nat) (h : ∀ k, k < m → dst ops k ≠ some t) : (cp ops vs a c m).eval (.tmp t) = a.eval (.tmp t) := by
 induction m with
 | zero => rfl
 | succ m ih =>
  simp only [cp]
  split
  · rw [eval_other _ _ _ _ (h m (by omega))]; exact ih fun k hk => h k (by omega)
  · exact ih fun k hk => h k (by omega)
theorem eval_hit (vs : Nat → Value) (a : Act) (c : Nat → Bool) (t : Tmp) (k : Nat) (hd : dst ops k = some t) (hc : c k = true) (m : Nat) (hk : k < m) (h : ∀ j, j < m → j ≠ k → dst ops j ≠ some t) :
 (cp ops vs a c m).eval (.tmp t) = if t < a.tmps.size then vs k else undef := by
 induction m with
 | zero => omega
 | succ m ih =>
  simp only [cp]
  by_cases e : k = m
  · subst e
    rw [if_pos hc, hd, eval_put_same, size_cp]
  · have hm := h m (by omega) (fun e' => e e'.symm)
    split
    · rw [eval_other _ _ _ _ hm]; exact ih (by omega) fun j hj => h j (by omega)
    · exact ih (by omega) fun j hj => h j (by omega)
theorem cp_congr (vs : Nat → Value) (a : Act) {c c' : Nat → Bool} (m : Nat) (h : ∀ k, k < m → c k = c' k) : cp ops vs a c m = cp ops vs a c' m := by
 induction m with
 | zero => rfl
 | succ m ih => simp only [cp, ih fun k hk => h k (by omega), h m (by omega)]
theorem cp_set (vs : Nat → Value) (a : Act) {c c' : Nat → Bool} (i : Nat) (m : Nat) (hi : i < m) (h0 : c i = false) (h1 : c' i = true) (h : ∀ k, k ≠ i → c' k = c k)
 (hd : ∀ k t, k < m → k ≠ i → dst ops k = some t → dst ops i ≠ some t) : cp ops vs a c' m = (cp ops vs a c m).put (dst ops i) (vs i) := by
 induction m with
 | zero => omega
 | succ m ih =>
  simp only [cp]
  by_cases e : i = m
  · subst e
    rw [if_pos h1, if_neg (by simp [h0]), cp_congr vs a i fun k hk => h k (by omega)]
  · rw [ih (by omega) fun k t hk => hd k t (by omega), h m (fun e' => e e'.symm)]
    split
    · exact (Act.put_comm _ _ _ fun t ht e' => hd m t (by omega) (fun e'' => e e''.symm) e' ht)
    · rfl
theorem same_of_evals {o : Oper} (hs : ∀ cs b, o.op ≠ .select cs b) {a b : Act} (h : ∀ t, t ∈ o.looksAt ops → a.eval (.tmp t) = b.eval (.tmp t)) :
 execOp a.eval o = execOp b.eval o ∧ Region.wanted o (yielded ops a.tmps) = Region.wanted o (yielded ops b.tmps) := by
 constructor
 · refine execOp_congr o hs fun x hx => ?_
   cases x with
   | tmp t => exact h t (List.mem_append_left _ (List.mem_filterMap.2 ⟨.tmp t, by simpa using hx, rfl⟩))
   | const v => rfl
   | global g => rfl
   | func f => rfl
 · unfold Region.wanted
   cases hg : o.guard with
   | none => rfl
   | some p =>
    obtain ⟨g, want⟩ := p
    simp only
    have : yielded ops a.tmps g = yielded ops b.tmps g := by
     unfold yielded
     cases hd : (ops[g]?).bind (·.dst) with
     | none => rfl
     | some d =>
      have := h d (List.mem_append_right _ (by simp [hg, hd]))
      simp only [Act.eval, Array.getD_eq_getD_getElem?] at this
      simp only [Option.bind_some]
      cases h1 : a.tmps[d]? with
      | none =>
       cases h2 : b.tmps[d]? with
       | none => rfl
       | some u => rw [h1, h2] at this; simp at this; subst this; rfl
      | some u =>
       cases h2 : b.tmps[d]? with
       | none => rw [h1, h2] at this; simp at this; subst this; rfl
       | some u' => rw [h1, h2] at this; simp at this; subst this; rfl
    rw [this]
theorem lex_values {Q : Act → Prop} : ∀ (l : List Oper) (k : Nat) (a : Act), (∀ j, j < l.length → l[j]? = ops[k + j]?) → wpQuiet P ops C Q l a →
 ∃ vs : Nat → Value, (∀ j, j < l.length → ∃ o b, ops[k + j]? = some o ∧ YieldsIn P ops C o (vs j) b ∧ b = (List.range j).foldl (fun a i => a.put (dst ops (k + i)) (vs i)) a) ∧
  Q ((List.range l.length).foldl (fun a i => a.put (dst ops (k + i)) (vs i)) a)
 | [], k, a, _, h => ⟨fun _ => undef, fun j hj => absurd hj (by simp), h⟩
 | o :: rest, k, a, hl, h => by
  have ho : ops[k]? = some o := by have := hl 0 (by simp); simpa using this.symm
  have h' : qOp P ops C k (wpQuiet P ops C Q rest) a := by
   unfold qOp
   simp only [ho]
   exact h
  obtain ⟨v, hy, hr⟩ := yieldsIn_of_qOp ho h'
  obtain ⟨vs, h1, h2⟩ := lex_values rest (k + 1) (a.put o.dst v) (fun j hj => by
   have := hl (j + 1) (by simp; omega)
   simpa [Nat.add_assoc, Nat.add_comm 1 j] using this) hr
  have hd : dst ops k = o.dst := by simp [dst, ho]
  have shift : ∀ m, (List.range (m + 1)).foldl (fun a i => a.put (dst ops (k + i)) ((fun j => if j = 0 then v else vs (j - 1)) i)) a = (List.range m).foldl (fun a i => a.put (dst ops (k + 1 + i)) (vs i)) (a.put o.dst v) := by
   intro m
   rw [List.range_succ_eq_map, List.foldl_cons, List.foldl_map]
   simp only [Nat.add_zero, hd, if_true]
   congr 1
   funext b i
   simp [Nat.add_assoc, Nat.add_comm 1 i]
  refine ⟨fun j => if j = 0 then v else vs (j - 1), fun j hj => ?_, ?_⟩
  · cases j with
    | zero => exact ⟨o, a, by simpa using ho, by simpa using hy, rfl⟩
    | succ j =>
     obtain ⟨o', b, g1, g2, g3⟩ := h1 j (by simp at hj; omega)
     refine ⟨o', b, by rw [← g1]; congr 1; omega, by simpa using g2, ?_⟩
     rw [g3]
     exact (shift j).symm
  · rw [List.length_cons]
    have := shift rest.length
    rw [this]
    exact h2
theorem fold_cp (vs : Nat → Value) (a : Act) (m : Nat) : (List.range m).foldl (fun a i => a.put (dst ops (0 + i)) (vs i)) a = cp ops vs a (fun _ => true) m := by
 induction m with
 | zero => rfl
 | succ m ih =>
  rw [List.range_succ, List.foldl_append, ih]
  simp [cp]
theorem dst_lt {k : Nat} {t : Tmp} (h : dst ops k = some t) : k < ops.size := by
 rcases Nat.lt_or_ge k ops.size with h' | h'
 · exact h'
 · simp [dst, Array.getElem?_eq_none h'] at h
theorem at_lt {i : Nat} {o : Oper} (h : ops[i]? = some o) : i < ops.size := (gA h).1
def unl (listed : Array Bool) : Nat → Nat
 | 0 => 0
 | m + 1 => unl listed m + if listed.getD m true then 0 else 1
theorem unl_same {listed listed' : Array Bool} (m : Nat) (h : ∀ k, k < m → listed'.getD k true = listed.getD k true) : unl listed' m = unl listed m := by
 induction m with
 | zero => rfl
 | succ m ih => simp only [unl, ih fun k hk => h k (by omega), h m (by omega)]
theorem unl_set {listed : Array Bool} {i : Nat} (h : listed.getD i true = false) (m : Nat) (hi : i < m) : unl (listed.setIfInBounds i true) m + 1 = unl listed m := by
 have his : i < listed.size := by
  rcases Nat.lt_or_ge i listed.size with h' | h'
  · exact h'
  · simp [Array.getElem?_eq_none h'] at h
 induction m with
 | zero => omega
 | succ m ih =>
  simp only [unl]
  by_cases e : i = m
  · subst e
    have e1 : unl (listed.setIfInBounds i true) i = unl listed i := unl_same i fun k hk => getD_set_ne true (by omega)
    rw [e1, h]
    simp [his]
  · have := ih (by omega)
    rw [getD_set_ne true e]
    omega
theorem unl_zero {listed : Array Bool} {m : Nat} (h : unl listed m = 0) : ∀ k, k < m → listed.getD k true = true := by
 induction m with
 | zero => intro k hk; omega
 | succ m ih =>
  simp only [unl] at h
  intro k hk
  by_cases e : k = m
  · subst e
    cases hl : listed.getD k true
    · simp [hl] at h
    · rfl
  · exact ih (by omega) k (by omega)
theorem two_getD {listed : Array Bool} {k : Nat} (hk : k < listed.size) (d d' : Bool) : listed.getD k d = listed.getD k d' := by simp [hk]
def onlyK (K : Act → World → Prop) : Exit → Act → World → Prop
 | .normal, a, w => K a w
 | _, _, _ => False
theorem no_out (K : Act → World → Prop) : ¬ LetsOut (onlyK K) := by
 rintro ⟨a, w, h⟩; exact h
end
theorem wpOp_out {P : Program} {ops : Array Oper} {Q : Exit → Act → World → Prop} {K K' : Act → World → Prop} {i : Nat} {a : Act} {w : World} (h : wpOp P ops (onlyK K') i K a w) : wpOp P ops Q i K a w := by
 unfold wpOp at h ⊢
 split
 · rename_i ho; simpa only [ho] using h
 · rename_i o ho
   simp only [ho] at h
   split
   · rename_i hw
     rw [if_pos hw] at h
     rcases h with h | ⟨_, h⟩
     · left
       unfold Oper.wp at h ⊢
       generalize (execOp a.eval o).run P w = r at h
       cases r with
       | ok nx w' =>
        cases nx <;> simp only [Oper.upon] at h ⊢
        case value u => exact h
        case skip => exact h
        case defer d => exact h
        case enter f args =>
         refine Calls.mono h fun e w'' he => ?_
         cases e with
         | returned u => exact he
         | panicked c => exact he.elim
         | outgrown => exact absurd he (no_out K')
        case row row args => exact h
       | halt x w' =>
        cases x <;> simp only [Oper.upon] at h ⊢
        case panic u => exact h.elim
     · exact absurd h (no_out K')
   · rename_i hw
     rw [if_neg hw] at h
     exact h
theorem wpAny_out {P : Program} {ops : Array Oper} {md : Region.Mode} {Q : Exit → Act → World → Prop} {K : Act → World → Prop} (hK : ∀ a w, K a w → Q .normal a w) : ∀ (fuel : Nat) (listed : Array Bool) (a : Act) (w : World), wpAny P md ops (onlyK K) fuel listed a w → wpAny P md ops Q fuel listed a w
 | 0, _, _, _, h => ⟨h.1, hK _ _ h.2⟩
 | fuel + 1, _, _, _, h => ⟨fun h0 => hK _ _ (h.1 h0), fun i hi => wpOp_mono (fun a' w' h' => wpAny_out hK fuel _ a' w' h') (wpOp_out (h.2 i hi))⟩
end Rg
end
section
open Go.RowKit
structure Ov (W : World) where
 f : World → World
 below : ∀ u, Below W.heap.size W (f u)
 eq : ∀ u, Below W.heap.size W u → f u = u
theorem ov_ex (W : World) : Nonempty (Ov W) := by
 have h : ∀ u : World, ∃ v : World, Below W.heap.size W v ∧ (Below W.heap.size W u → v = u) := fun u => by
  by_cases h : Below W.heap.size W u
  · exact ⟨u, h, fun _ => rfl⟩
  · exact ⟨W, Below.refl _ _, fun h' => absurd h' h⟩
 obtain ⟨f, hf⟩ := Classical.axiomOfChoice h
 exact ⟨⟨f, fun u => (hf u).1, fun u => (hf u).2⟩⟩
theorem cell_below {W : World} {b o : Nat} {v : Value} (h : W.cell? ⟨b, o, none⟩ = some v) : b < W.heap.size := by
 rcases Nat.lt_or_ge b W.heap.size with h' | h'
 · exact h'
 · simp [World.cell?, Array.getElem?_eq_none h'] at h
theorem Ov.cell {W : World} (ov : Ov W) {b o : Nat} {v : Value} (h : W.cell? ⟨b, o, none⟩ = some v) (u : World) : (ov.f u).cell? ⟨b, o, none⟩ = some v :=
 ((ov.below u).cell (p := ⟨b, o, none⟩) (cell_below h)).trans h
theorem calls_over {P : Program} {f : FuncId} {args : Array Value} {W u : World} {ov : Ov W} {v : Value} (h : Calls P f args (ov.f u) fun e w' => e = .returned v ∧ Below (ov.f u).heap.size (ov.f u) w') :
 Calls P f args (ov.f u) fun e w'' => e = .returned v ∧ ∃ m, w'' = ov.f m :=
 h.mono fun _ w'' ⟨he, hb⟩ => ⟨he, w'', (ov.eq _ ((ov.below u).trans (hb.mono (ov.below u).size))).symm⟩
theorem calls_over_same {P : Program} {f : FuncId} {args : Array Value} {W u : World} {ov : Ov W} {v : Value} (h : Calls P f args (ov.f u) fun e w' => e = .returned v ∧ ov.f u = w') :
 Calls P f args (ov.f u) fun e w'' => e = .returned v ∧ ∃ m, w'' = ov.f m :=
 h.mono fun _ w'' ⟨he, hb⟩ => ⟨he, u, hb.symm⟩
theorem wp_region_ovq {P : Program} {id : Nat} {Q : Exit → Act → World → Prop} {a : Act} {w : World} {l : List Oper} (ov : Ov w) (hm : P.follows .mixedOrders = true) (hB : Region.lexB .any l.toArray = true)
 (h : wpQuiet P l.toArray (fun w' => ∃ u, w' = ov.f u) (fun a' => ∀ w', (∃ u, w' = ov.f u) → Q .normal a' w') l a) : (Code.region id l.toArray true).wp P Q a w :=
 wp_region_quiet (C := fun w' => ∃ u, w' = ov.f u) hm hB ⟨w.drew, (ov.eq w.drew ⟨rfl, rfl, rfl, Nat.le_refl _, fun _ _ => rfl⟩).symm⟩ (by simpa using h)
end
section
open Go.RowKit
theorem typedClo_any (t : List T.Nd) (args : List Int) (i Bt Bx n m c ct : Nat) (At A : Option Addr) (W : World) (hT : StAt 5 NdR W At n t) (hA : SlAt (IntR .i64) W A m args) (hBt : W.cell? ⟨Bt, 0, none⟩ = some (.slice At n ct)) (hBx : W.cell? ⟨Bx, 3, none⟩ = some (.slice A m c))
 (hi : i < m) (ha : 0 ≤ args.getD i 0 ∧ args.getD i 0 < n) :
 Calls Tryz.prog 197 #[.int .i64 (i : Int), .pointer (some ⟨Bt, 0, none⟩), .pointer (some ⟨Bx, 0, none⟩)] W fun e w' => e = .returned (.int .i64 (t.getD (args.getD i 0).toNat default).w) ∧ Dr W w' := by
 obtain ⟨y, b, off, u, hy, rfl, hb, hc, rfl⟩ := hA.at_ hi
 rw [getD_of hy] at ha ⊢
 obtain ⟨j, rfl⟩ : ∃ j : Nat, y = j := ⟨y.toNat, by omega⟩
 obtain ⟨x, b2, off2, A2, c2, hx, rfl, _, _, hw, _⟩ := nd_cells hT (j := j) (by omega)
 rw [Int.toNat_natCast, getD_of hx]
 have hj : j < n := by omega
 have hle := hA.le
 have hle2 := hT.le
 clear hy hA hT hx hb ha
 go_enter Tryz.func197, Tryz.ntmps197
 go_wp2
 go_quiet (fail)
 go_wp2
 go_ret
 exact ⟨rfl, _, rfl⟩
theorem pisTyped_any (t : List T.Nd) (x : T.Nd) (n ct : Nat) (At A : Option Addr) (c : Nat) (W : World) (hT : StAt 5 NdR W At n t) (hA : SlAt (IntR .i64) W A x.args.length x.args) (hlen : 1 ≤ x.op → x.op ≤ 18 → (x.args.length : Int) = T.ar x.op) (harg : ∀ a ∈ x.args, 0 ≤ a ∧ a < (n : Int)) :
 Calls Tryz.prog 158 #[.slice At n ct, ndV x A c] W fun e w' => e = .returned (.bool (T.typed t x)) ∧ Below W.heap.size W w' := by
 obtain ⟨W1, hW1⟩ : ∃ W1, W1 = (W.alloc (.cells #[.slice At n ct] 22)).alloc (.cells #[.int .i64 x.op, .int .i64 x.w, .int .i64 x.fl, .slice A x.args.length c, .int .u32 x.imm] 62) := ⟨_, rfl⟩
 have hB1 : Below W.heap.size W W1 := by rw [hW1]; exact (al0).alloc (by simp) _
 have hr0 : W1.heap[W.heap.size]? = some (.cells #[.slice At n ct] 22 (0, 0)) := by rw [hW1]; exact row_alloc (heap_alloc_new W _) _
 have hr1 : W1.heap[W.heap.size + 1]? = some (.cells #[.int .i64 x.op, .int .i64 x.w, .int .i64 x.fl, .slice A x.args.length c, .int .u32 x.imm] 62 (0, 0)) := by rw [hW1]; exact new_two W _ _
 have HQ : ∀ i, i < x.args.length → Hid (∀ nn, Calls Tryz.prog 197 #[.int .i64 (i : Int), .pointer (some ⟨W.heap.size, 0, none⟩), .pointer (some ⟨W.heap.size + 1, 0, none⟩)] (W1.drewN nn) fun e w'' => e = .returned (.int .i64 (T.wd t x i)) ∧ ∃ m, w'' = W1.drewN m) := fun i hi => by
  intro nn
  have hb := hB1.dr ⟨nn, rfl⟩
  have ha := harg _ (List.getElem_mem hi)
  have hc := typedClo_any t x.args i W.heap.size (W.heap.size + 1) n x.args.length c ct At A (W1.drewN nn) (hT.below monoNd hb) (hA.below (monoInt _) hb) (by rw [cell_of_row (W1.drewN nn) _ _ _ _ (0, 0) hr0]; rfl) (by rw [cell_of_row (W1.drewN nn) _ _ _ _ (0, 0) hr1]; rfl) hi (by rw [List.getD_eq_getElem?_getD, List.getElem?_eq_getElem hi]; exact ha)
  exact Calls.quiet_of (hc.mono fun e w' ⟨h1, m, h2⟩ => ⟨h1, m, h2⟩)
 obtain ⟨op, w, fl, args, imm⟩ := x
 rw [show ndV ⟨op, w, fl, args, imm⟩ A c = .agg #[.int .i64 op, .int .i64 w, .int .i64 fl, .slice A args.length c, .int .u32 imm] from rfl]
 dsimp only at HQ hW1 hlen
 have HB1 := kH hB1
 have hle := hA.le
 dsimp only at hr1
 have x0 : W1.cell? ⟨W.heap.size + 1, 0, none⟩ = some (.int .i64 op) := by rw [cell_of_row _ _ _ _ _ (0, 0) hr1]; rfl
 have x1 : W1.cell? ⟨W.heap.size + 1, 1, none⟩ = some (.int .i64 w) := by rw [cell_of_row _ _ _ _ _ (0, 0) hr1]; rfl
 rcases typed_cases op with h | h | h | h | h | h | h
 · have hl2 : (args.length : Int) = 2 := by rw [hlen (by omega) (by omega)]; unfold T.ar; rw [if_neg (by omega), if_pos (by omega)]
   have Q0 : Hid (∀ nn, Calls Tryz.prog 197 #[.int .i64 0, .pointer (some ⟨W.heap.size, 0, none⟩), .pointer (some ⟨W.heap.size + 1, 0, none⟩)] (W1.drewN nn) fun e w'' => e = .returned (.int .i64 (T.wd t ⟨op, w, fl, args, imm⟩ 0)) ∧ ∃ m, w'' = W1.drewN m) := HQ 0 (by omega)
   have Q1 : Hid (∀ nn, Calls Tryz.prog 197 #[.int .i64 1, .pointer (some ⟨W.heap.size, 0, none⟩), .pointer (some ⟨W.heap.size + 1, 0, none⟩)] (W1.drewN nn) fun e w'' => e = .returned (.int .i64 (T.wd t ⟨op, w, fl, args, imm⟩ 1)) ∧ ∃ m, w'' = W1.drewN m) := HQ 1 (by omega)
   have q1 : decide (1 ≤ op) = true := by simpa using h.1
   have q2 : decide (op ≤ 13) = true := by simpa using h.2
   rw [typed_13 h]
   dsimp only
   obtain ⟨a0, h0⟩ : ∃ a0, a0 = T.wd t ⟨op, w, fl, args, imm⟩ 0 := ⟨_, rfl⟩
   obtain ⟨a1, h1⟩ : ∃ a1, a1 = T.wd t ⟨op, w, fl, args, imm⟩ 1 := ⟨_, rfl⟩
   rw [← h0] at Q0 ⊢
   rw [← h1] at Q1 ⊢
   clear HQ hr0 hr1 hT hA harg hlen hB1
   clear h0 h1 h hl2
   by_cases e0 : a0 = w
   · have z0 : (a0 == w) = true := by simpa using e0
     have hd : (decide (a0 = w) && decide (a1 = w)) = (a1 == w) := by rw [decide_eq_true e0, Bool.true_and]; by_cases h : a1 = w <;> simp [h]
     rw [hd]
     clear e0 hd
     go_enter Tryz.func158, Tryz.ntmps158
     go_wp2
     rw [← hW1]
     clear hW1
     go_quiet ((go_at_call 197; first | with_reducible exact Q0.out _ | with_reducible exact Q1.out _ | fail))
     go_wp2
     go_ret
     exact ⟨rfl, HB1.out.dr ⟨_, rfl⟩⟩
   · have z0 : (a0 == w) = false := by simpa using e0
     rw [decide_eq_false e0, Bool.false_and]
     clear e0
     go_enter Tryz.func158, Tryz.ntmps158
     go_wp2
     rw [← hW1]
     clear hW1
     go_quiet ((go_at_call 197; first | with_reducible exact Q0.out _ | with_reducible exact Q1.out _ | fail))
     go_wp2
     go_ret
     exact ⟨rfl, HB1.out.dr ⟨_, rfl⟩⟩
 · have hl2 : (args.length : Int) = 2 := by rw [hlen (by omega) (by omega)]; unfold T.ar; rw [if_neg (by omega), if_pos (by omega)]
   have Q0 : Hid (∀ nn, Calls Tryz.prog 197 #[.int .i64 0, .pointer (some ⟨W.heap.size, 0, none⟩), .pointer (some ⟨W.heap.size + 1, 0, none⟩)] (W1.drewN nn) fun e w'' => e = .returned (.int .i64 (T.wd t ⟨op, w, fl, args, imm⟩ 0)) ∧ ∃ m, w'' = W1.drewN m) := HQ 0 (by omega)
   have Q1 : Hid (∀ nn, Calls Tryz.prog 197 #[.int .i64 1, .pointer (some ⟨W.heap.size, 0, none⟩), .pointer (some ⟨W.heap.size + 1, 0, none⟩)] (W1.drewN nn) fun e w'' => e = .returned (.int .i64 (T.wd t ⟨op, w, fl, args, imm⟩ 1)) ∧ ∃ m, w'' = W1.drewN m) := HQ 1 (by omega)
   rw [typed_14 h]
   try dsimp only at h ⊢
   obtain ⟨a0, h0⟩ : ∃ a0, a0 = T.wd t ⟨op, w, fl, args, imm⟩ 0 := ⟨_, rfl⟩
   obtain ⟨a1, h1⟩ : ∃ a1, a1 = T.wd t ⟨op, w, fl, args, imm⟩ 1 := ⟨_, rfl⟩
   rw [← h0] at Q0 ⊢
   rw [← h1] at Q1 ⊢
   clear HQ hr0 hr1 hT hA harg hlen hB1
   clear h0 h1 hl2
   subst h
   have hd : decide (a0 = a1) = (a0 == a1) := by by_cases h : a0 = a1 <;> simp [h]
   rw [hd]
   clear hd
   go_enter Tryz.func158, Tryz.ntmps158
   go_wp2_with fail
   rw [← hW1]
   clear hW1
   refine Calls.mono (w := W1) (Q0.out 0) ?_
   rintro e w2 ⟨rfl, m0, rfl⟩
   go_wp2_with fail
   refine (Q1.out m0).mono ?_
   rintro e w3 ⟨rfl, m1, rfl⟩
   go_wp2
   go_ret
   exact ⟨rfl, HB1.out.dr ⟨_, rfl⟩⟩
 · have hl3 : (args.length : Int) = 3 := by rw [hlen (by omega) (by omega)]; unfold T.ar; rw [if_neg (by omega), if_neg (by omega), if_pos (by omega)]
   have Q0 : Hid (∀ nn, Calls Tryz.prog 197 #[.int .i64 0, .pointer (some ⟨W.heap.size, 0, none⟩), .pointer (some ⟨W.heap.size + 1, 0, none⟩)] (W1.drewN nn) fun e w'' => e = .returned (.int .i64 (T.wd t ⟨op, w, fl, args, imm⟩ 0)) ∧ ∃ m, w'' = W1.drewN m) := HQ 0 (by omega)
   have Q1 : Hid (∀ nn, Calls Tryz.prog 197 #[.int .i64 1, .pointer (some ⟨W.heap.size, 0, none⟩), .pointer (some ⟨W.heap.size + 1, 0, none⟩)] (W1.drewN nn) fun e w'' => e = .returned (.int .i64 (T.wd t ⟨op, w, fl, args, imm⟩ 1)) ∧ ∃ m, w'' = W1.drewN m) := HQ 1 (by omega)
   have Q2 : Hid (∀ nn, Calls Tryz.prog 197 #[.int .i64 2, .pointer (some ⟨W.heap.size, 0, none⟩), .pointer (some ⟨W.heap.size + 1, 0, none⟩)] (W1.drewN nn) fun e w'' => e = .returned (.int .i64 (T.wd t ⟨op, w, fl, args, imm⟩ 2)) ∧ ∃ m, w'' = W1.drewN m) := HQ 2 (by omega)
   rw [typed_15 h]
   try dsimp only at h ⊢
   obtain ⟨a0, h0⟩ : ∃ a0, a0 = T.wd t ⟨op, w, fl, args, imm⟩ 0 := ⟨_, rfl⟩
   obtain ⟨a1, h1⟩ : ∃ a1, a1 = T.wd t ⟨op, w, fl, args, imm⟩ 1 := ⟨_, rfl⟩
   obtain ⟨a2, h2⟩ : ∃ a2, a2 = T.wd t ⟨op, w, fl, args, imm⟩ 2 := ⟨_, rfl⟩
   rw [← h0] at Q0 ⊢
   rw [← h1] at Q1 ⊢
   rw [← h2] at Q2 ⊢
   clear HQ hr0 hr1 hT hA harg hlen hB1
   clear h0 h1 h2 hl3
   subst h
   by_cases e0 : a0 = 1
   · have z0 : (a0 == 1) = true := by simpa using e0
     by_cases e1 : a1 = w
     · have z1 : (a1 == w) = true := by simpa using e1
       have hd : (decide (a0 = 1) && decide (a1 = w) && decide (a2 = w)) = (a2 == w) := by rw [decide_eq_true e0, decide_eq_true e1, Bool.true_and, Bool.true_and]; by_cases h : a2 = w <;> simp [h]
       rw [hd]
       clear e0 e1 hd
       go_enter Tryz.func158, Tryz.ntmps158
       go_wp2
       rw [← hW1]
       clear hW1
       go_quiet ((go_at_call 197; first | with_reducible exact Q0.out _ | with_reducible exact Q1.out _ | with_reducible exact Q2.out _ | fail))
       go_wp2
       go_ret
       exact ⟨rfl, HB1.out.dr ⟨_, rfl⟩⟩
     · have z1 : (a1 == w) = false := by simpa using e1
       rw [decide_eq_false e1, Bool.and_false, Bool.false_and]
       clear e0 e1
       go_enter Tryz.func158, Tryz.ntmps158
       go_wp2
       rw [← hW1]
       clear hW1
       go_quiet ((go_at_call 197; first | with_reducible exact Q0.out _ | with_reducible exact Q1.out _ | with_reducible exact Q2.out _ | fail))
       go_wp2
       go_ret
       exact ⟨rfl, HB1.out.dr ⟨_, rfl⟩⟩
   · have z0 : (a0 == 1) = false := by simpa using e0
     rw [decide_eq_false e0, Bool.false_and, Bool.false_and]
     clear e0
     go_enter Tryz.func158, Tryz.ntmps158
     go_wp2
     rw [← hW1]
     clear hW1
     go_quiet ((go_at_call 197; first | with_reducible exact Q0.out _ | with_reducible exact Q1.out _ | with_reducible exact Q2.out _ | fail))
     go_wp2
     go_ret
     exact ⟨rfl, HB1.out.dr ⟨_, rfl⟩⟩
 · have hl1 : (args.length : Int) = 1 := by rw [hlen (by omega) (by omega)]; unfold T.ar; rw [if_neg (by omega), if_neg (by omega), if_neg (by omega), if_pos (by omega)]
   have Q0 : Hid (∀ nn, Calls Tryz.prog 197 #[.int .i64 0, .pointer (some ⟨W.heap.size, 0, none⟩), .pointer (some ⟨W.heap.size + 1, 0, none⟩)] (W1.drewN nn) fun e w'' => e = .returned (.int .i64 (T.wd t ⟨op, w, fl, args, imm⟩ 0)) ∧ ∃ m, w'' = W1.drewN m) := HQ 0 (by omega)
   rw [typed_16 (.inl h)]
   try dsimp only at h ⊢
   obtain ⟨a0, h0⟩ : ∃ a0, a0 = T.wd t ⟨op, w, fl, args, imm⟩ 0 := ⟨_, rfl⟩
   rw [← h0] at Q0 ⊢
   clear HQ hr0 hr1 hT hA harg hlen hB1
   clear h0 hl1
   subst h
   go_enter Tryz.func158, Tryz.ntmps158
   go_wp2
   rw [← hW1]
   clear hW1
   go_quiet ((go_at_call 197; first | with_reducible exact Q0.out _ | fail))
   go_wp2
   go_ret
   exact ⟨rfl, HB1.out.dr ⟨_, rfl⟩⟩
 · have hl1 : (args.length : Int) = 1 := by rw [hlen (by omega) (by omega)]; unfold T.ar; rw [if_neg (by omega), if_neg (by omega), if_neg (by omega), if_pos (by omega)]
   have Q0 : Hid (∀ nn, Calls Tryz.prog 197 #[.int .i64 0, .pointer (some ⟨W.heap.size, 0, none⟩), .pointer (some ⟨W.heap.size + 1, 0, none⟩)] (W1.drewN nn) fun e w'' => e = .returned (.int .i64 (T.wd t ⟨op, w, fl, args, imm⟩ 0)) ∧ ∃ m, w'' = W1.drewN m) := HQ 0 (by omega)
   rw [typed_16 (.inr h)]
   try dsimp only at h ⊢
   obtain ⟨a0, h0⟩ : ∃ a0, a0 = T.wd t ⟨op, w, fl, args, imm⟩ 0 := ⟨_, rfl⟩
   rw [← h0] at Q0 ⊢
   clear HQ hr0 hr1 hT hA harg hlen hB1
   clear h0 hl1
   subst h
   go_enter Tryz.func158, Tryz.ntmps158
   go_wp2
   rw [← hW1]
   clear hW1
   go_quiet ((go_at_call 197; first | with_reducible exact Q0.out _ | fail))
   go_wp2
   go_ret
   exact ⟨rfl, HB1.out.dr ⟨_, rfl⟩⟩
 · have hl1 : (args.length : Int) = 1 := by rw [hlen (by omega) (by omega)]; unfold T.ar; rw [if_neg (by omega), if_neg (by omega), if_neg (by omega), if_pos (by omega)]
   have Q0 : Hid (∀ nn, Calls Tryz.prog 197 #[.int .i64 0, .pointer (some ⟨W.heap.size, 0, none⟩), .pointer (some ⟨W.heap.size + 1, 0, none⟩)] (W1.drewN nn) fun e w'' => e = .returned (.int .i64 (T.wd t ⟨op, w, fl, args, imm⟩ 0)) ∧ ∃ m, w'' = W1.drewN m) := HQ 0 (by omega)
   rw [typed_18 h]
   try dsimp only at h ⊢
   obtain ⟨a0, h0⟩ : ∃ a0, a0 = T.wd t ⟨op, w, fl, args, imm⟩ 0 := ⟨_, rfl⟩
   rw [← h0] at Q0 ⊢
   clear HQ hr0 hr1 hT hA harg hlen hB1
   clear h0 hl1
   subst h
   go_enter Tryz.func158, Tryz.ntmps158
   go_wp2
   rw [← hW1]
   clear hW1
   go_quiet ((go_at_call 197; first | with_reducible exact Q0.out _ | fail))
   go_wp2
   go_ret
   exact ⟨rfl, HB1.out.dr ⟨_, rfl⟩⟩
 · rw [typed_else h]
   obtain ⟨h1, h2, h3, h4, h5, h6⟩ := h
   have q14 : (op == 14) = false := by simpa using h2
   have q15 : (op == 15) = false := by simpa using h3
   have q16 : (op == 16) = false := by simpa using h4
   have q17 : (op == 17) = false := by simpa using h5
   have q18 : (op == 18) = false := by simpa using h6
   clear HQ hr0 hr1 hT hA harg hlen hB1 x0 x1
   by_cases hp : 1 ≤ op
   · have q1 : decide (1 ≤ op) = true := by simpa using hp
     have q2 : decide (op ≤ 13) = false := by simp; omega
     clear h1 h2 h3 h4 h5 h6 hp
     go_enter Tryz.func158, Tryz.ntmps158
     go_wp2
     go_ret
     exact ⟨rfl, by have := HB1.out; rwa [hW1] at this⟩
   · have q1 : decide (1 ≤ op) = false := by simpa using hp
     clear h1 h2 h3 h4 h5 h6 hp
     go_enter Tryz.func158, Tryz.ntmps158
     go_wp2
     go_ret
     exact ⟨rfl, by have := HB1.out; rwa [hW1] at this⟩
end
section
open Go.RowKit
namespace R
def rar (op : Int) : Int := if op = 34 then 0 else if op = 35 then 1 else T.ar op
theorem rar_cases (op : Int) : (op = 0 ∧ rar op = 0) ∨ (op = 33 ∧ rar op = 0) ∨ (op = 34 ∧ rar op = 0) ∨ (1 ≤ op ∧ op ≤ 14 ∧ rar op = 2) ∨ (op = 15 ∧ rar op = 3) ∨ (16 ≤ op ∧ op ≤ 18 ∧ rar op = 1) ∨ (op = 35 ∧ rar op = 1) ∨
 (¬ op = 0 ∧ ¬ op = 33 ∧ ¬ op = 34 ∧ ¬ (1 ≤ op ∧ op ≤ 14) ∧ ¬ op = 15 ∧ ¬ (16 ≤ op ∧ op ≤ 18) ∧ ¬ op = 35 ∧ rar op = -1) := by
 by_cases h1 : op = 34
 · exact .inr (.inr (.inl ⟨h1, by unfold rar; rw [if_pos h1]⟩))
 by_cases h2 : op = 35
 · exact .inr (.inr (.inr (.inr (.inr (.inr (.inl ⟨h2, by unfold rar; rw [if_neg h1, if_pos h2]⟩))))))
 have e : rar op = T.ar op := by unfold rar; rw [if_neg h1, if_neg h2]
 rw [e]
 have := ar_cases op
 omega
def flm (op : Int) : Int := if op = 1 ∨ op = 2 ∨ op = 3 ∨ op = 11 then 3 else if op = 4 ∨ op = 6 ∨ op = 12 ∨ op = 13 then 4 else 0
end R
theorem garity_any (op : Int) (W : World) :
 Calls Tryz.prog 192 #[.int .i64 op] W fun e w' => e = .returned (.tuple #[.int .i64 (if 0 ≤ R.rar op then R.rar op else 0), .bool (decide (0 ≤ R.rar op))]) ∧ W = w' := by
 rcases R.rar_cases op with ⟨rfl, h⟩ | ⟨rfl, h⟩ | ⟨rfl, h⟩ | ⟨h1, h2, h⟩ | ⟨rfl, h⟩ | ⟨h1, h2, h⟩ | ⟨rfl, h⟩ | ⟨h1, h2, h3, h4, h5, h6, h7, h⟩
 all_goals
  rw [h]
  have H := kH h
  clear h
 case inr.inr.inr.inl =>
  have q1 : (op == 0) = false := by simp; omega
  have q2 : (op == 33) = false := by simp; omega
  have q3 : (op == 34) = false := by simp; omega
  go_enter Tryz.func192, Tryz.ntmps192
  go_wp2
  go_ret2
  exact ⟨ret_ib (by simp) (by simp), rfl⟩
 case inr.inr.inr.inr.inr.inl =>
  have q1 : (op == 0) = false := by simp; omega
  have q2 : (op == 33) = false := by simp; omega
  have q3 : (op == 34) = false := by simp; omega
  have q4 : (op == 15) = false := by simp; omega
  have q5 : decide (1 ≤ op) = true := by simp; omega
  have q6 : decide (op ≤ 14) = false := by simp; omega
  go_enter Tryz.func192, Tryz.ntmps192
  go_wp2
  go_ret2
  exact ⟨ret_ib (by simp) (by simp), rfl⟩
 case inr.inr.inr.inr.inr.inr.inr =>
  have q1 : (op == 0) = false := by simpa using h1
  have q2 : (op == 33) = false := by simpa using h2
  have q3 : (op == 34) = false := by simpa using h3
  have q4 : (op == 15) = false := by simpa using h5
  have q5 : (op == 35) = false := by simpa using h7
  have hc : (op < 1) ∨ (14 < op ∧ op < 16) ∨ 18 < op := by omega
  clear h1 h2 h3 h5 h7
  rcases hc with hc | hc | hc
  · have q6 : decide (1 ≤ op) = false := by simp; omega
    have q7 : decide (16 ≤ op) = false := by simp; omega
    clear h4 h6 hc
    go_enter Tryz.func192, Tryz.ntmps192
    go_wp2
    go_ret2
    exact ⟨ret_ib (by simp) (by simp), rfl⟩
  · exfalso; simp at q4; omega
  · have q6 : decide (1 ≤ op) = true := by simp; omega
    have q7 : decide (16 ≤ op) = true := by simp; omega
    have q8 : decide (op ≤ 14) = false := by simp; omega
    have q9 : decide (op ≤ 18) = false := by simp; omega
    clear h4 h6 hc
    go_enter Tryz.func192, Tryz.ntmps192
    go_wp2
    go_ret2
    exact ⟨ret_ib (by simp) (by simp), rfl⟩
 all_goals
  go_enter Tryz.func192, Tryz.ntmps192
  go_wp2
  go_ret2
  exact ⟨ret_ib (by simp) (by simp), rfl⟩
theorem ret_i {a b : Int} (h : a = b) : Ending.returned (.int .i64 a) = .returned (.int .i64 b) := by rw [h]
theorem gflags_any (op : Int) (W : World) : Calls Tryz.prog 193 #[.int .i64 op] W fun e w' => e = .returned (.int .i64 (R.flm op)) ∧ W = w' := by
 have hc : op = 1 ∨ op = 2 ∨ op = 3 ∨ op = 11 ∨ op = 4 ∨ op = 6 ∨ op = 12 ∨ op = 13 ∨ (op ≠ 1 ∧ op ≠ 2 ∧ op ≠ 3 ∧ op ≠ 11 ∧ op ≠ 4 ∧ op ≠ 6 ∧ op ≠ 12 ∧ op ≠ 13) := by omega
 rcases hc with rfl | rfl | rfl | rfl | rfl | rfl | rfl | rfl | ⟨h1, h2, h3, h4, h5, h6, h7, h8⟩
 case inr.inr.inr.inr.inr.inr.inr.inr =>
  have e : R.flm op = 0 := by unfold R.flm; rw [if_neg (by omega), if_neg (by omega)]
  rw [e]
  have q1 : (op == 1) = false := by simpa using h1
  have q2 : (op == 2) = false := by simpa using h2
  have q3 : (op == 3) = false := by simpa using h3
  have q4 : (op == 11) = false := by simpa using h4
  have q5 : (op == 4) = false := by simpa using h5
  have q6 : (op == 6) = false := by simpa using h6
  have q7 : (op == 12) = false := by simpa using h7
  have q8 : (op == 13) = false := by simpa using h8
  clear e h1 h2 h3 h4 h5 h6 h7 h8
  go_enter Tryz.func193, Tryz.ntmps193
  go_wp2
  go_ret
  exact ⟨rfl, rfl⟩
 all_goals
  go_enter Tryz.func193, Tryz.ntmps193
  go_wp2
  go_ret
  exact ⟨ret_i (by decide), rfl⟩
theorem builtClo_any (k : Nat) (g : Nat) (w : World) (hc : w.cell? ⟨g, 0, none⟩ = some (.int .i64 (k : Int))) :
 Answers 195 #[.pointer (some ⟨g, 0, none⟩)] (fun a => !(decide (0 ≤ a) && decide (a < k))) w := by
 refine ⟨enters_of Tryz.func195 (by kernel_rfl) rfl, fun x => ?_⟩
 dsimp only
 by_cases h0 : x < 0
 · have q0 : decide (x < 0) = true := by simpa using h0
   have e : (!(decide (0 ≤ x) && decide (x < k))) = true := by simp; omega
   rw [e]
   clear e h0
   simp only [List.append_toArray, List.nil_append, List.cons_append]
   go_enter Tryz.func195, Tryz.ntmps195
   go_wp2
   go_ret
   exact ⟨rfl, rfl⟩
 · have q0 : decide (x < 0) = false := by simpa using h0
   have e : (!(decide (0 ≤ x) && decide (x < k))) = decide ((k : Int) ≤ x) := by
    by_cases h : (k : Int) ≤ x <;> simp [h] <;> omega
   rw [e]
   clear e h0
   simp only [List.append_toArray, List.nil_append, List.cons_append]
   go_enter Tryz.func195, Tryz.ntmps195
   go_wp2
   go_ret
   exact ⟨rfl, rfl⟩
theorem gisWord_any (w n : Int) (W : World) (h0 : 0 ≤ n) : Calls Tryz.prog 45 #[.int .i64 w, .int .u32 n] W fun e w' => e = .returned (.bool (B.isW w n)) ∧ W = w' := by
 have HM := kH (fun W' => Mask_any w W')
 cases hw : B.isWd w
 · have e : B.isW w n = false := by unfold B.isW; rw [hw]; rfl
   rw [e]
   rw [hw] at HM
   clear e hw
   go_enter Tryz.func45, Tryz.ntmps45
   go_wp2_with (go_at_call 100; (with_reducible refine (HM.out _).mono ?_); rintro e w1 ⟨rfl, rfl⟩)
   go_ret
   exact ⟨rfl, rfl⟩
 · have e : B.isW w n = decide (n ≤ B.pw w - 1) := by unfold B.isW; rw [hw, Bool.true_and]; by_cases h : n < B.pw w <;> simp [h] <;> omega
   rw [e]
   rw [hw] at HM
   clear e hw
   go_enter Tryz.func45, Tryz.ntmps45
   go_wp2_with (go_at_call 100; (with_reducible refine (HM.out _).mono ?_); rintro e w1 ⟨rfl, rfl⟩)
   go_ret
   exact ⟨rfl, rfl⟩
end
section
open Go.RowKit
namespace R
theorem wrap_zero (n : Nat) (h : n < 2 ^ 64) : (IntKind.i64.wrap (n : Int) = 0) ↔ n = 0 := by
 unfold IntKind.wrap
 simp only [IntKind.signed, IntKind.bits]
 constructor
 · intro h'
   simp at h'
   split at h' <;> omega
 · rintro rfl; decide
theorem under (a m : BitVec 64) (h : a &&& ~~~m = 0) : a = a &&& m := by
 apply BitVec.eq_of_getLsbD_eq
 intro i hi
 have := congrArg (fun b => b.getLsbD i) h
 simp only [BitVec.getLsbD_and, BitVec.getLsbD_not, hi, decide_true, Bool.true_and] at this ⊢
 have h0 : (0 : BitVec 64).getLsbD i = false := by simp
 rw [h0] at this
 revert this
 generalize a.getLsbD i = p
 generalize m.getLsbD i = q
 cases p <;> cases q <;> simp
theorem small_of (fl : Int) (h0 : -9223372036854775808 ≤ fl) (h1 : fl ≤ 9223372036854775807) (c : Nat) (hc : c ≤ 100) (h : (BitVec.ofInt 64 fl).toNat = c) : fl = c := by
 rw [BitVec.toNat_ofInt] at h
 omega
theorem and_le3 (n : Nat) (h : n = n &&& 3) : n ≤ 3 := by
 have : n &&& 3 ≤ 3 := Nat.and_le_right
 omega
theorem and_4 (n : Nat) (h : n = n &&& 4) : n = 0 ∨ n = 4 := by
 have h1 : n &&& 4 ≤ 4 := Nat.and_le_right
 have h2 : n ≤ 4 := by omega
 rcases Nat.lt_or_ge n 4 with h3 | h3
 · have : n = 0 ∨ n = 1 ∨ n = 2 ∨ n = 3 := by omega
   rcases this with rfl | rfl | rfl | rfl
   · exact .inl rfl
   · exact absurd h (by decide)
   · exact absurd h (by decide)
   · exact absurd h (by decide)
 · exact .inr (by omega)
theorem flags_eq (op fl : Int) (h0 : -9223372036854775808 ≤ fl) (h1 : fl ≤ 9223372036854775807) : (bits .andNot .i64 fl (flm op) == 0) = flOk op fl := by
 have key : ∀ m : Int, (bits .andNot .i64 fl m == 0) = true → BitVec.ofInt 64 fl = BitVec.ofInt 64 fl &&& BitVec.ofInt 64 m := by
  intro m h
  refine under _ _ ?_
  unfold bits at h
  simp only [beq_iff_eq] at h
  have := (wrap_zero _ (BitVec.isLt _)).1 h
  exact BitVec.eq_of_toNat_eq this
 have sm : ∀ m : Int, BitVec.ofInt 64 fl = BitVec.ofInt 64 fl &&& BitVec.ofInt 64 m → (BitVec.ofInt 64 fl).toNat = (BitVec.ofInt 64 fl).toNat &&& (BitVec.ofInt 64 m).toNat := by
  intro m h
  have := congrArg BitVec.toNat h
  rwa [BitVec.toNat_and] at this
 unfold flm flOk
 rw [Bool.eq_iff_iff]
 split
 · constructor
   · intro h
     have e := sm _ (key _ h)
     have := and_le3 _ e
     have hs := small_of fl h0 h1 _ (by omega) rfl
     simp only [Bool.and_eq_true, decide_eq_true_eq]
     omega
   · intro h
     simp only [Bool.and_eq_true, decide_eq_true_eq] at h
     have : fl = 0 ∨ fl = 1 ∨ fl = 2 ∨ fl = 3 := by omega
     rcases this with rfl | rfl | rfl | rfl <;> decide
 · split
   · constructor
     · intro h
       have e := sm _ (key _ h)
       rcases and_4 _ e with e | e
       · have hs := small_of fl h0 h1 _ (by omega) e
         simp [hs]
       · have hs := small_of fl h0 h1 _ (by omega) e
         simp [hs]
     · intro h
       simp only [Bool.or_eq_true, decide_eq_true_eq] at h
       rcases h with rfl | rfl <;> decide
   · constructor
     · intro h
       have e := sm _ (key _ h)
       have h2 : (BitVec.ofInt 64 (0 : Int)).toNat = 0 := by decide
       rw [h2, Nat.and_zero] at e
       have hs := small_of fl h0 h1 _ (by omega) e
       simp [hs]
     · intro h
       simp only [decide_eq_true_eq] at h
       subst h
       decide
end R
end
section
open Go.RowKit
namespace R
def built (k : Nat) (x : T.Nd) : Bool := decide (0 ≤ rar x.op) && decide ((x.args.length : Int) = rar x.op) && flOk x.op x.fl && T.argsOk k x.args
theorem built_cases (k : Nat) (x : T.Nd) :
 (built k x = false ∧ decide (0 ≤ rar x.op) = false) ∨
 (built k x = false ∧ decide (0 ≤ rar x.op) = true ∧ 0 ≤ rar x.op ∧ ((x.args.length : Int) == rar x.op) = false) ∨
 (built k x = false ∧ decide (0 ≤ rar x.op) = true ∧ 0 ≤ rar x.op ∧ ((x.args.length : Int) == rar x.op) = true ∧ flOk x.op x.fl = false) ∨
 (built k x = T.argsOk k x.args ∧ decide (0 ≤ rar x.op) = true ∧ 0 ≤ rar x.op ∧ ((x.args.length : Int) == rar x.op) = true ∧ flOk x.op x.fl = true) := by
 unfold built
 by_cases h1 : 0 ≤ rar x.op
 · by_cases h2 : (x.args.length : Int) = rar x.op
   · cases h3 : flOk x.op x.fl
     · exact .inr (.inr (.inl ⟨by simp, by simpa using h1, h1, by simpa using h2, rfl⟩))
     · exact .inr (.inr (.inr ⟨by simp [h1, h2], by simpa using h1, h1, by simpa using h2, rfl⟩))
   · exact .inr (.inl ⟨by simp [h2], by simpa using h1, h1, by simpa using h2⟩)
 · exact .inl ⟨by simp [h1], by simpa using h1⟩
end R
theorem gisBuilt_any (k : Nat) (x : T.Nd) (A : Option Addr) (c : Nat) (W : World) (hA : SlAt (IntR .i64) W A x.args.length x.args) (hf : -9223372036854775808 ≤ x.fl ∧ x.fl ≤ 9223372036854775807) :
 Calls Tryz.prog 155 #[.int .i64 k, ndV x A c] W fun e w' => e = .returned (.bool (R.built k x)) ∧ Below W.heap.size W w' := by
 have HA := kH (fun W' => garity_any x.op W')
 have HF := kH (fun W' => gflags_any x.op W')
 have hfe := R.flags_eq x.op x.fl hf.1 hf.2
 have hc := R.built_cases k x
 have hle := hA.le
 obtain ⟨W2, hW2⟩ : ∃ W2, W2 = (W.alloc (.cells #[.int .i64 k] 3)).alloc (.cells #[.int .i64 x.op, .int .i64 x.w, .int .i64 x.fl, .slice A x.args.length c, .int .u32 x.imm] 62) := ⟨_, rfl⟩
 have hB2 : Below W.heap.size W W2 := by rw [hW2]; exact (al0).alloc (by simp) _
 have hr0 : W2.heap[W.heap.size]? = some (.cells #[.int .i64 k] 3 (0, 0)) := by rw [hW2]; exact row_alloc (heap_alloc_new W _) _
 have hr1 : W2.heap[W.heap.size + 1]? = some (.cells #[.int .i64 x.op, .int .i64 x.w, .int .i64 x.fl, .slice A x.args.length c, .int .u32 x.imm] 62 (0, 0)) := by rw [hW2]; exact new_two W _ _
 have d0 : W2.cell? ⟨W.heap.size, 0, none⟩ = some (.int .i64 k) := by rw [cell_of_row _ _ _ _ _ (0, 0) hr0]; rfl
 have x0 : W2.cell? ⟨W.heap.size + 1, 0, none⟩ = some (.int .i64 x.op) := by rw [cell_of_row _ _ _ _ _ (0, 0) hr1]; rfl
 have x2 : W2.cell? ⟨W.heap.size + 1, 2, none⟩ = some (.int .i64 x.fl) := by rw [cell_of_row _ _ _ _ _ (0, 0) hr1]; rfl
 have x3 : W2.cell? ⟨W.heap.size + 1, 3, none⟩ = some (.slice A x.args.length c) := by rw [cell_of_row _ _ _ _ _ (0, 0) hr1]; rfl
 have HQ := kH (fun nn => show Calls Tryz.prog 194 #[.slice A x.args.length c, .func (.func 195) #[] #[.pointer (some ⟨W.heap.size, 0, none⟩)]] (W2.drewN nn) (fun e w'' => e = .returned (.bool (!T.argsOk k x.args)) ∧ ∃ m, w'' = W2.drewN m) from
  Calls.quiet_of_same ((hasF_any _ _ _ A x.args.length c x.args (W2.drewN nn) ((hA.below (monoInt _) hB2).dr (monoInt _) ⟨nn, rfl⟩) (builtClo_any k W.heap.size (W2.drewN nn) d0)).mono fun e w' ⟨h1, h2⟩ => ⟨by rw [argsOk_any, Bool.not_not]; exact h1, h2.symm⟩))
 have HFq := kH (fun nn => show Calls Tryz.prog 193 #[.int .i64 x.op] (W2.drewN nn) (fun e w'' => e = .returned (.int .i64 (R.flm x.op)) ∧ ∃ m, w'' = W2.drewN m) from Calls.quiet_of_same ((HF.out _).mono fun e w' ⟨h1, h2⟩ => ⟨h1, h2.symm⟩))
 have HB2 := kH hB2
 obtain ⟨r, hr⟩ : ∃ r, r = R.rar x.op := ⟨_, rfl⟩
 obtain ⟨m, hm⟩ : ∃ m, m = R.flm x.op := ⟨_, rfl⟩
 obtain ⟨b, hb⟩ : ∃ b, b = R.built k x := ⟨_, rfl⟩
 rw [← hr] at HA hc
 rw [← hm] at HFq hfe
 rw [← hb] at hc ⊢
 generalize T.argsOk k x.args = ao at HQ hc
 generalize R.flOk x.op x.fl = fo at hfe hc
 unfold ndV
 obtain ⟨op, w, fl, args, imm⟩ := x
 dsimp only at *
 clear hA hr0 hr1 hB2 hf hr hm hb HF
 obtain ⟨r', hr'⟩ : ∃ r', r' = (if 0 ≤ r then r else 0) := ⟨_, rfl⟩
 rw [← hr'] at HA
 have Hr2 := kH (show 0 ≤ r → r' = r from fun h => by rw [hr', if_pos h])
 clear hr'
 rcases hc with ⟨rfl, q1⟩ | ⟨rfl, q1, q2, q3⟩ | ⟨rfl, q1, q2, q3, rfl⟩ | ⟨rfl, q1, q2, q3, rfl⟩
 all_goals
  first | (rw [← Hr2.out q2] at q3; clear q2) | skip
  rw [hW2] at d0 x0 x2 x3
  go_enter Tryz.func155, Tryz.ntmps155
  go_wp2_with (go_at_call 192; (with_reducible refine (HA.out _).mono ?_); rintro e w1 ⟨rfl, rfl⟩)
  rw [← hW2] at d0 x0 x2 x3 ⊢
  clear hW2
  go_quiet ((first | (go_at_call 193; with_reducible exact HFq.out _) | (go_at_call 194; with_reducible exact HQ.out _)))
  generalize hW3 : W2.drewN _ = W3
  have Hb3 := kH (HB2.out.dr ⟨_, hW3.symm⟩)
  clear hW3 d0 x0 x2 x3 HQ HFq
  go_wp2
  go_ret
  exact ⟨by first | rfl | simp, Hb3.out⟩
end
section
open Go.RowKit
def cdC (x : R.Cd) : List Value := [.int .i64 x.kind, .int .i64 x.hole, .int .u32 x.imm]
def cdV (x : R.Cd) : Value := .agg #[.int .i64 x.kind, .int .i64 x.hole, .int .u32 x.imm]
def CdR (_ : World) (us : List Value) (x : R.Cd) : Prop := us = cdC x ∧ 0 ≤ x.imm ∧ x.imm < 4294967296
theorem monoCd : MonoL CdR := fun _ _ _ _ _ h => h
theorem cd_cells {W : World} {A : Option Addr} {n : Nat} {l : List R.Cd} (h : StAt 3 CdR W A n l) {j : Nat} (hj : j < n) :
 ∃ x b off, l[j]? = some x ∧ A = some ⟨b, off, none⟩ ∧ b < W.heap.size ∧ W.cell? ⟨b, off + j * 3, none⟩ = some (.int .i64 x.kind) ∧ W.cell? ⟨b, off + j * 3 + 1, none⟩ = some (.int .i64 x.hole) ∧ W.cell? ⟨b, off + j * 3 + 2, none⟩ = some (.int .u32 x.imm) ∧ 0 ≤ x.imm ∧ x.imm < 4294967296 := by
 obtain ⟨x, b, off, us, hx, hA, hb, hl, hc, rfl, h0, h1⟩ := h.at_ hj
 exact ⟨x, b, off, hx, hA, hb, hc 0 _ rfl, hc 1 _ rfl, hc 2 _ rfl, h0, h1⟩
theorem idxNd_any (f : FuncId) (caps : Array Value) (p : T.Nd → Bool) (A : Option Addr) (m c : Nat) (xs : List T.Nd) (w : World) (hA : StAt 5 NdR w A m xs) (hen : ∀ args W', (callFunc f args).run Tryz.prog W' = .ok (.enter f args) W')
 (hf : ∀ X, Below w.heap.size w X → ∀ (j : Nat) (x : T.Nd) (A' : Option Addr) (c' : Nat), xs[j]? = some x → SlAt (IntR .i64) X A' x.args.length x.args → 0 ≤ x.imm → x.imm < 4294967296 → Calls Tryz.prog f (#[ndV x A' c'] ++ caps) X fun e w' => e = .returned (.bool (p x)) ∧ Below X.heap.size X w') :
 Calls Tryz.prog 196 #[.slice A m c, .func (.func f) #[] caps] w fun e w' => ∃ r : Int, e = .returned (.int .i64 r) ∧ decide (0 ≤ r) = xs.any p ∧ -1 ≤ r ∧ Below w.heap.size w w' := by
 have hl := hA.le
 have HA := kH hA; clear hA
 have HP := kH hf; clear hf
 go_enter Tryz.func196, Tryz.ntmps196
 go_wp2
 go_loopg [8] (m + 1) (fun g i wr => ∃ k : Nat, k ≤ m ∧ i = .int .i64 k ∧ g + k = m + 1 ∧ Hid ((xs.take k).any p = false) ∧ Hid (Below w.heap.size w wr))
 case atStart => exact ⟨0, Nat.zero_le _, rfl, rfl, kH rfl, kH (Below.refl _ _)⟩
 case round =>
  obtain ⟨k, hk, rfl, hgk, HT, HB⟩ := hrel
  have Hgk := kH hgk; clear hgk
  by_cases hlt : k < m
  · obtain ⟨x, b, off, A', c', hx, rfl, hb, h0, h1, h2, h3, h4, hs, i0, i1⟩ := nd_cells (HA.out.below monoNd HB.out) hlt
    have con := HP.out wr HB.out k x A' c' hx hs i0 i1
    have Hx := kH hx
    unfold ndV at con
    clear hx hs hb i0 i1
    cases hpx : p x
    · rw [hpx] at con
      have Hcon := kH con; clear con
      have Hpx := kH hpx; clear hpx
      go_wp2_with fail
      (with_reducible refine Hcon.out.mono ?_)
      rintro e w' ⟨rfl, hb'⟩
      have HB' := kH (HB.out.trans (hb'.mono HB.out.size))
      clear hb'
      go_wp2
      go_roundg (gk - 1)
      case measure => have := Hgk.out; omega
      case rel => have := Hgk.out; exact ⟨k + 1, by omega, by go_num, by omega, kH (any_take_step Hx.out HT.out Hpx.out), HB'⟩
    · rw [hpx] at con
      have Hcon := kH con; clear con
      have Hpx := kH hpx; clear hpx
      go_wp2_with fail
      (with_reducible refine Hcon.out.mono ?_)
      rintro e w' ⟨rfl, hb'⟩
      have HB' := kH (HB.out.trans (hb'.mono HB.out.size))
      clear hb'
      go_wp2
      go_ret
      exact ⟨_, rfl, by rw [any_true_at Hx.out Hpx.out]; simp, by omega, HB'.out⟩
  · go_wp2
    go_ret
    have h3 := HT.out
    rw [take_all HA.out.len (by omega)] at h3
    exact ⟨_, rfl, by rw [h3]; rfl, by omega, HB.out⟩
theorem hasNd_any (f : FuncId) (caps : Array Value) (p : T.Nd → Bool) (A : Option Addr) (m c : Nat) (xs : List T.Nd) (w : World) (hA : StAt 5 NdR w A m xs) (hen : ∀ args W', (callFunc f args).run Tryz.prog W' = .ok (.enter f args) W')
 (hf : ∀ X, Below w.heap.size w X → ∀ (j : Nat) (x : T.Nd) (A' : Option Addr) (c' : Nat), xs[j]? = some x → SlAt (IntR .i64) X A' x.args.length x.args → 0 ≤ x.imm → x.imm < 4294967296 → Calls Tryz.prog f (#[ndV x A' c'] ++ caps) X fun e w' => e = .returned (.bool (p x)) ∧ Below X.heap.size X w') :
 Calls Tryz.prog 156 #[.slice A m c, .func (.func f) #[] caps] w fun e w' => e = .returned (.bool (xs.any p)) ∧ Below w.heap.size w w' := by
 have Hcon := kH (idxNd_any f caps p A m c xs w hA hen hf); clear hA hf hen
 go_enter Tryz.func156, Tryz.ntmps156
 go_wp2_with fail
 (with_reducible refine Hcon.out.mono ?_)
 rintro e w' ⟨r, rfl, hr, hr1, hb⟩
 have Hr := kH hr
 have Hb := kH hb
 clear hr hb
 go_wp2
 go_ret
 exact ⟨ret_bool (by rw [← Hr.out]), Hb.out⟩
theorem idxCd_any (f : FuncId) (caps : Array Value) (p : R.Cd → Bool) (A : Option Addr) (m c : Nat) (xs : List R.Cd) (w : World) (hA : StAt 3 CdR w A m xs) (hen : ∀ args W', (callFunc f args).run Tryz.prog W' = .ok (.enter f args) W')
 (hf : ∀ X, Below w.heap.size w X → ∀ (j : Nat) (x : R.Cd), xs[j]? = some x → 0 ≤ x.imm → x.imm < 4294967296 → Calls Tryz.prog f (#[cdV x] ++ caps) X fun e w' => e = .returned (.bool (p x)) ∧ Below X.heap.size X w') :
 Calls Tryz.prog 166 #[.slice A m c, .func (.func f) #[] caps] w fun e w' => ∃ r : Int, e = .returned (.int .i64 r) ∧ decide (0 ≤ r) = xs.any p ∧ -1 ≤ r ∧ Below w.heap.size w w' := by
 have hl := hA.le
 have HA := kH hA; clear hA
 have HP := kH hf; clear hf
 go_enter Tryz.func166, Tryz.ntmps166
 go_wp2
 go_loopg [8] (m + 1) (fun g i wr => ∃ k : Nat, k ≤ m ∧ i = .int .i64 k ∧ g + k = m + 1 ∧ Hid ((xs.take k).any p = false) ∧ Hid (Below w.heap.size w wr))
 case atStart => exact ⟨0, Nat.zero_le _, rfl, rfl, kH rfl, kH (Below.refl _ _)⟩
 case round =>
  obtain ⟨k, hk, rfl, hgk, HT, HB⟩ := hrel
  have Hgk := kH hgk; clear hgk
  by_cases hlt : k < m
  · obtain ⟨x, b, off, hx, rfl, hb, h0, h1, h2, i0, i1⟩ := cd_cells (HA.out.below monoCd HB.out) hlt
    have con := HP.out wr HB.out k x hx i0 i1
    have Hx := kH hx
    unfold cdV at con
    clear hx hb i0 i1
    cases hpx : p x
    · rw [hpx] at con
      have Hcon := kH con; clear con
      have Hpx := kH hpx; clear hpx
      go_wp2_with fail
      (with_reducible refine Hcon.out.mono ?_)
      rintro e w' ⟨rfl, hb'⟩
      have HB' := kH (HB.out.trans (hb'.mono HB.out.size))
      clear hb'
      go_wp2
      go_roundg (gk - 1)
      case measure => have := Hgk.out; omega
      case rel => have := Hgk.out; exact ⟨k + 1, by omega, by go_num, by omega, kH (any_take_step Hx.out HT.out Hpx.out), HB'⟩
    · rw [hpx] at con
      have Hcon := kH con; clear con
      have Hpx := kH hpx; clear hpx
      go_wp2_with fail
      (with_reducible refine Hcon.out.mono ?_)
      rintro e w' ⟨rfl, hb'⟩
      have HB' := kH (HB.out.trans (hb'.mono HB.out.size))
      clear hb'
      go_wp2
      go_ret
      exact ⟨_, rfl, by rw [any_true_at Hx.out Hpx.out]; simp, by omega, HB'.out⟩
  · go_wp2
    go_ret
    have h3 := HT.out
    rw [take_all HA.out.len (by omega)] at h3
    exact ⟨_, rfl, by rw [h3]; rfl, by omega, HB.out⟩
theorem hasCd_any (f : FuncId) (caps : Array Value) (p : R.Cd → Bool) (A : Option Addr) (m c : Nat) (xs : List R.Cd) (w : World) (hA : StAt 3 CdR w A m xs) (hen : ∀ args W', (callFunc f args).run Tryz.prog W' = .ok (.enter f args) W')
 (hf : ∀ X, Below w.heap.size w X → ∀ (j : Nat) (x : R.Cd), xs[j]? = some x → 0 ≤ x.imm → x.imm < 4294967296 → Calls Tryz.prog f (#[cdV x] ++ caps) X fun e w' => e = .returned (.bool (p x)) ∧ Below X.heap.size X w') :
 Calls Tryz.prog 122 #[.slice A m c, .func (.func f) #[] caps] w fun e w' => e = .returned (.bool (xs.any p)) ∧ Below w.heap.size w w' := by
 have Hcon := kH (idxCd_any f caps p A m c xs w hA hen hf); clear hA hf hen
 go_enter Tryz.func122, Tryz.ntmps122
 go_wp2_with fail
 (with_reducible refine Hcon.out.mono ?_)
 rintro e w' ⟨r, rfl, hr, hr1, hb⟩
 have Hr := kH hr
 have Hb := kH hb
 clear hr hb
 go_wp2
 go_ret
 exact ⟨ret_bool (by rw [← Hr.out]), Hb.out⟩
theorem typedClo1_any (t : List T.Nd) (n ct g : Nat) (At : Option Addr) (x : T.Nd) (A : Option Addr) (c : Nat) (W : World) (hT : StAt 5 NdR W At n t) (hg : W.cell? ⟨g, 0, none⟩ = some (.slice At n ct)) (hA : SlAt (IntR .i64) W A x.args.length x.args) (hlen : 1 ≤ x.op → x.op ≤ 18 → (x.args.length : Int) = T.ar x.op) (harg : ∀ a ∈ x.args, 0 ≤ a ∧ a < (n : Int)) :
 Calls Tryz.prog 157 #[ndV x A c, .pointer (some ⟨g, 0, none⟩)] W fun e w' => e = .returned (.bool (!T.typed t x)) ∧ Below W.heap.size W w' := by
 have hb1 : Below W.heap.size W (W.alloc (.cells #[.int .i64 x.op, .int .i64 x.w, .int .i64 x.fl, .slice A x.args.length c, .int .u32 x.imm] 62)) := al0
 have HT := kH (pisTyped_any t x n ct At A c _ (hT.below monoNd hb1) (hA.below (monoInt _) hb1) hlen harg)
 have Hb1 := kH hb1
 have hg1 := (hb1.cell (p := ⟨g, 0, none⟩) (cell_below hg)).trans hg
 generalize T.typed t x = b at *
 clear hT hA hb1 hlen harg hg
 unfold ndV at *
 go_enter Tryz.func157, Tryz.ntmps157
 go_wp2_with fail
 (with_reducible refine HT.out.mono ?_)
 rintro e w2 ⟨rfl, hb2⟩
 have Hb2 := kH (Hb1.out.trans (hb2.mono Hb1.out.size))
 clear hb2
 go_wp2
 go_ret
 exact ⟨rfl, Hb2.out⟩
theorem all_any {α : Type} (p : α → Bool) (l : List α) : (!l.any fun x => !p x) = l.all p := by
 induction l with
 | nil => rfl
 | cons x l ih => rw [List.any_cons, List.all_cons, ← ih]; cases p x <;> simp
theorem gallTyped_any (t : List T.Nd) (n ct : Nat) (At : Option Addr) (W : World) (hT : StAt 5 NdR W At n t) (hlen : ∀ x ∈ t, 1 ≤ x.op → x.op ≤ 18 → (x.args.length : Int) = T.ar x.op) (harg : ∀ x ∈ t, ∀ a ∈ x.args, 0 ≤ a ∧ a < (n : Int)) :
 Calls Tryz.prog 99 #[.slice At n ct] W fun e w' => e = .returned (.bool (t.all (T.typed t))) ∧ Below W.heap.size W w' := by
 obtain ⟨W1, hW1⟩ : ∃ W1, W1 = W.alloc (.cells #[.slice At n ct] 22) := ⟨_, rfl⟩
 have hb1 : Below W.heap.size W W1 := by rw [hW1]; exact al0
 have hr1 : W1.heap[W.heap.size]? = some (.cells #[.slice At n ct] 22 (0, 0)) := by rw [hW1]; exact heap_alloc_new W _
 have H := kH (hasNd_any 157 #[.pointer (some ⟨W.heap.size, 0, none⟩)] (fun x => !T.typed t x) At n ct t W1 (hT.below monoNd hb1) (enters_of Tryz.func157 (by kernel_rfl) rfl) (fun X hX j x A' c' hx hs i0 i1 => by
  have hm := List.mem_of_getElem? hx
  have hc : X.cell? ⟨W.heap.size, 0, none⟩ = some (.slice At n ct) := by rw [cell_of_row _ _ _ _ _ (0, 0) (row_step (kH hX) hr1)]; rfl
  have := typedClo1_any t n ct W.heap.size At x A' c' X ((hT.below monoNd hb1).below monoNd hX) hc hs (hlen x hm) (harg x hm)
  simpa using this))
 have Hb1 := kH hb1
 have He := kH (all_any (T.typed t) t)
 generalize (t.any fun x => !T.typed t x) = b at H He
 generalize t.all (T.typed t) = r at He ⊢
 have hc1 : W1.cell? ⟨W.heap.size, 0, none⟩ = some (.slice At n ct) := by rw [cell_of_row _ _ _ _ _ (0, 0) hr1]; rfl
 clear hT hlen harg hb1 hr1
 go_enter Tryz.func99, Tryz.ntmps99
 rw [hW1] at hc1
 go_wp2_with fail
 rw [← hW1] at hc1 ⊢
 clear hW1
 (with_reducible refine H.out.mono ?_)
 rintro e w2 ⟨rfl, hb2⟩
 have Hb2 := kH (Hb1.out.trans (hb2.mono Hb1.out.size))
 clear hb2
 go_wp2
 go_ret
 exact ⟨by rw [← He.out]; rfl, Hb2.out⟩
end
section
open Go.RowKit
namespace R
def flr (t : List T.Nd) : Prop := ∀ y ∈ t, -9223372036854775808 ≤ y.fl ∧ y.fl ≤ 9223372036854775807
end R
end
end Go.Proofs.YtbiopedpceddeaaGreatDoor
