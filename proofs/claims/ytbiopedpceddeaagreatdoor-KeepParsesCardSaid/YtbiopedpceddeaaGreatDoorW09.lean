/- Merged: C4Fr2, C4No, C4V1, C4V2. -/
import Derived.Test.YtbiopedpceddeaaGreatDoorW07
import Derived.Test.YtbiopedpceddeaaGreatDoorW08
import Derived.Test.YtbiopedpceddeaaGreatDoorW02
import Derived.DeepKeys4
set_option linter.unusedVariables false
set_option linter.unusedSimpArgs false
section
namespace Go.Proofs.YtbiopedpceddeaaGreatDoor
open Go.RowKit

namespace Fr
open Rg
def alF (n m : Nat) (obj : Obj) (k : Nat) : Option Obj := if n ≤ k ∧ k < n + m then some obj else none

def frB (md : Region.Mode) (ops : Array Oper) (n m : Nat) : Bool :=
  decide (ops.size = n + m) && Region.noSelect ops &&
  ((List.range ops.size).all fun i => (List.range ops.size).all fun j => i == j || (dst ops i).isNone || dst ops i != dst ops j) &&
  ((List.range ops.size).all fun i => match ops[i]? with
    | none => true
    | some o => (o.after.all fun e => !Region.binds md e || decide (e.on < i)) &&
      ((o.looksAt ops).all fun t => (List.range ops.size).all fun k => dst ops k != some t || (decide (k < n) && o.after.any fun e => Region.binds md e && e.on == k)))

theorem fineF_of {md : Region.Mode} {ops : Array Oper} {n m : Nat} {obj : Obj} (h : frB md ops n m = true) : FineF md ops (alF n m obj) := by
  unfold frB at h
  simp only [Bool.and_eq_true] at h
  obtain ⟨⟨⟨_, h1⟩, h2⟩, h3⟩ := h
  rw [List.all_eq_true] at h2 h3
  refine ⟨Region.noSelect_spec h1, ?_, ?_, ?_⟩
  · intro i j t hi hj hne hd e
    have := h2 i (List.mem_range.2 hi)
    rw [List.all_eq_true] at this
    have := this j (List.mem_range.2 hj)
    simp [hne, hd, e] at this
  · intro i o t k ho ht hd
    have := h3 i (List.mem_range.2 (at_lt ho))
    simp only [ho, Bool.and_eq_true] at this
    have := this.2
    rw [List.all_eq_true] at this
    have := this t ht
    rw [List.all_eq_true] at this
    have := this k (List.mem_range.2 (dst_lt hd))
    simp only [hd, bne_self_eq_false, Bool.false_or, Bool.and_eq_true, decide_eq_true_eq] at this
    obtain ⟨hk, this⟩ := this
    rw [Array.any_eq_true'] at this
    obtain ⟨e, he, hb⟩ := this
    simp at hb
    exact ⟨by unfold alF; rw [if_neg (by omega)], e, he, hb.1, hb.2⟩
  · intro i o e ho he hb
    have := h3 i (List.mem_range.2 (at_lt ho))
    simp only [ho, Bool.and_eq_true] at this
    have := this.1
    rw [Array.all_eq_true'] at this
    have := this e he
    simpa [hb] using this
theorem size_frB {md : Region.Mode} {ops : Array Oper} {n m : Nat} (h : frB md ops n m = true) : ops.size = n + m := by
  unfold frB at h
  simp only [Bool.and_eq_true, decide_eq_true_eq] at h
  exact h.1.1.1

/-- the slots of the first n operations are there -/
def slotsB (ops : Array Oper) (n sz : Nat) : Bool := (List.range n).all fun i => match dst ops i with | some t => decide (t < sz) | none => false

theorem any_fr {P : Program} {md : Region.Mode} {ops : Array Oper} {a af : Act} {W : World} {K : Act → World → Prop} (n m : Nat) (obj : Obj) (hB : frB md ops n m = true) (hS : slotsB ops n a.tmps.size = true)
    (ha : ∀ i, n ≤ i → i < n + m → ∃ o, ops[i]? = some o ∧ o.guard = none ∧ ∀ ρ w, (execOp ρ o).run P w = .ok (.value (.pointer (some ⟨w.heap.size, 0, none⟩))) (w.alloc obj))
    (hq : ∀ X, Below W.heap.size W X → ∀ ov : Ov X, wpQuiet P ops (fun w' => ∃ u, w' = ov.f u) (fun a' => a' = af) (ops.toList.take n) a)
    (hK : ∀ (g : Nat → Nat) w, Below W.heap.size W w → (∀ k, n ≤ k → k < n + m → W.heap.size ≤ g k ∧ w.heap[g k]? = some obj) → (∀ k k', n ≤ k → k < n + m → n ≤ k' → k' < n + m → k ≠ k' → g k ≠ g k') →
      K ((List.range m).foldl (fun a' j => a'.put (dst ops (n + j)) (.pointer (some ⟨g (n + j), 0, none⟩))) af) w) :
    wpAny P md ops (onlyK K) ops.size (Array.replicate ops.size false) a W.drew := by
  have hf := fineF_of (obj := obj) hB
  have hsz := size_frB hB
  have hvals : ∀ X, Below W.heap.size W X → ∃ vs : Nat → Value, (∀ j, j < n → ∃ o, ops[j]? = some o ∧ YieldsIn P ops (fun Y => Below X.heap.size X Y) o (vs j) (cp ops vs a (fun _ => true) j)) ∧ cp ops vs a (fun _ => true) n = af := by
    intro X hX
    obtain ⟨ov⟩ := ov_ex X
    obtain ⟨vs, h1, h2⟩ := lex_values (ops := ops) (ops.toList.take n) 0 a (fun j hj => by
      have : j < n := by simp at hj; omega
      simp [List.getElem?_take, this]) (hq X hX ov)
    have hlen : (ops.toList.take n).length = n := by simp; omega
    rw [hlen] at h1 h2
    rw [fold_cp] at h2
    refine ⟨vs, fun j hj => ?_, h2⟩
    obtain ⟨o, b, g1, g2, g3⟩ := h1 j hj
    rw [fold_cp] at g3
    rw [g3] at g2
    have hC : (fun w' => ∃ u, w' = ov.f u) = (fun Y => Below X.heap.size X Y) := by
      funext Y
      exact propext ⟨fun ⟨u, hu⟩ => hu ▸ ov.below u, fun h => ⟨Y, (ov.eq Y h).symm⟩⟩
    rw [hC] at g2
    exact ⟨o, by simpa using g1, g2⟩
  -- the values hang on the frame alone
  have hone : ∀ vs : Nat → Value, cp ops vs a (fun _ => true) n = af → ∀ j, j < n → vs j = (match dst ops j with | some t => af.eval (.tmp t) | none => undef) := by
    intro vs he j hj
    have hs := List.all_eq_true.1 hS j (List.mem_range.2 hj)
    cases hd : dst ops j with
    | none => rw [hd] at hs; cases hs
    | some t =>
      rw [hd] at hs
      have ht : t < a.tmps.size := by simpa using hs
      have := eval_hit (ops := ops) vs a (fun _ => true) t j hd rfl n hj (fun i hi hij => hf.apart j i t (by omega) (by omega) (fun e => hij e.symm) hd)
      rw [he, if_pos ht] at this
      exact this.symm
  obtain ⟨vs, h1, h2⟩ := hvals W (Below.refl _ _)
  have hcn : ∀ (vs' : Nat → Value) (c : Nat → Bool) (i : Nat), (∀ k, k < i → c k = true) → (∀ k, k < i → vs' k = vs k) → cp ops vs' a c i = cp ops vs a (fun _ => true) i := by
    intro vs' c i hc hv
    rw [cp_congr (ops := ops) vs' a (c' := fun _ => true) i hc]
    exact cp_vals a _ _ fun k hk _ => hv k hk
  refine any_free (al := alF n m obj) hf (W := W) (vs := vs) (a := a) ?_ ?_ ?_ _ _ (fun _ => 0) _ _ ?_ ?_
  · intro i hi hal
    have hin : i < n := by
      unfold alF at hal
      by_cases h : n ≤ i ∧ i < n + m
      · rw [if_pos h] at hal; cases hal
      · omega
    obtain ⟨o, ho, _⟩ := h1 i hin
    refine ⟨o, ho, fun X hX => ?_⟩
    obtain ⟨vs', g1, g2⟩ := hvals X hX
    obtain ⟨o', ho', hy⟩ := g1 i hin
    rw [ho] at ho'
    cases ho'
    have hv : ∀ k, k < n → vs' k = vs k := fun k hk => (hone vs' g2 k hk).trans (hone vs h2 k hk).symm
    rw [hv i hin, hcn vs' (fun _ => true) i (fun _ _ => rfl) (fun k hk => hv k (by omega))] at hy
    rw [hcn vs (fun k => (alF n m obj k).isNone) i (fun k hk => by unfold alF; rw [if_neg (by omega)]; rfl) (fun _ _ => rfl)]
    exact hy
  · intro i ob hal
    unfold alF at hal
    by_cases h : n ≤ i ∧ i < n + m
    · rw [if_pos h] at hal
      cases hal
      exact ha i h.1 h.2
    · rw [if_neg h] at hal; cases hal
  · intro g w hb hrow hne
    have hal : ∀ k, n ≤ k → k < n + m → alF n m obj k = some obj := fun k h1 h2 => by unfold alF; rw [if_pos ⟨h1, h2⟩]
    have h3 := hK g w hb (fun k hk hk2 => hrow k obj (hal k hk hk2) (by omega)) (fun k k' hk hk2 hk' hk2' hkk => hne k k' (by omega) (by omega) (by rw [hal k hk hk2]; rfl) (by rw [hal k' hk' hk2']; rfl) hkk)
    have hfold : ∀ q, q ≤ m → cp ops (vg (alF n m obj) vs g) a (fun _ => true) (n + q) = (List.range q).foldl (fun a' j => a'.put (dst ops (n + j)) (.pointer (some ⟨g (n + j), 0, none⟩))) af := by
      intro q
      induction q with
      | zero =>
        intro _
        rw [← h2]
        exact cp_vals a _ _ fun k hk _ => by
          have hk' : k < n := hk
          have hno : alF n m obj k = none := by unfold alF; rw [if_neg (by omega)]
          unfold vg
          rw [hno]
          rfl
      | succ q ih =>
        intro hqm
        rw [List.range_succ, List.foldl_append, ← ih (by omega)]
        show (if true then _ else _) = _
        rw [if_pos rfl]
        simp only [List.foldl_cons, List.foldl_nil]
        congr 1
        unfold vg
        show (if (alF n m obj (n + q)).isSome = true then Value.pointer (some ⟨g (n + q), 0, none⟩) else vs (n + q)) = _
        rw [hal (n + q) (by omega) (by omega)]
        rfl
    rw [hsz, hfold m (Nat.le_refl _)]
    exact h3
  · have : ∀ k, k ≤ ops.size → unl (Array.replicate ops.size false) k ≤ k := by
      intro k
      induction k with
      | zero => intro _; exact Nat.le_refl _
      | succ k ih => intro hm; have := ih (by omega); simp only [unl]; split <;> omega
    exact this _ (Nat.le_refl _)
  · have hz : ∀ k, (Array.replicate ops.size false).getD k false = false := fun k => by simp [Array.getElem?_replicate]; split <;> simp
    refine ⟨by simp, ?_, (Below.refl _ _).drew, fun k ob _ hl => (by rw [hz] at hl; cases hl), fun k k' _ _ hl => (by rw [hz] at hl; cases hl)⟩
    have : ∀ k, cp ops (vg (alF n m obj) vs fun _ => 0) a (fun k => (Array.replicate ops.size false).getD k false) k = a := by
      intro k
      induction k with
      | zero => rfl
      | succ k ih => simp only [cp, ih]; rw [hz]; simp
    exact (this _).symm
end Fr

/-- A drawn region: n operations that read and call (one walk over whatever world), m allocs that wait for nothing, a tail in sequence. -/
theorem wp_region_fr {P : Program} {id : Nat} {Q : Exit → Act → World → Prop} {a : Act} {W : World} {l : List Oper} (n m : Nat) (obj : Obj) (af : Act) (hm : P.follows .mixedOrders = true) (hsp : splitB l (n + m) = true)
    (hB : Fr.frB .any (l.take (n + m)).toArray n m = true) (hS : Fr.slotsB (l.take (n + m)).toArray n a.tmps.size = true)
    (ha : ∀ i, n ≤ i → i < n + m → ∃ o, (l.take (n + m)).toArray[i]? = some o ∧ o.guard = none ∧ ∀ ρ w, (execOp ρ o).run P w = .ok (.value (.pointer (some ⟨w.heap.size, 0, none⟩))) (w.alloc obj))
    (hq : ∀ X, Below W.heap.size W X → ∀ ov : Ov X, wpQuiet P (l.take (n + m)).toArray (fun w' => ∃ u, w' = ov.f u) (fun a' => a' = af) (l.take n) a)
    (hK : ∀ (g : Nat → Nat) w, Below W.heap.size W w → (∀ k, n ≤ k → k < n + m → W.heap.size ≤ g k ∧ w.heap[g k]? = some obj) → (∀ k k', n ≤ k → k < n + m → n ≤ k' → k' < n + m → k ≠ k' → g k ≠ g k') →
      wpList P l.toArray Q (l.drop (n + m)) ((List.range m).foldl (fun a' j => a'.put (Rg.dst (l.take (n + m)).toArray (n + j)) (.pointer (some ⟨g (n + j), 0, none⟩))) af) w) :
    (Code.region id l.toArray true).wp P Q a W := by
  refine wp_region_split (n + m) hm hsp ?_
  have hsz := Fr.size_frB hB
  have h := Fr.any_fr (P := P) (md := .any) (K := fun a w => wpList P l.toArray Q (l.drop (n + m)) a w) n m obj hB hS ha (fun X hX ov => by
    have e : ((l.take (n + m)).toArray.toList.take n) = l.take n := by
      rw [List.take_take]
      congr 1
      omega
    rw [e]
    exact hq X hX ov) hK
  rw [hsz] at h
  exact Rg.wpAny_out (fun _ _ h => h) _ _ _ _ h
end Go.Proofs.YtbiopedpceddeaaGreatDoor
end
section
namespace Go.Proofs.YtbiopedpceddeaaGreatDoor
open Go.RowKit
set_option linter.unusedVariables false
set_option linter.unusedSimpArgs false

section

end

section

end

theorem infoNode : (Tryz.prog.info? 62).map (fun i => (i.zero, i.size, i.bytes)) = some (some (.agg #[.int .i64 0, .int .i64 0, .int .i64 0, .slice none 0 0, .int .u32 0]), 5, 56) := by kernel_rfl

theorem ndC_len (x : T.Nd) (A : Option Addr) (c : Nat) : (ndC x A c).length = 5 := rfl
theorem ndC_one (x : T.Nd) (A : Option Addr) (c : Nat) : ∀ u ∈ ndC x A c, u.oneCell' = true := by
  intro u hu
  simp [ndC] at hu
  rcases hu with rfl | rfl | rfl | rfl | rfl <;> rfl

theorem src_new (w : World) (us : List Value) (T : TypeId) : ∀ j u, us[j]? = some u → ∃ ad : Addr, (some (⟨w.heap.size, 0, none⟩ : Addr)) = some ad ∧ (w.alloc (.cells us.toArray T)).cell? (ad.add j) = some u := by
  intro j u hu
  refine ⟨_, rfl, ?_⟩
  unfold Addr.add
  split
  · rename_i e
    subst e
    rw [cell_of_row _ _ _ _ _ (0, 0) (heap_alloc_new w _)]
    simpa using hu
  · simp only [Nat.zero_add]
    rw [cell_of_row _ _ _ _ _ (0, 0) (heap_alloc_new w _)]
    simpa using hu

end Go.Proofs.YtbiopedpceddeaaGreatDoor
end
section
namespace Go.Proofs.YtbiopedpceddeaaGreatDoor
open Go.RowKit Go.MapKept Go.Maps Go.WideMaps
set_option linter.unusedVariables false
set_option linter.unusedSimpArgs false

/-- what lies outside M stays -/
structure Kpm (M : Nat → Prop) (w w' : World) : Prop where
  os : w'.os = w.os
  tape : w'.tape = w.tape
  output : w'.output = w.output
  size : w.heap.size ≤ w'.heap.size
  block : ∀ k, k < w.heap.size → ¬ M k → w'.heap[k]? = w.heap[k]?

section
variable {M N : Nat → Prop} {a b c w w' : World} {B : Nat}

theorem Kpm.refl (M : Nat → Prop) (w : World) : Kpm M w w := ⟨rfl, rfl, rfl, Nat.le_refl _, fun _ _ _ => rfl⟩
theorem Kpm.trans (h : Kpm M a b) (k : Kpm N b c) (hN : ∀ i, i < a.heap.size → N i → M i) : Kpm M a c :=
  ⟨k.os.trans h.os, k.tape.trans h.tape, k.output.trans h.output, Nat.le_trans h.size k.size, fun i hi hm => (k.block i (Nat.lt_of_lt_of_le hi h.size) (fun hn => hm (hN i hi hn))).trans (h.block i hi hm)⟩
theorem Kpm.weak (h : Kpm M a b) (hi : ∀ i, i < a.heap.size → M i → N i) : Kpm N a b :=
  ⟨h.os, h.tape, h.output, h.size, fun i hl hn => h.block i hl fun hm => hn (hi i hl hm)⟩
theorem Kpm.below (h : Kpm M a b) (hB : B ≤ a.heap.size) (hM : ∀ i, M i → B ≤ i) : Below B a b :=
  ⟨h.os, h.tape, h.output, h.size, fun i hi => h.block i (by omega) fun hm => by have := hM i hm; omega⟩
theorem Kpm.of_below (h : Below a.heap.size a b) (M : Nat → Prop) : Kpm M a b :=
  ⟨h.os, h.tape, h.output, h.size, fun i hi _ => h.block i hi⟩
theorem Kpm.grown {row : Option Nat} (h : a.grownBy b row) (hr : ∀ g, row = some g → M g) : Kpm M a b :=
  ⟨h.os, h.tape, h.output, h.size, fun i hi hm => h.block i hi fun e => hm (hr i e.symm)⟩
theorem Kpm.drew (h : Kpm M a b) : Kpm M a b.drew := ⟨h.os, h.tape, h.output, h.size, h.block⟩
theorem Kpm.alloc (h : Kpm M a b) (o : Obj) : Kpm M a (b.alloc o) :=
  h.trans (Kpm.of_below ((Below.refl _ _).alloc (Nat.le_refl _) o) (fun _ => False)) (fun _ _ h => h.elim)
theorem Kpm.setCell (h : Kpm M a b) {p : Addr} (hp : p.block < a.heap.size → M p.block) (u : Value) : Kpm M a (b.setCell p u) :=
  ⟨h.os, h.tape, h.output, by simpa using h.size, fun i hi hm => (Below.heap_setCell b p u i (fun e => hm (by rw [e]; exact hp (by rw [← e]; exact hi)))).trans (h.block i hi hm)⟩

theorem SlAt.kpm {q : IntKind} {A : Option Addr} {n : Nat} {xs : List Int} (h : SlAt (IntR q) w A n xs) (k : Kpm M w w') (hA : xs ≠ [] → ∀ b off, A = some ⟨b, off, none⟩ → ¬ M b) : SlAt (IntR q) w' A n xs := by
  refine ⟨h.1, h.2.1, fun j x hx => ?_⟩
  obtain ⟨b, off, u, e, hlt, hc, hr⟩ := h.2.2 j x hx
  have hn : xs ≠ [] := fun e => by rw [e] at hx; simp at hx
  have hb := k.block b hlt (hA hn b off e)
  refine ⟨b, off, u, e, Nat.lt_of_lt_of_le hlt k.size, ?_, hr⟩
  unfold World.cell? at hc ⊢
  rw [hb]
  exact hc
end

/-- a key of nodes -/
structure Ky where
  op : Int
  w : Int
  fl : Int
  imm : Int
  a0 : Int
  a1 : Int
  a2 : Int
deriving DecidableEq
def kyV (k : Ky) : Value := .agg #[.int .i64 k.op, .int .i64 k.w, .int .i64 k.fl, .int .u32 k.imm, .int .i64 k.a0, .int .i64 k.a1, .int .i64 k.a2]
theorem kyV_inj : ∀ a b, kyV a = kyV b → a = b := by
  rintro ⟨⟩ ⟨⟩ h
  simp [kyV] at h
  simpa using h
def I64 (n : Int) : Prop := -9223372036854775808 ≤ n ∧ n ≤ 9223372036854775807
def Ky.Wf (k : Ky) : Prop := I64 k.op ∧ I64 k.w ∧ I64 k.fl ∧ (0 ≤ k.imm ∧ k.imm < 4294967296) ∧ I64 k.a0 ∧ I64 k.a1 ∧ I64 k.a2
theorem lit_i64 {n : Int} (h : I64 n) : (Lit.int .i64 n).wf = true := by
  have e1 : IntKind.i64.min = -9223372036854775808 := by decide
  have e2 : IntKind.i64.max = 9223372036854775807 := by decide
  unfold Lit.wf
  rw [Bool.and_eq_true, decide_eq_true_eq, decide_eq_true_eq, e1, e2]
  exact h
theorem lit_u32 {n : Int} (h : 0 ≤ n ∧ n < 4294967296) : (Lit.int .u32 n).wf = true := by
  have e1 : IntKind.u32.min = 0 := by decide
  have e2 : IntKind.u32.max = 4294967295 := by decide
  unfold Lit.wf
  rw [Bool.and_eq_true, decide_eq_true_eq, decide_eq_true_eq, e1, e2]
  omega

theorem keyKeyed : Keyed Tryz.prog 213 := Keyed.of_law (deep_law_laid (by kernel_rfl) (m := 3) (by omega) (of_decide_eq_true (by kernel_rfl)) (by kernel_rfl) (by kernel_rfl))
theorem intKeyed : Keyed Tryz.prog 3 := int_keyed Tryz.underlying3

theorem keyLits_int {P : Program} {t : TypeId} {q : IntKind} (h : P.underlying t = some (.int q)) (d : Nat) {n : Int} (hn : (Lit.int q n).wf = true) : P.keyLits (d + 1) t [.int q n] = some [.int q n] := by
  simp [Program.keyLits, h, hn]
theorem keyLits_three {P : Program} {t e : TypeId} {q : IntKind} (h : P.underlying t = some (.array 3 e)) (he : P.underlying e = some (.int q)) (hc : P.cellsOf t = 3) (hce : P.cellsOf e = 1) (d : Nat) {a b c : Int} (ha : (Lit.int q a).wf = true) (hb : (Lit.int q b).wf = true) (hcw : (Lit.int q c).wf = true) :
    P.keyLits (d + 2) t [.int q a, .int q b, .int q c] = some [.int q a, .int q b, .int q c] := by
  unfold Program.keyLits
  simp only [h, hc, hce]
  refine (if_pos rfl).trans ?_
  simp only [List.range, List.range.loop, List.mapM_cons, List.mapM_nil, Nat.zero_mul, Nat.one_mul, Nat.reduceMul, List.drop_zero, List.drop_succ_cons, List.take_succ_cons, List.take_zero, keyLits_int he _ ha, keyLits_int he _ hb, keyLits_int he _ hcw]
  rfl

theorem keyOf_ky {k : Ky} (h : k.Wf) : ∃ l, keyOf Tryz.prog 213 (kyV k) = some l := by
  obtain ⟨h1, h2, h3, h4, h5, h6, h7⟩ := h
  have f1 : Tryz.prog.keyType 213 = true := by kernel_rfl
  have f2 : Tryz.prog.cellsOf 213 = 7 := by kernel_rfl
  have f3 : Tryz.prog.cellsOf 211 = 3 := by kernel_rfl
  have f4 : Tryz.prog.cellsOf 3 = 1 := by kernel_rfl
  have f5 : Tryz.prog.cellsOf 26 = 1 := by kernel_rfl
  obtain ⟨d, hd⟩ : ∃ d, Tryz.prog.types.size + 1 = d + 4 := ⟨Tryz.prog.types.size - 3, by have : 3 ≤ Tryz.prog.types.size := of_decide_eq_true (by kernel_rfl); omega⟩
  have hL : Tryz.prog.keyLits (Tryz.prog.types.size + 1) 213 (kyV k).cells.toList = some [.int .i64 k.op, .int .i64 k.w, .int .i64 k.fl, .int .u32 k.imm, .int .i64 k.a0, .int .i64 k.a1, .int .i64 k.a2] := by
    rw [hd]
    unfold Program.keyLits
    simp only [Tryz.underlying213, f2]
    simp only [kyV, Value.cells]
    refine (if_pos ⟨rfl, by kernel_rfl⟩).trans ?_
    simp only [List.mapM_cons, List.mapM_nil, f3, f4, f5, List.drop_zero, List.drop_succ_cons, List.take_succ_cons, List.take_zero]
    rw [keyLits_int Tryz.underlying3 (d + 2) (lit_i64 h1), keyLits_int Tryz.underlying3 (d + 2) (lit_i64 h2), keyLits_int Tryz.underlying3 (d + 2) (lit_i64 h3), keyLits_int Tryz.underlying26 (d + 2) (lit_u32 h4), keyLits_three Tryz.underlying211 Tryz.underlying3 f3 f4 (d + 1) (lit_i64 h5) (lit_i64 h6) (lit_i64 h7)]
    rfl
  have hf : (kyV k).formed Tryz.prog 213 = true := by simp [Value.formed, Tryz.underlying213, f2, kyV]
  unfold keyOf
  simp only [Tryz.underlying213, f1, hf, hL, Bool.and_self, if_true, Option.map_some]
  exact ⟨_, rfl⟩
end Go.Proofs.YtbiopedpceddeaaGreatDoor
end
section
namespace Go.Proofs.YtbiopedpceddeaaGreatDoor
open Go.RowKit Go.MapKept Go.Maps Go.WideMaps
set_option linter.unusedVariables false
set_option linter.unusedSimpArgs false

def kyOf (x : T.Nd) : Ky := ⟨x.op, x.w, x.fl, x.imm, x.args.getD 0 (-1), x.args.getD 1 (-1), x.args.getD 2 (-1)⟩
/-- a node that a builder can hold -/
structure NWf (x : T.Nd) : Prop where
  op : I64 x.op
  w : I64 x.w
  fl : I64 x.fl
  imm : 0 ≤ x.imm ∧ x.imm < 4294967296
  len : x.args.length ≤ 3
  args : ∀ a ∈ x.args, 0 ≤ a ∧ a < 4611686018427387904

theorem args_pad {l m : List Int} (hl : l.length ≤ 3) (hm : m.length ≤ 3) (al : ∀ a ∈ l, 0 ≤ a) (am : ∀ a ∈ m, 0 ≤ a) (h0 : l.getD 0 (-1) = m.getD 0 (-1)) (h1 : l.getD 1 (-1) = m.getD 1 (-1)) (h2 : l.getD 2 (-1) = m.getD 2 (-1)) : l = m := by
  rcases l with _ | ⟨a, _ | ⟨b, _ | ⟨c, _ | ⟨d, l⟩⟩⟩⟩ <;> rcases m with _ | ⟨a', _ | ⟨b', _ | ⟨c', _ | ⟨d', m⟩⟩⟩⟩ <;> simp at * <;> omega

theorem kyOf_inj {x y : T.Nd} (hx : NWf x) (hy : NWf y) (h : kyOf x = kyOf y) : x = y := by
  obtain ⟨op, w, fl, args, imm⟩ := x
  obtain ⟨op', w', fl', args', imm'⟩ := y
  simp only [kyOf, Ky.mk.injEq] at h
  obtain ⟨rfl, rfl, rfl, rfl, h0, h1, h2⟩ := h
  obtain rfl := args_pad hx.len hy.len (fun a ha => (hx.args a ha).1) (fun a ha => (hy.args a ha).1) h0 h1 h2
  rfl

theorem NWf.ky {x : T.Nd} (h : NWf x) : (kyOf x).Wf := by
  have ha : ∀ i, I64 (x.args.getD i (-1)) := fun i => by
    rw [List.getD_eq_getElem?_getD]
    cases e : x.args[i]? with
    | none => exact ⟨by decide, by decide⟩
    | some a =>
      have := h.args a (List.mem_of_getElem? e)
      exact ⟨by simp; omega, by simp; omega⟩
  exact ⟨h.op, h.w, h.fl, h.imm, ha 0, ha 1, ha 2⟩

/-- elements that are numbers -/
def IntE (_ : World) (_ : Ky) (u : Value) (n : Int) : Prop := u = .int .i64 n

/-- the entries of a list of nodes, from a number on -/
def entsF : Nat → List T.Nd → List (Ky × Int)
  | _, [] => []
  | k, x :: l => (kyOf x, (k : Int)) :: entsF (k + 1) l
def ents (out : List T.Nd) : List (Ky × Int) := entsF 0 out

theorem entsF_app (l m : List T.Nd) : ∀ k, entsF k (l ++ m) = entsF k l ++ entsF (k + l.length) m := by
  induction l with
  | nil => intro k; simp [entsF]
  | cons x l ih => intro k; simp only [List.cons_append, entsF, ih, List.length_cons]; rw [show k + 1 + l.length = k + (l.length + 1) by omega]

theorem entsF_get {x : T.Nd} (hx : NWf x) : ∀ (l : List T.Nd) (k : Nat), (∀ y ∈ l, NWf y) → AL.get (entsF k l) (kyOf x) = if x ∈ l then some ((k + l.idxOf x : Nat) : Int) else none := by
  intro l
  induction l with
  | nil => intro k _; rfl
  | cons y l ih =>
    intro k h
    unfold entsF AL.get
    by_cases e : kyOf y = kyOf x
    · have e' := kyOf_inj (h y (by simp)) hx e
      subst e'
      simp
    · rw [if_neg e, ih (k + 1) (fun z hz => h z (by simp [hz]))]
      have hne : x ≠ y := fun h' => e (by rw [h'])
      have hne' : (y == x) = false := by simp; exact fun h' => hne h'.symm
      by_cases hm : x ∈ l
      · rw [if_pos hm, if_pos (by simp [hm]), List.idxOf_cons, hne']
        simp; omega
      · rw [if_neg hm, if_neg (by simp [hm, hne])]

theorem ents_get {out : List T.Nd} {x : T.Nd} (hx : NWf x) (ho : ∀ y ∈ out, NWf y) : AL.get (ents out) (kyOf x) = if x ∈ out then some ((out.idxOf x : Nat) : Int) else none := by
  have := entsF_get hx out 0 ho
  unfold ents
  simpa using this

theorem AL_get_none {κ α : Type} [DecidableEq κ] {l : List (κ × α)} {k : κ} (h : AL.get l k = none) : ∀ p ∈ l, p.1 ≠ k := by
  induction l with
  | nil => intro p hp; simp at hp
  | cons q l ih =>
    intro p hp
    unfold AL.get at h
    split at h
    · cases h
    · rename_i e
      rcases List.mem_cons.1 hp with rfl | hp
      · exact e
      · exact ih h p hp

theorem ents_put {out : List T.Nd} {x : T.Nd} (hx : NWf x) (ho : ∀ y ∈ out, NWf y) (hn : x ∉ out) : AL.put (ents out) (kyOf x) (out.length : Int) = ents (out ++ [x]) := by
  have hg := ents_get hx ho
  rw [if_neg hn] at hg
  rw [AL.put_none (AL_get_none hg)]
  unfold ents
  rw [entsF_app]
  simp [entsF]

/-- five cells are a node of the builder's: its operands lie in one of its blocks -/
def NdM (M : Nat → Prop) (w : World) (us : List Value) (x : T.Nd) : Prop :=
  ∃ A c, us = ndC x A c ∧ SlAt (IntR .i64) w A x.args.length x.args ∧ 0 ≤ x.imm ∧ x.imm < 4294967296 ∧ (x.args ≠ [] → ∀ b off, A = some ⟨b, off, none⟩ → M b ∧ ∃ cur fr, w.heap[b]? = some (.cells cur 3 fr))

/-- the slice v holds these nodes; all of it lies in M -/
def OwnM (M : Nat → Prop) (w : World) (v : Value) (nds : List T.Nd) : Prop :=
  ∃ cells, OwnAt w 62 5 v nds.length cells ∧ (∀ (k : Nat) (x : T.Nd), nds[k]? = some x → NdM M w ((cells.drop (k * 5)).take 5) x) ∧ ∀ g, v.ownBlock = some g → M g

/-- the builder at block bb holds these nodes; its memory is M, above B -/
structure BuAt (w : World) (B bb : Nat) (out : List T.Nd) (M : Nat → Prop) : Prop where
  in_ : ∀ i, M i → B ≤ i ∧ i < w.heap.size
  self : M bb
  wf : ∀ x ∈ out, NWf x
  cells : ∃ v fm, w.heap[bb]? = some (.cells #[v, .map fm] 148 (0, 0)) ∧ OwnM M w v out ∧
    ((fm = none ∧ out = []) ∨ ∃ fb, fm = some fb ∧ M fb ∧ MapAt Tryz.prog 213 kyV IntE w fb (ents out))

section
variable {M M' : Nat → Prop} {w w' : World} {us : List Value} {x : T.Nd} {v : Value} {nds out : List T.Nd} {B bb : Nat}

theorem NdM.ndR (h : NdM M w us x) : NdR w us x := by
  obtain ⟨A, c, h1, h2, h3, h4, _⟩ := h
  exact ⟨A, c, h1, h2, h3, h4⟩

theorem NdM.same (h : NdM M w us x) (hs : ∀ i, M i → w'.heap[i]? = w.heap[i]?) : NdM M w' us x := by
  obtain ⟨A, c, h1, h2, h3, h4, h5⟩ := h
  refine ⟨A, c, h1, ⟨h2.1, h2.2.1, fun k y hy => ?_⟩, h3, h4, fun hn b off hA => ?_⟩
  · obtain ⟨b, off, u, hA, hlt, hc, hu⟩ := h2.2.2 k y hy
    have hn : x.args ≠ [] := fun e => by rw [e] at hy; simp at hy
    obtain ⟨hm, cur, fr, hcur⟩ := h5 hn b off hA
    have e := hs b hm
    rw [hcur] at e
    refine ⟨b, off, u, hA, (Array.getElem?_eq_some_iff.1 e).1, ?_, hu⟩
    unfold World.cell? at hc ⊢
    rw [e, ← hcur]
    exact hc
  · obtain ⟨hm, cur, fr, hcur⟩ := h5 hn b off hA
    exact ⟨hm, cur, fr, (hs b hm).trans hcur⟩

theorem NdM.weak (h : NdM M w us x) (hs : ∀ i, M i → M' i) : NdM M' w us x := by
  obtain ⟨A, c, h1, h2, h3, h4, h5⟩ := h
  exact ⟨A, c, h1, h2, h3, h4, fun hn b off hA => ⟨hs b (h5 hn b off hA).1, (h5 hn b off hA).2⟩⟩

theorem NdM.grown {row : Option Nat} (h : NdM M w us x) (hg : w.grownBy w' row) (hr : ∀ g cur fr, row = some g → w.heap[g]? ≠ some (.cells cur 3 fr)) : NdM M w' us x := by
  obtain ⟨A, c, h1, h2, h3, h4, h5⟩ := h
  have key : x.args ≠ [] → ∀ b off, A = some ⟨b, off, none⟩ → w'.heap[b]? = w.heap[b]? := fun hn b off hA => by
    obtain ⟨hm, cur, fr, hcur⟩ := h5 hn b off hA
    exact hg.block b (Array.getElem?_eq_some_iff.1 hcur).1 (fun e => hr b cur fr e.symm hcur)
  refine ⟨A, c, h1, ⟨h2.1, h2.2.1, fun k y hy => ?_⟩, h3, h4, fun hn b off hA => ?_⟩
  · obtain ⟨b, off, u, hA, hlt, hc, hu⟩ := h2.2.2 k y hy
    have hn : x.args ≠ [] := fun e => by rw [e] at hy; simp at hy
    refine ⟨b, off, u, hA, Nat.lt_of_lt_of_le hlt hg.size, ?_, hu⟩
    unfold World.cell? at hc ⊢
    rw [key hn b off hA]
    exact hc
  · obtain ⟨hm, cur, fr, hcur⟩ := h5 hn b off hA
    exact ⟨hm, cur, fr, (key hn b off hA).trans hcur⟩

theorem NdM.below (h : NdM M w us x) (hk : Below w.heap.size w w') : NdM M w' us x := by
  obtain ⟨A, c, h1, h2, h3, h4, h5⟩ := h
  refine ⟨A, c, h1, h2.below (monoInt _) hk, h3, h4, fun hn b off hA => ?_⟩
  obtain ⟨hm, cur, fr, hc⟩ := h5 hn b off hA
  exact ⟨hm, cur, fr, (hk.block _ (Array.getElem?_eq_some_iff.1 hc).1).trans hc⟩

theorem OwnM.nil_ (M : Nat → Prop) (w : World) : OwnM M w (.slice none 0 0) [] := ⟨[], OwnAt.nil_ _ _ _, fun k x h => by simp at h, fun g h => by simp [Value.ownBlock] at h⟩

theorem OwnM.form (h : OwnM M w v nds) : ∃ A c, v = .slice A nds.length c := by
  obtain ⟨cells, h1, _⟩ := h
  exact h1.form

theorem OwnM.same (h : OwnM M w v nds) (hs : ∀ i, M i → w'.heap[i]? = w.heap[i]?) : OwnM M w' v nds := by
  obtain ⟨cells, h1, h2, h3⟩ := h
  exact ⟨cells, h1.same fun g hg => hs g (h3 g hg), fun k x hx => (h2 k x hx).same hs, h3⟩

/-- another block turns: no block of nodes, nor of numbers -/
theorem OwnM.grown {row : Option Nat} (h : OwnM M w v nds) (hg : w.grownBy w' row) (hr : ∀ g cur T fr, row = some g → w.heap[g]? = some (.cells cur T fr) → T ≠ 3 ∧ T ≠ 62) : OwnM M w' v nds := by
  obtain ⟨cells, h1, h2, h3⟩ := h
  refine ⟨cells, h1.same fun g hg' => ?_, fun k x hx => (h2 k x hx).grown hg fun g cur fr e hc => (hr g cur _ fr e hc).1 rfl, h3⟩
  rcases h1.2 with ⟨rfl, _⟩ | ⟨g', off, cap, cur, rfl, hcur, _⟩
  · simp [Value.ownBlock] at hg'
  · simp [Value.ownBlock] at hg'
    subst hg'
    exact hg.block _ (Array.getElem?_eq_some_iff.1 hcur).1 (fun e => (hr _ cur _ _ e.symm hcur).2 rfl)

theorem OwnM.stAt {A : Option Addr} {n c : Nat} (h : OwnM M w (.slice A n c) nds) (hn : nds.length = n) : StAt 5 NdR w A n nds := by
  obtain ⟨cells, h1, h2, h3⟩ := h
  rw [hn] at h1
  exact h1.stAt hn fun k x hx => (h2 k x hx).ndR

theorem OwnM.row (h : OwnM M w v nds) : ∀ g, v.ownBlock = some g → ∃ cur fr, w.heap[g]? = some (.cells cur 62 fr) := by
  obtain ⟨cells, h1, h2, h3⟩ := h
  intro g hg
  rcases h1.2 with ⟨rfl, _⟩ | ⟨g', off, cap, cur, rfl, hcur, _⟩
  · simp [Value.ownBlock] at hg
  · simp [Value.ownBlock] at hg
    subst hg
    exact ⟨cur, _, hcur⟩

theorem BuAt.same (h : BuAt w B bb out M) (hs : ∀ i, M i → w'.heap[i]? = w.heap[i]?) (hz : w.heap.size ≤ w'.heap.size) : BuAt w' B bb out M := by
  obtain ⟨v, fm, h1, h2, h3⟩ := h.cells
  refine ⟨fun i hi => ⟨(h.in_ i hi).1, Nat.lt_of_lt_of_le (h.in_ i hi).2 hz⟩, h.self, h.wf, v, fm, (hs bb h.self).trans h1, h2.same hs, ?_⟩
  rcases h3 with h3 | ⟨fb, e, hm, hM⟩
  · exact .inl h3
  · exact .inr ⟨fb, e, hm, hM.keep (hs fb hm) fun _ _ _ h => h⟩

theorem BuAt.below (h : BuAt w B bb out M) (k : Below w.heap.size w w') : BuAt w' B bb out M :=
  h.same (fun i hi => k.block i (h.in_ i hi).2) k.size
end

/-- operands in memory of the call's own -/
def ArgAt (B : Nat) (M : Nat → Prop) (w : World) (A : Option Addr) (l : List Int) : Prop :=
  SlAt (IntR .i64) w A l.length l ∧ (l ≠ [] → ∀ b off, A = some ⟨b, off, none⟩ → B ≤ b ∧ ¬ M b ∧ ∃ cur fr, w.heap[b]? = some (.cells cur 3 fr))

/-- one of the blocks of these operands -/
def InA (A : Option Addr) (l : List Int) (i : Nat) : Prop := l ≠ [] ∧ ∃ off, A = some ⟨i, off, none⟩
end Go.Proofs.YtbiopedpceddeaaGreatDoor
end
