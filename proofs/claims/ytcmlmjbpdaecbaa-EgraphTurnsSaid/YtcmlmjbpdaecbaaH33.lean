/- Terms (chapter 14): the builder of terms (the program): what its memory holds. -/
import Derived.Test.YtcmlmjbpdaecbaaH32
set_option linter.unusedVariables false
set_option linter.unusedSimpArgs false
namespace Go.Proofs.Ytcmlmjbpdaecbaa
open Go.RowKit Go.MapKept Go.Maps Go.WideMaps
set_option linter.unusedVariables false
set_option linter.unusedSimpArgs false

theorem SlAt.kpm {M : Nat → Prop} {w w' : World} {q : IntKind} {A : Option Addr} {n : Nat} {xs : List Int} (h : SlAt (IntR q) w A n xs) (k : Kpm M w w') (hA : xs ≠ [] → ∀ b off, A = some ⟨b, off, none⟩ → ¬ M b) : SlAt (IntR q) w' A n xs := by
  refine ⟨h.1, h.2.1, fun j x hx => ?_⟩
  obtain ⟨b, off, u, e, hlt, hc, hr⟩ := h.2.2 j x hx
  have hn : xs ≠ [] := fun e => by rw [e] at hx; simp at hx
  have hb := k.block b hlt (hA hn b off e)
  refine ⟨b, off, u, e, Nat.lt_of_lt_of_le hlt k.size, ?_, hr⟩
  unfold World.cell? at hc ⊢
  rw [hb]
  exact hc
/-- a node that a builder can hold -/
structure NWf (x : T.Nd) : Prop where
  op : I64 x.op
  w : I64 x.w
  fl : x.fl = 0
  imm : 0 ≤ x.imm ∧ x.imm < 4294967296
  len : x.args.length ≤ 3
  args : ∀ a ∈ x.args, 0 ≤ a ∧ a < 4611686018427387904

theorem args_pad {l m : List Int} (hl : l.length ≤ 3) (hm : m.length ≤ 3) (al : ∀ a ∈ l, 0 ≤ a) (am : ∀ a ∈ m, 0 ≤ a) (h0 : l.getD 0 (-1) = m.getD 0 (-1)) (h1 : l.getD 1 (-1) = m.getD 1 (-1)) (h2 : l.getD 2 (-1) = m.getD 2 (-1)) : l = m := by
  rcases l with _ | ⟨a, _ | ⟨b, _ | ⟨c, _ | ⟨d, l⟩⟩⟩⟩ <;> rcases m with _ | ⟨a', _ | ⟨b', _ | ⟨c', _ | ⟨d', m⟩⟩⟩⟩ <;> simp at * <;> omega

theorem opn_inj {x y : T.Nd} (hx : NWf x) (hy : NWf y) (h : E.opn x = E.opn y) : x = y := by
  obtain ⟨op, w, fl, args, imm⟩ := x
  obtain ⟨op', w', fl', args', imm'⟩ := y
  simp only [E.opn, E.Opn.mk.injEq] at h
  obtain ⟨rfl, rfl, rfl, h0, h1, h2⟩ := h
  have f1 := hx.fl
  have f2 := hy.fl
  simp only at f1 f2
  subst f1 f2
  obtain rfl := args_pad hx.len hy.len (fun a ha => (hx.args a ha).1) (fun a ha => (hy.args a ha).1) h0 h1 h2
  rfl

theorem NWf.ky {x : T.Nd} (h : NWf x) : OWf (E.opn x) := by
  have ha : ∀ i, I64 (x.args.getD i (-1)) := fun i => by
    rw [List.getD_eq_getElem?_getD]
    cases e : x.args[i]? with
    | none => exact ⟨by decide, by decide⟩
    | some a =>
      have := h.args a (List.mem_of_getElem? e)
      exact ⟨by simp; omega, by simp; omega⟩
  exact ⟨h.op, h.w, h.imm, ha 0, ha 1, ha 2⟩

/-- elements that are numbers -/
def IntE (_ : World) (_ : E.Opn) (u : Value) (n : Int) : Prop := u = .int .i64 n

/-- the entries of a list of nodes, from a number on -/
def entsF : Nat → List T.Nd → List (E.Opn × Int)
  | _, [] => []
  | k, x :: l => (E.opn x, (k : Int)) :: entsF (k + 1) l
def ents (out : List T.Nd) : List (E.Opn × Int) := entsF 0 out

theorem entsF_app (l m : List T.Nd) : ∀ k, entsF k (l ++ m) = entsF k l ++ entsF (k + l.length) m := by
  induction l with
  | nil => intro k; simp [entsF]
  | cons x l ih => intro k; simp only [List.cons_append, entsF, ih, List.length_cons]; rw [show k + 1 + l.length = k + (l.length + 1) by omega]

theorem entsF_get {x : T.Nd} (hx : NWf x) : ∀ (l : List T.Nd) (k : Nat), (∀ y ∈ l, NWf y) → AL.get (entsF k l) (E.opn x) = if x ∈ l then some ((k + l.idxOf x : Nat) : Int) else none := by
  intro l
  induction l with
  | nil => intro k _; rfl
  | cons y l ih =>
    intro k h
    unfold entsF AL.get
    by_cases e : E.opn y = E.opn x
    · have e' := opn_inj (h y (by simp)) hx e
      subst e'
      simp
    · rw [if_neg e, ih (k + 1) (fun z hz => h z (by simp [hz]))]
      have hne : x ≠ y := fun h' => e (by rw [h'])
      have hne' : (y == x) = false := by simp; exact fun h' => hne h'.symm
      by_cases hm : x ∈ l
      · rw [if_pos hm, if_pos (by simp [hm]), List.idxOf_cons, hne']
        simp; omega
      · rw [if_neg hm, if_neg (by simp [hm, hne])]

theorem ents_get {out : List T.Nd} {x : T.Nd} (hx : NWf x) (ho : ∀ y ∈ out, NWf y) : AL.get (ents out) (E.opn x) = if x ∈ out then some ((out.idxOf x : Nat) : Int) else none := by
  have := entsF_get hx out 0 ho
  unfold ents
  simpa using this

theorem ents_put {out : List T.Nd} {x : T.Nd} (hx : NWf x) (ho : ∀ y ∈ out, NWf y) (hn : x ∉ out) : AL.put (ents out) (E.opn x) (out.length : Int) = ents (out ++ [x]) := by
  have hg := ents_get hx ho
  rw [if_neg hn] at hg
  rw [AL.put_none (AL_get_none hg)]
  unfold ents
  rw [entsF_app]
  simp [entsF]

/-- five cells are a node of the builder's: its operands lie in one of its blocks -/
def NdM (M : Nat → Prop) (w : World) (us : List Value) (x : T.Nd) : Prop :=
  ∃ A c, us = ndC x A c ∧ SlAt (IntR .i64) w A x.args.length x.args ∧ 0 ≤ x.imm ∧ x.imm < 4294967296 ∧ (x.args ≠ [] → ∀ b off, A = some ⟨b, off, none⟩ → M b ∧ ∃ cur fr, w.heap[b]? = some (.cells cur 3 fr))

/-- the slice v holds these nodes; all of it lies in M -/
def OwnM (M : Nat → Prop) (w : World) (v : Value) (nds : List T.Nd) : Prop :=
  ∃ cells, OwnAt w 52 5 v nds.length cells ∧ (∀ (k : Nat) (x : T.Nd), nds[k]? = some x → NdM M w ((cells.drop (k * 5)).take 5) x) ∧ ∀ g, v.ownBlock = some g → M g

/-- the builder at block bb holds these nodes; its memory is M, above B -/
structure BuAt (w : World) (B bb : Nat) (out : List T.Nd) (M : Nat → Prop) : Prop where
  in_ : ∀ i, M i → B ≤ i ∧ i < w.heap.size
  self : M bb
  wf : ∀ x ∈ out, NWf x
  cells : ∃ v fm, w.heap[bb]? = some (.cells #[v, .map fm] 103 (0, 0)) ∧ OwnM M w v out ∧
    ((fm = none ∧ out = []) ∨ ∃ fb, fm = some fb ∧ M fb ∧ MapAt Try.prog 114 opV IntE w fb (ents out))

section
variable {M M' : Nat → Prop} {w w' : World} {us : List Value} {x : T.Nd} {v : Value} {nds out : List T.Nd} {B bb : Nat}

theorem NdM.ndR (h : NdM M w us x) : NdR w us x := by
  obtain ⟨A, c, h1, h2, h3, h4, _⟩ := h
  exact ⟨A, c, h1, h2, h3, h4⟩

theorem NdM.same (h : NdM M w us x) (hs : ∀ i, M i → w'.heap[i]? = w.heap[i]?) : NdM M w' us x := by
  obtain ⟨A, c, h1, h2, h3, h4, h5⟩ := h
  refine ⟨A, c, h1, ⟨h2.1, h2.2.1, fun k y hy => ?_⟩, h3, h4, fun hn b off hA => ?_⟩
  · obtain ⟨b, off, u, hA, hlt, hc, hu⟩ := h2.2.2 k y hy
    have hn : x.args ≠ [] := fun e => by rw [e] at hy; simp at hy
    obtain ⟨hm, cur, fr, hcur⟩ := h5 hn b off hA
    have e := hs b hm
    rw [hcur] at e
    refine ⟨b, off, u, hA, (Array.getElem?_eq_some_iff.1 e).1, ?_, hu⟩
    unfold World.cell? at hc ⊢
    rw [e, ← hcur]
    exact hc
  · obtain ⟨hm, cur, fr, hcur⟩ := h5 hn b off hA
    exact ⟨hm, cur, fr, (hs b hm).trans hcur⟩

theorem NdM.weak (h : NdM M w us x) (hs : ∀ i, M i → M' i) : NdM M' w us x := by
  obtain ⟨A, c, h1, h2, h3, h4, h5⟩ := h
  exact ⟨A, c, h1, h2, h3, h4, fun hn b off hA => ⟨hs b (h5 hn b off hA).1, (h5 hn b off hA).2⟩⟩

theorem NdM.grown {row : Option Nat} (h : NdM M w us x) (hg : w.grownBy w' row) (hr : ∀ g cur fr, row = some g → w.heap[g]? ≠ some (.cells cur 3 fr)) : NdM M w' us x := by
  obtain ⟨A, c, h1, h2, h3, h4, h5⟩ := h
  have key : x.args ≠ [] → ∀ b off, A = some ⟨b, off, none⟩ → w'.heap[b]? = w.heap[b]? := fun hn b off hA => by
    obtain ⟨hm, cur, fr, hcur⟩ := h5 hn b off hA
    exact hg.block b (Array.getElem?_eq_some_iff.1 hcur).1 (fun e => hr b cur fr e.symm hcur)
  refine ⟨A, c, h1, ⟨h2.1, h2.2.1, fun k y hy => ?_⟩, h3, h4, fun hn b off hA => ?_⟩
  · obtain ⟨b, off, u, hA, hlt, hc, hu⟩ := h2.2.2 k y hy
    have hn : x.args ≠ [] := fun e => by rw [e] at hy; simp at hy
    refine ⟨b, off, u, hA, Nat.lt_of_lt_of_le hlt hg.size, ?_, hu⟩
    unfold World.cell? at hc ⊢
    rw [key hn b off hA]
    exact hc
  · obtain ⟨hm, cur, fr, hcur⟩ := h5 hn b off hA
    exact ⟨hm, cur, fr, (key hn b off hA).trans hcur⟩

theorem NdM.below (h : NdM M w us x) (hk : Below w.heap.size w w') : NdM M w' us x := by
  obtain ⟨A, c, h1, h2, h3, h4, h5⟩ := h
  refine ⟨A, c, h1, h2.below (monoInt _) hk, h3, h4, fun hn b off hA => ?_⟩
  obtain ⟨hm, cur, fr, hc⟩ := h5 hn b off hA
  exact ⟨hm, cur, fr, (hk.block _ (Array.getElem?_eq_some_iff.1 hc).1).trans hc⟩

theorem OwnM.nil_ (M : Nat → Prop) (w : World) : OwnM M w (.slice none 0 0) [] := ⟨[], OwnAt.nil_ _ _ _, fun k x h => by simp at h, fun g h => by simp [Value.ownBlock] at h⟩

theorem OwnM.form (h : OwnM M w v nds) : ∃ A c, v = .slice A nds.length c := by
  obtain ⟨cells, h1, _⟩ := h
  exact h1.form

theorem OwnM.same (h : OwnM M w v nds) (hs : ∀ i, M i → w'.heap[i]? = w.heap[i]?) : OwnM M w' v nds := by
  obtain ⟨cells, h1, h2, h3⟩ := h
  exact ⟨cells, h1.same fun g hg => hs g (h3 g hg), fun k x hx => (h2 k x hx).same hs, h3⟩

theorem OwnM.weak (h : OwnM M w v nds) (hs : ∀ i, M i → M' i) : OwnM M' w v nds := by
  obtain ⟨cells, h1, h2, h3⟩ := h
  exact ⟨cells, h1, fun k x hx => (h2 k x hx).weak hs, fun g hg => hs g (h3 g hg)⟩

/-- another block turns: no block of nodes, nor of numbers -/
theorem OwnM.grown {row : Option Nat} (h : OwnM M w v nds) (hg : w.grownBy w' row) (hr : ∀ g cur T fr, row = some g → w.heap[g]? = some (.cells cur T fr) → T ≠ 3 ∧ T ≠ 52) : OwnM M w' v nds := by
  obtain ⟨cells, h1, h2, h3⟩ := h
  refine ⟨cells, h1.same fun g hg' => ?_, fun k x hx => (h2 k x hx).grown hg fun g cur fr e hc => (hr g cur _ fr e hc).1 rfl, h3⟩
  rcases h1.2 with ⟨rfl, _⟩ | ⟨g', off, cap, cur, rfl, hcur, _⟩
  · simp [Value.ownBlock] at hg'
  · simp [Value.ownBlock] at hg'
    subst hg'
    exact hg.block _ (Array.getElem?_eq_some_iff.1 hcur).1 (fun e => (hr _ cur _ _ e.symm hcur).2 rfl)

theorem OwnM.stAt {A : Option Addr} {n c : Nat} (h : OwnM M w (.slice A n c) nds) (hn : nds.length = n) : StAt 5 NdR w A n nds := by
  obtain ⟨cells, h1, h2, h3⟩ := h
  rw [hn] at h1
  exact h1.stAt hn fun k x hx => (h2 k x hx).ndR

theorem OwnM.row (h : OwnM M w v nds) : ∀ g, v.ownBlock = some g → ∃ cur fr, w.heap[g]? = some (.cells cur 52 fr) := by
  obtain ⟨cells, h1, h2, h3⟩ := h
  intro g hg
  rcases h1.2 with ⟨rfl, _⟩ | ⟨g', off, cap, cur, rfl, hcur, _⟩
  · simp [Value.ownBlock] at hg
  · simp [Value.ownBlock] at hg
    subst hg
    exact ⟨cur, _, hcur⟩

theorem BuAt.same (h : BuAt w B bb out M) (hs : ∀ i, M i → w'.heap[i]? = w.heap[i]?) (hz : w.heap.size ≤ w'.heap.size) : BuAt w' B bb out M := by
  obtain ⟨v, fm, h1, h2, h3⟩ := h.cells
  refine ⟨fun i hi => ⟨(h.in_ i hi).1, Nat.lt_of_lt_of_le (h.in_ i hi).2 hz⟩, h.self, h.wf, v, fm, (hs bb h.self).trans h1, h2.same hs, ?_⟩
  rcases h3 with h3 | ⟨fb, e, hm, hM⟩
  · exact .inl h3
  · exact .inr ⟨fb, e, hm, hM.keep (hs fb hm) fun _ _ _ h => h⟩

theorem BuAt.kpm {N : Nat → Prop} (h : BuAt w B bb out M) (k : Kpm N w w') (hd : ∀ i, M i → ¬ N i) : BuAt w' B bb out M :=
  h.same (fun i hi => k.block i (h.in_ i hi).2 (hd i hi)) k.size

theorem BuAt.below (h : BuAt w B bb out M) (k : Below w.heap.size w w') : BuAt w' B bb out M :=
  h.same (fun i hi => k.block i (h.in_ i hi).2) k.size
end

/-- operands in memory of the call's own -/
def ArgAt (B : Nat) (M : Nat → Prop) (w : World) (A : Option Addr) (l : List Int) : Prop :=
  SlAt (IntR .i64) w A l.length l ∧ (l ≠ [] → ∀ b off, A = some ⟨b, off, none⟩ → B ≤ b ∧ ¬ M b ∧ ∃ cur fr, w.heap[b]? = some (.cells cur 3 fr))

/-- one of the blocks of these operands -/
def InA (A : Option Addr) (l : List Int) (i : Nat) : Prop := l ≠ [] ∧ ∃ off, A = some ⟨i, off, none⟩
end Go.Proofs.Ytcmlmjbpdaecbaa
