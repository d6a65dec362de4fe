/- Rules: what lies in memory while the reference shares a list. -/
import Derived.Test.YtbiopedpceddeaaGreatDoorL32
import Derived.Test.YtbiopedpceddeaaGreatDoorL14
set_option linter.unusedVariables false
set_option linter.unusedSimpArgs false
namespace Go.Proofs.YtbiopedpceddeaaGreatDoor
open Go.RowKit
set_option linter.unusedVariables false
set_option linter.unusedSimpArgs false

/-- a node whose operands lie in memory of the call's own, apart from some blocks -/
def NdX (B : Nat) (Ex : Nat → Prop) (w : World) (us : List Value) (x : T.Nd) : Prop :=
  ∃ A c, us = ndC x A c ∧ OwnAt w 3 1 (.slice A x.args.length c) x.args.length (x.args.map (Value.int .i64)) ∧ 0 ≤ x.imm ∧ x.imm < 4294967296 ∧ ∀ g, (Value.slice A x.args.length c).ownBlock = some g → B ≤ g ∧ ¬ Ex g

theorem NdX.ndF {B : Nat} {Ex : Nat → Prop} {w : World} {us : List Value} {x : T.Nd} (h : NdX B Ex w us x) : NdF B w us x := by
  obtain ⟨A, c, h1, h2, h3, h4, h5⟩ := h
  exact ⟨A, c, h1, h2, h3, h4, fun g hg => (h5 g hg).1⟩
theorem NdX.re {B : Nat} {Ex Ex' : Nat → Prop} {w : World} {us : List Value} {x : T.Nd} (h : NdX B Ex w us x) (hE : ∀ i, i < w.heap.size → Ex' i → Ex i) : NdX B Ex' w us x := by
  obtain ⟨A, c, h1, h2, h3, h4, h5⟩ := h
  exact ⟨A, c, h1, h2, h3, h4, fun g hg => ⟨(h5 g hg).1, fun he => (h5 g hg).2 (hE g (h2.lt g hg) he)⟩⟩
theorem ndX_rel (B : Nat) (Ex : Nat → Prop) : NdRel B (NdX B Ex) := by
  constructor
  · intro w us x h
    exact (ndF_rel B).form h.ndF
  · intro w w' us x h hb
    obtain ⟨A, c, h1, h2, h3, h4, h5⟩ := h
    exact ⟨A, c, h1, h2.below hb h2.lt, h3, h4, h5⟩
  · intro w w' us x row h hg hr
    obtain ⟨A, c, h1, h2, h3, h4, h5⟩ := h
    refine ⟨A, c, h1, h2.same fun g hg' => ?_, h3, h4, h5⟩
    rcases h2.2 with ⟨e, _⟩ | ⟨g', off, cap, cur, e, hcur, _⟩
    · rw [e] at hg'; simp [Value.ownBlock] at hg'
    · rw [e] at hg'
      simp [Value.ownBlock] at hg'
      subst hg'
      refine hg.block _ (Array.getElem?_eq_some_iff.1 hcur).1 (fun e => ?_)
      obtain ⟨_, cur', fr, hc'⟩ := hr _ e.symm
      rw [hcur] at hc'
      injection hc' with hc'
      injection hc' with _ hc' _
      revert hc'
      decide

theorem OwnR.toF {B : Nat} {Ex : Nat → Prop} {w : World} {v : Value} {nds : List T.Nd} (h : OwnR (NdX B Ex) B w v nds) : OwnR (NdF B) B w v nds := by
  obtain ⟨cells, h1, h2, h3⟩ := h
  exact ⟨cells, h1, fun k x hx => (h2 k x hx).ndF, h3⟩
theorem OwnR.re {B : Nat} {Ex Ex' : Nat → Prop} {w : World} {v : Value} {nds : List T.Nd} (h : OwnR (NdX B Ex) B w v nds) (hE : ∀ i, i < w.heap.size → Ex' i → Ex i) : OwnR (NdX B Ex') B w v nds := by
  obtain ⟨cells, h1, h2, h3⟩ := h
  exact ⟨cells, h1, fun k x hx => (h2 k x hx).re hE, h3⟩
/-- an excepted block of numbers turns -/
theorem OwnR.ex {B : Nat} {Ex : Nat → Prop} {w w' : World} {v : Value} {nds : List T.Nd} {row : Option Nat} (h : OwnR (NdX B Ex) B w v nds) (hg : w.grownBy w' row) (hr : ∀ g, row = some g → Ex g ∧ ∃ cur fr, w.heap[g]? = some (.cells cur 3 fr)) : OwnR (NdX B Ex) B w' v nds := by
  obtain ⟨cells, h1, h2, h3⟩ := h
  refine ⟨cells, h1.same fun g hg' => ?_, fun k x hx => ?_, h3⟩
  · rcases h1.2 with ⟨rfl, _⟩ | ⟨g', off, cap, cur, rfl, hcur, _⟩
    · simp [Value.ownBlock] at hg'
    · simp [Value.ownBlock] at hg'
      subst hg'
      refine hg.block _ (Array.getElem?_eq_some_iff.1 hcur).1 (fun e => ?_)
      obtain ⟨_, cur', fr, hc'⟩ := hr _ e.symm
      rw [hcur] at hc'
      injection hc' with hc'
      injection hc' with _ hc' _
      revert hc'
      decide
  · obtain ⟨A, c, q1, q2, q3, q4, q5⟩ := h2 k x hx
    exact ⟨A, c, q1, q2.same fun g hg' => hg.block g (q2.lt g hg') (fun e => (q5 g hg').2 (hr g e.symm).1), q3, q4, q5⟩

/-- the last element is taken off -/
theorem OwnAt.pop {w : World} {e : TypeId} {A : Option Addr} {n c : Nat} {xs : List Value} (h : OwnAt w e 1 (.slice A (n + 1) c) (n + 1) xs) : OwnAt w e 1 (.slice A n c) n (xs.take n) := by
  have hl := h.1
  refine ⟨by rw [List.length_take]; omega, ?_⟩
  rcases h.2 with ⟨_, h2⟩ | ⟨g, off, cap, cur, e1, hg, q1, q2, q3, q4⟩
  · omega
  · cases e1
    exact .inr ⟨g, off, c, cur, rfl, hg, by omega, q2, q3, fun j u hu => by
      rw [List.getElem?_take] at hu
      split at hu
      · exact q4 j u hu
      · cases hu⟩

/-- the state of the sharing -/
structure ShSt (W : World) (t : List T.Nd) (ga : Nat) (res : List T.Nd) (wr : World) (v5 v8 : Value) (tab : List Int) (S : List Nat) (out : List T.Nd) : Prop where
  bel : Below W.heap.size W wr
  inv : T.ShI t tab S out res
  ga0 : W.heap.size ≤ ga
  row : wr.heap[ga]? = some (.cells (tab.map (Value.int .i64)).toArray 3 (0, 0))
  stk : OwnAt wr 3 1 v8 S.length (S.reverse.map fun k : Nat => Value.int .i64 (k : Int))
  stb : ∀ g, v8.ownBlock = some g → W.heap.size ≤ g ∧ g ≠ ga
  own : OwnR (NdX W.heap.size (fun i => i = ga ∨ v8.ownBlock = some i)) W.heap.size wr v5 out

def shMes (t : List T.Nd) (tab : List Int) (S : List Nat) : Nat := T.untold tab * (t.length + 2) + (t.length + 1 - S.length)

section
variable {W : World} {t : List T.Nd} {ga : Nat} {res : List T.Nd} {wr w' : World} {v5 v8 : Value} {tab : List Int} {S : List Nat} {out : List T.Nd}

theorem ShSt.below (h : ShSt W t ga res wr v5 v8 tab S out) (hb : Below wr.heap.size wr w') : ShSt W t ga res w' v5 v8 tab S out :=
  ⟨h.bel.trans (hb.mono h.bel.size), h.inv, h.ga0, (hb.block _ (Array.getElem?_eq_some_iff.1 h.row).1).trans h.row, h.stk.below hb h.stk.lt, h.stb, h.own.below (ndX_rel _ _) hb⟩

/-- a cell of the table -/
theorem ShSt.tab_ (h : ShSt W t ga res wr v5 v8 tab S out) {k : Nat} {v : Int} (hv : tab[k]? = some v) : wr.cell? ⟨ga, k, none⟩ = some (.int .i64 v) := by
  rw [cell_of_row _ _ _ _ _ (0, 0) h.row]
  simp [hv]
/-- the top of the stack -/
theorem ShSt.top {A : Option Addr} {c m : Nat} {n : Nat} (h : ShSt W t ga res wr v5 (.slice A (m + 1) c) tab (n :: S) out) (hm : S.length = m) : ∃ b off, A = some ⟨b, off, none⟩ ∧ wr.cell? ⟨b, off + m, none⟩ = some (.int .i64 (n : Int)) ∧ b < wr.heap.size := by
  have h1 := h.stk
  have hl : (n :: S).length = m + 1 := by simp [hm]
  rw [hl] at h1
  rcases h1.2 with ⟨_, h2⟩ | ⟨g, off, cap, cur, e1, hg, q1, q2, q3, q4⟩
  · omega
  · cases e1
    refine ⟨g, off, rfl, ?_, (Array.getElem?_eq_some_iff.1 hg).1⟩
    rw [cell_of_row _ _ _ _ _ (0, 0) hg]
    refine q4 m _ ?_
    rw [List.getElem?_map, List.reverse_cons, List.getElem?_append_right (by simp [hm]), List.length_reverse, hm]
    simp

/-- a push -/
theorem ShSt.push {n : Nat} {x : T.Nd} {v' : Value} {E : TypeId} (h : ShSt W t ga res wr v5 v8 tab (n :: S) out) (ho : T.Ord t) (hx : t[n]? = some x) (hm : 0 ≤ T.miss tab x.args)
    (hown : OwnAt w' 3 1 v' (S.length + 1 + 1) (((n :: S).reverse.map fun k : Nat => Value.int .i64 (k : Int)) ++ [.int .i64 (T.miss tab x.args)])) (hgr : (wr.alloc (.cells #[.int .i64 (T.miss tab x.args)] E)).grownBy w' v8.ownBlock) (hat : v'.ownBlock = v8.ownBlock ∨ v'.ownBlock = some (wr.heap.size + 1)) :
    ShSt W t ga res w' v5 v' tab ((T.miss tab x.args).toNat :: n :: S) out ∧ shMes t tab ((T.miss tab x.args).toNat :: n :: S) < shMes t tab (n :: S) := by
  have hba : Below wr.heap.size wr (wr.alloc (.cells #[.int .i64 (T.miss tab x.args)] E)) := (Below.refl _ _).alloc (Nat.le_refl _) _
  have h2 := h.below hba
  have hgl := (Array.getElem?_eq_some_iff.1 h.row).1
  have hp := h.inv.push ho hx hm
  have hgrow : ∀ g, v8.ownBlock = some g → ∃ cur fr, (wr.alloc (.cells #[.int .i64 (T.miss tab x.args)] E)).heap[g]? = some (.cells cur 3 fr) := fun g hg => by
    rcases h2.stk.2 with ⟨rfl, _⟩ | ⟨g', off, cap, cur, rfl, hcur, _⟩
    · simp [Value.ownBlock] at hg
    · simp [Value.ownBlock] at hg
      subst hg
      exact ⟨cur, _, hcur⟩
  refine ⟨⟨h2.bel.grown hgr h2.bel.size (fun g hg => (h.stb g hg).1), hp.1, h.ga0, ?_, ?_, fun g hg => ?_, ?_⟩, ?_⟩
  · rw [hgr.block ga (by simp; omega) (fun e => (h.stb ga e.symm).2 rfl)]
    exact h2.row
  · have e : ((((T.miss tab x.args).toNat :: n :: S).reverse.map fun k : Nat => Value.int .i64 (k : Int))) = ((n :: S).reverse.map fun k : Nat => Value.int .i64 (k : Int)) ++ [.int .i64 (T.miss tab x.args)] := by
      have : ((T.miss tab x.args).toNat :: n :: S).reverse = (n :: S).reverse ++ [(T.miss tab x.args).toNat] := by simp
      rw [this, List.map_append]
      simp [Int.toNat_of_nonneg hm]
    rw [e]
    exact hown
  · rcases hat with e | e
    · rw [e] at hg; exact h.stb g hg
    · rw [e] at hg
      injection hg with hg
      have := h.bel.size
      omega
  · have h3 := h2.own.ex hgr (fun g hg => ⟨.inr hg, hgrow g hg⟩)
    rcases hat with e | e
    · rw [e]; exact h3
    · have h4 := (h2.own.re (Ex' := fun i => i = ga ∨ v8.ownBlock = some i ∨ i = wr.heap.size + 1) (fun i hi h => by
        rcases h with h | h | h
        · exact .inl h
        · exact .inr h
        · simp at hi; omega)).ex hgr (fun g hg => ⟨.inr (.inl hg), hgrow g hg⟩)
      refine h4.re fun i _ h => ?_
      rcases h with h | h
      · exact .inl h
      · rw [e] at h
        injection h with h
        exact .inr (.inr h.symm)
  · have h1 := T.asc_len hp.1.asc hp.1.lt
    unfold shMes
    simp only [List.length_cons] at h1 ⊢
    omega

/-- 'append(out, x)' of one node: the translation lays x in a new block first -/
theorem wpList_append_nodeR2 {R : World → List Value → T.Nd → Prop} {B : Nat} (hR : NdRel B R) {w : World} {ops : Array Oper} {rest : List Oper} {o : Oper} {a : Act} {Q : Exit → Act → World → Prop} (hgd : o.guard = none) (sx x : Operand)
    (ho : o.op = .call { callee := .builtin .append, args := #[sx, x], argTypes := #[22, 22] })
    (v : Value) (nds : List T.Nd) (hs : a.eval sx = v) (hown : OwnR R B w v nds) (us : List Value) (nd : T.Nd) (hnd : R w us nd) (p : Nat) (hp : p = w.heap.size)
    (hx : a.eval x = .slice (some ⟨p, 0, none⟩) 1 1) (hn : nds.length ≤ 900000) (hB : B ≤ w.heap.size)
    (h : ∀ v' w', OwnR R B w' v' (nds ++ [nd]) → (w.alloc (.cells us.toArray 62)).grownBy w' v.ownBlock → wpList Tryz.prog ops Q rest (a.put o.dst v') w') :
    wpList Tryz.prog ops Q (o :: rest) a (w.alloc (.cells us.toArray 62)) := by
  subst hp
  have hl : us.length = 5 := by obtain ⟨A, c, rfl, _⟩ := hR.form hnd; rfl
  have h1' : ∀ u ∈ us, u.oneCell' = true := by obtain ⟨A, c, rfl, _⟩ := hR.form hnd; exact ndC_one _ _ _
  have hba : Below w.heap.size w (w.alloc (.cells us.toArray 62)) := (Below.refl _ _).alloc (Nat.le_refl _) _
  obtain ⟨cells, h1, h2, h3⟩ := id hown
  have hrow := (hown.below hR hba).row
  have hcl := h1.1
  refine wpList_append_src _ hgd sx x 22 ho 62 _ 5 56 Tryz.underlying22 infoNode rfl (by decide) v nds.length cells hs (h1.below hba h1.lt) _ 1 1 us hx (by rw [hl]) (src_new w us 62) h1' (by omega) (by decide) ?_
  intro v' w' hown' hgr hat
  refine h v' w' ⟨cells ++ us, by rw [List.length_append]; exact hown', ?_, ?_⟩ hgr
  · intro k y hy
    rcases Nat.lt_or_ge k nds.length with hk | hk
    · rw [List.getElem?_append_left hk] at hy
      have e : ((cells ++ us).drop (k * 5)).take 5 = (cells.drop (k * 5)).take 5 := by
        rw [List.drop_append_of_le_length (by omega), List.take_append_of_le_length (by rw [List.length_drop]; omega)]
      rw [e]
      exact hR.grown (hR.below (h2 k y hy) hba) hgr hrow
    · rw [List.getElem?_append_right hk] at hy
      have hk0 : k = nds.length := by
        rcases Nat.eq_zero_or_pos (k - nds.length) with e | e
        · omega
        · rw [List.getElem?_eq_none (by simp; omega)] at hy; cases hy
      subst hk0
      simp at hy
      subst hy
      have e : ((cells ++ us).drop (nds.length * 5)).take 5 = us := by
        rw [← hcl, List.drop_left, List.take_of_length_le (by omega)]
      rw [e]
      exact hR.grown (hR.below hnd hba) hgr hrow
  · intro g hg
    rcases hat with e | e
    · exact h3 g (by rw [← e]; exact hg)
    · rw [e] at hg
      simp at hg
      omega

theorem own_pop (A : Option Addr) (n m c : Nat) : (Value.slice A n c).ownBlock = (Value.slice A m c).ownBlock := by cases A <;> rfl

theorem setCell_grown (w : World) (g k : Nat) (u : Value) : w.grownBy (w.setCell ⟨g, k, none⟩ u) (some g) :=
  ⟨rfl, rfl, rfl, by simp, fun i _ hn => heap_setCell_other _ _ _ _ (fun e => hn (by rw [e]))⟩

theorem tab_set (tab : List Int) (n : Nat) (v : Int) : ((tab.map (Value.int .i64)).toArray.setIfInBounds n (.int .i64 v)) = ((tab.set n v).map (Value.int .i64)).toArray := by
  rw [List.setIfInBounds_toArray, List.map_set]

/-- what is told of a node -/
def toldNd (tab : List Int) (x : T.Nd) : T.Nd := ⟨x.op, x.w, x.fl, x.args.map fun a => tab.getD a.toNat 0, x.imm⟩

/-- the popped state, before the table is set -/
theorem ShSt.set (h : ShSt W t ga res wr v5 v8 tab S out) (k : Nat) (u : Value) : OwnR (NdX W.heap.size (fun i => i = ga ∨ v8.ownBlock = some i)) W.heap.size (wr.setCell ⟨ga, k, none⟩ u) v5 out ∧ Below W.heap.size W (wr.setCell ⟨ga, k, none⟩ u) ∧ (wr.setCell ⟨ga, k, none⟩ u).heap[ga]? = some (.cells ((tab.map (Value.int .i64)).toArray.setIfInBounds k u) 3 (0, 0)) ∧ OwnAt (wr.setCell ⟨ga, k, none⟩ u) 3 1 v8 S.length (S.reverse.map fun k : Nat => Value.int .i64 (k : Int)) := by
  refine ⟨h.own.ex (setCell_grown wr ga k u) (fun g hg => ?_), h.bel.setCell (p := ⟨ga, k, none⟩) h.ga0 _, heap_setCell_same _ _ _ _ _ _ h.row, h.stk.setCell (p := ⟨ga, k, none⟩) (fun e => (h.stb ga e).2 rfl) _⟩
  injection hg with hg
  subst hg
  exact ⟨.inl rfl, _, _, h.row⟩

theorem ShSt.mes {n : Nat} (h : ShSt W t ga res wr v5 v8 tab (n :: S) out) {tab' : List Int} (hc : T.untold tab' + 1 = T.untold tab) : shMes t tab' S < shMes t tab (n :: S) := by
  unfold shMes
  rw [← hc, Nat.add_mul]
  simp only [List.length_cons]
  omega

theorem ShSt.found {A : Option Addr} {c m n : Nat} {x : T.Nd} (h : ShSt W t ga res wr v5 (.slice A (m + 1) c) tab (n :: S) out) (hm : S.length = m) (ho : T.Ord t) (hx : t[n]? = some x) (ht : ∀ a ∈ x.args, 0 ≤ tab.getD a.toNat 0) (hy : toldNd tab x ∈ out) :
    ShSt W t ga res (wr.setCell ⟨ga, n, none⟩ (.int .i64 (out.idxOf (toldNd tab x) : Int))) v5 (.slice A m c) (tab.set n (out.idxOf (toldNd tab x) : Int)) S out ∧ shMes t (tab.set n (out.idxOf (toldNd tab x) : Int)) S < shMes t tab (n :: S) := by
  obtain ⟨p1, p2⟩ := h.inv.pop ho hx ht
  have e : T.addN out (toldNd tab x) = (out, (out.idxOf (toldNd tab x) : Int)) := by unfold T.addN; rw [if_pos hy]
  rw [show (⟨x.op, x.w, x.fl, x.args.map fun a => tab.getD a.toNat 0, x.imm⟩ : T.Nd) = toldNd tab x from rfl, e] at p1 p2
  obtain ⟨s1, s2, s3, s4⟩ := h.set n (.int .i64 (out.idxOf (toldNd tab x) : Int))
  refine ⟨⟨s2, p1, h.ga0, ?_, ?_, fun g hg => h.stb g (by rw [own_pop A (m + 1) m]; exact hg), ?_⟩, h.mes p2⟩
  · rw [s3, tab_set]
  · have hl : (n :: S).length = m + 1 := by simp [hm]
    rw [hl] at s4
    have := s4.pop
    rw [hm]
    have e2 : (((n :: S).reverse.map fun k : Nat => Value.int .i64 (k : Int)).take m) = S.reverse.map fun k : Nat => Value.int .i64 (k : Int) := by
      rw [List.reverse_cons, List.map_append, List.take_append_of_le_length (by simp [hm]), List.take_of_length_le (by simp [hm])]
    rw [e2] at this
    exact this
  · rw [own_pop A m (m + 1)]; exact s1

theorem ShSt.fresh {A A2 : Option Addr} {c c2 m n : Nat} {x : T.Nd} {v' : Value} (h : ShSt W t ga res wr v5 (.slice A (m + 1) c) tab (n :: S) out) (hm : S.length = m) (ho : T.Ord t) (hx : t[n]? = some x) (ht : ∀ a ∈ x.args, 0 ≤ tab.getD a.toNat 0) (hy : toldNd tab x ∉ out)
    (hown : OwnR (NdX W.heap.size (fun i => i = ga ∨ (Value.slice A (m + 1) c).ownBlock = some i)) W.heap.size w' v' (out ++ [toldNd tab x])) (hgr : ((wr.setCell ⟨ga, n, none⟩ (.int .i64 (out.length : Int))).alloc (.cells (ndC (toldNd tab x) A2 c2).toArray 62)).grownBy w' v5.ownBlock) :
    ShSt W t ga res w' v' (.slice A m c) (tab.set n (out.length : Int)) S (out ++ [toldNd tab x]) ∧ shMes t (tab.set n (out.length : Int)) S < shMes t tab (n :: S) := by
  obtain ⟨p1, p2⟩ := h.inv.pop ho hx ht
  have e : T.addN out (toldNd tab x) = (out ++ [toldNd tab x], (out.length : Int)) := by
    unfold T.addN
    rw [if_neg hy, List.idxOf_eq_length hy]
  rw [show (⟨x.op, x.w, x.fl, x.args.map fun a => tab.getD a.toNat 0, x.imm⟩ : T.Nd) = toldNd tab x from rfl, e] at p1 p2
  obtain ⟨s1, s2, s3, s4⟩ := h.set n (.int .i64 (out.length : Int))
  generalize wr.setCell ⟨ga, n, none⟩ (.int .i64 (out.length : Int)) = Y at *
  have hba : Below Y.heap.size Y (Y.alloc (.cells (ndC (toldNd tab x) A2 c2).toArray 62)) := (Below.refl _ _).alloc (Nat.le_refl _) _
  have hrow5 := (s1.below (ndX_rel _ _) hba).row
  have hne : ∀ g cur, (Y.alloc (.cells (ndC (toldNd tab x) A2 c2).toArray 62)).heap[g]? = some (.cells cur 3 (0, 0)) → v5.ownBlock ≠ some g := fun g cur hc e => by
    obtain ⟨_, cur', fr, hc'⟩ := hrow5 g e
    rw [hc] at hc'
    injection hc' with hc'
    injection hc' with _ hc' _
    revert hc'
    decide
  have hga := (hba.block _ (Array.getElem?_eq_some_iff.1 s3).1).trans s3
  refine ⟨⟨(s2.trans (hba.mono s2.size)).grown hgr (Nat.le_trans s2.size hba.size) (fun g hg => (hrow5 g hg).1), p1, h.ga0, ?_, ?_, fun g hg => h.stb g (by rw [own_pop A (m + 1) m]; exact hg), ?_⟩, h.mes p2⟩
  · rw [hgr.block ga (Array.getElem?_eq_some_iff.1 hga).1 (fun e => hne ga _ hga e.symm), hga, tab_set]
  · have hl : (n :: S).length = m + 1 := by simp [hm]
    rw [hl] at s4
    have hp := (s4.below hba s4.lt)
    have hp2 := hp.same (w' := w') (fun g hg => hgr.block g (hp.lt g hg) (fun e => by
      rcases hp.2 with ⟨_, h2⟩ | ⟨g', off, cap, cur, e1, hcur, _⟩
      · omega
      · rw [e1] at hg
        simp [Value.ownBlock] at hg
        subst hg
        exact hne g' _ hcur e.symm))
    have := hp2.pop
    rw [hm]
    have e2 : (((n :: S).reverse.map fun k : Nat => Value.int .i64 (k : Int)).take m) = S.reverse.map fun k : Nat => Value.int .i64 (k : Int) := by
      rw [List.reverse_cons, List.map_append, List.take_append_of_le_length (by simp [hm]), List.take_of_length_le (by simp [hm])]
    rw [e2] at this
    exact this
  · rw [own_pop A m (m + 1)]; exact hown
end
end Go.Proofs.YtbiopedpceddeaaGreatDoor
