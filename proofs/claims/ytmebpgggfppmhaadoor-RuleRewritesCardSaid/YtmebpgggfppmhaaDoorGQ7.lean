/- Rules: copies of nodes whose operands lie in blocks of their own. -/
import Derived.Test.YtmebpgggfppmhaaDoorGQ5
import Derived.Test.YtmebpgggfppmhaaDoorGQ6
set_option linter.unusedVariables false
set_option linter.unusedSimpArgs false
section
namespace Go.Proofs.YtmebpgggfppmhaaDoor
open Go.RowKit
set_option linter.unusedVariables false
set_option linter.unusedSimpArgs false

/-- nodes in memory of the call's own, a relation for each place -/
def OwnI (R : Nat → World → List Value → T.Nd → Prop) (B : Nat) (w : World) (v : Value) (nds : List T.Nd) : Prop :=
  ∃ cells, OwnAt w 41 5 v nds.length cells ∧ (∀ (k : Nat) (x : T.Nd), nds[k]? = some x → R k w ((cells.drop (k * 5)).take 5) x) ∧ ∀ g, v.ownBlock = some g → B ≤ g
section
variable {R R' : Nat → World → List Value → T.Nd → Prop} {B : Nat} {w w' : World} {v : Value} {nds : List T.Nd}
theorem OwnI.nil_ (R : Nat → World → List Value → T.Nd → Prop) (B : Nat) (w : World) : OwnI R B w (.slice none 0 0) [] := ⟨[], OwnAt.nil_ _ _ _, fun k x h => by simp at h, fun g h => by simp [Value.ownBlock] at h⟩
theorem OwnI.form (h : OwnI R B w v nds) : ∃ A c, v = .slice A nds.length c := by
  obtain ⟨cells, h1, _⟩ := h
  exact h1.form
theorem OwnI.below (hR : ∀ k, NdRel B (R k)) (h : OwnI R B w v nds) (hb : Below w.heap.size w w') : OwnI R B w' v nds := by
  obtain ⟨cells, h1, h2, h3⟩ := h
  exact ⟨cells, h1.below hb h1.lt, fun k x hx => (hR k).below (h2 k x hx) hb, h3⟩
theorem OwnI.congr (h : OwnI R B w v nds) (hc : ∀ k, k < nds.length → ∀ w us y, R k w us y → R' k w us y) : OwnI R' B w v nds := by
  obtain ⟨cells, h1, h2, h3⟩ := h
  exact ⟨cells, h1, fun k x hx => hc k (List.getElem?_eq_some_iff.1 hx).1 _ _ _ (h2 k x hx), h3⟩
theorem OwnI.row (h : OwnI R B w v nds) : ∀ g, v.ownBlock = some g → B ≤ g ∧ ∃ cur fr, w.heap[g]? = some (.cells cur 41 fr) := by
  obtain ⟨cells, h1, h2, h3⟩ := h
  intro g hg
  refine ⟨h3 g hg, ?_⟩
  rcases h1.2 with ⟨rfl, _⟩ | ⟨g', off, cap, cur, rfl, hcur, _⟩
  · simp [Value.ownBlock] at hg
  · simp [Value.ownBlock] at hg
    subst hg
    exact ⟨cur, _, hcur⟩
end

/-- 'append(out, x)' of one node: the translation lays x in a new block first -/
theorem wpList_append_nodeI {R : Nat → World → List Value → T.Nd → Prop} {B : Nat} (hR : ∀ k, NdRel B (R k)) {w : World} {ops : Array Oper} {rest : List Oper} {o : Oper} {a : Act} {Q : Exit → Act → World → Prop} (hgd : o.guard = none) (sx x : Operand)
    (ho : o.op = .call { callee := .builtin .append, args := #[sx, x], argTypes := #[22, 22] })
    (v : Value) (nds : List T.Nd) (hs : a.eval sx = v) (hown : OwnI R B w v nds) (us : List Value) (nd : T.Nd) (hnd : R nds.length w us nd) (p : Nat) (hp : p = w.heap.size)
    (hx : a.eval x = .slice (some ⟨p, 0, none⟩) 1 1) (hn : nds.length ≤ 900000) (hB : B ≤ w.heap.size)
    (h : ∀ v' w', OwnI R B w' v' (nds ++ [nd]) → (∀ w0, Below B w0 w → Below B w0 w') → wpList Tryd.prog ops Q rest (a.put o.dst v') w') :
    wpList Tryd.prog ops Q (o :: rest) a (w.alloc (.cells us.toArray 41)) := by
  subst hp
  have hl : us.length = 5 := by obtain ⟨A, c, rfl, _⟩ := (hR _).form hnd; rfl
  have h1' : ∀ u ∈ us, u.oneCell' = true := by obtain ⟨A, c, rfl, _⟩ := (hR _).form hnd; exact ndC_one _ _ _
  have hba : Below w.heap.size w (w.alloc (.cells us.toArray 41)) := (Below.refl _ _).alloc (Nat.le_refl _) _
  obtain ⟨cells, h1, h2, h3⟩ := id hown
  have hrow := (hown.below hR hba).row
  have hcl := h1.1
  refine wpList_append_src _ hgd sx x 22 ho 41 _ 5 56 Tryd.underlying22 infoNode rfl (by decide) v nds.length cells hs (h1.below hba h1.lt) _ 1 1 us hx (by rw [hl]) (src_new w us 41) h1' (by omega) (by decide) ?_
  intro v' w' hown' hgr hat
  refine h v' w' ⟨cells ++ us, by rw [List.length_append]; exact hown', ?_, ?_⟩ ?_
  · intro k y hy
    rcases Nat.lt_or_ge k nds.length with hk | hk
    · rw [List.getElem?_append_left hk] at hy
      have e : ((cells ++ us).drop (k * 5)).take 5 = (cells.drop (k * 5)).take 5 := by
        rw [List.drop_append_of_le_length (by omega), List.take_append_of_le_length (by rw [List.length_drop]; omega)]
      rw [e]
      exact (hR k).grown ((hR k).below (h2 k y hy) hba) hgr hrow
    · rw [List.getElem?_append_right hk] at hy
      have hk0 : k = nds.length := by
        rcases Nat.eq_zero_or_pos (k - nds.length) with e | e
        · omega
        · rw [List.getElem?_eq_none (by simp; omega)] at hy; cases hy
      subst hk0
      simp at hy
      subst hy
      have e : ((cells ++ us).drop (nds.length * 5)).take 5 = us := by
        rw [← hcl, List.drop_left, List.take_of_length_le (by omega)]
      rw [e]
      exact (hR _).grown ((hR _).below hnd hba) hgr hrow
  · intro g hg
    rcases hat with e | e
    · exact h3 g (by rw [← e]; exact hg)
    · rw [e] at hg
      simp at hg
      omega
  · intro w0 hw0
    exact (hw0.alloc hB _).grown hgr (by simp; omega) h3


/-- a node in new memory; its operands lie in block b -/
def NdB (b : Option Nat) (B : Nat) (w : World) (us : List Value) (x : T.Nd) : Prop :=
  ∃ A c, us = ndC x A c ∧ OwnAt w 3 1 (.slice A x.args.length c) x.args.length (x.args.map (Value.int .i64)) ∧ 0 ≤ x.imm ∧ x.imm < 4294967296 ∧ (Value.slice A x.args.length c).ownBlock = b ∧ ∀ g, b = some g → B ≤ g
theorem ndB_rel (b : Option Nat) (B : Nat) : NdRel B (NdB b B) := by
  constructor
  · rintro w us x ⟨A, c, h1, h2, h3, h4, _⟩
    exact ⟨A, c, h1, h2.slInts, h3, h4⟩
  · rintro w w' us x ⟨A, c, h1, h2, h3, h4, h5⟩ hb
    exact ⟨A, c, h1, h2.below hb h2.lt, h3, h4, h5⟩
  · rintro w w' us x row ⟨A, c, h1, h2, h3, h4, h5⟩ hg hr
    refine ⟨A, c, h1, h2.kept hg ?_, h3, h4, h5⟩
    rcases e : (Value.slice A x.args.length c).ownBlock with _ | g
    · exact .inl rfl
    · refine .inr fun e' => ?_
      obtain ⟨_, cur, fr, hc⟩ := hr g e'.symm
      rcases h2.2 with ⟨e1, _⟩ | ⟨g', off, cap, cur', e1, hc', _⟩
      · rw [e1] at e; simp [Value.ownBlock] at e
      · rw [e1] at e
        simp [Value.ownBlock] at e
        subst e
        rw [hc] at hc'
        injection hc' with hc'
        injection hc' with _ hc' _
        revert hc'
        decide
/-- the blocks differ -/
def SepB (bs : Nat → Option Nat) (n : Nat) : Prop := ∀ i k, i < n → k < n → i ≠ k → bs i = none ∨ bs i ≠ bs k
theorem SepB.snoc {bs : Nat → Option Nat} {n lim : Nat} {b : Option Nat} (h : SepB bs n) (h1 : ∀ k g, k < n → bs k = some g → g < lim) (h2 : ∀ g, b = some g → lim ≤ g) : SepB (fun k => if k = n then b else bs k) (n + 1) := by
  intro i k hi hk hne
  dsimp only
  by_cases e1 : i = n
  · subst e1
    rw [if_pos rfl, if_neg (by omega)]
    cases hb : b with
    | none => exact .inl rfl
    | some g =>
      refine .inr fun e => ?_
      have := h1 k g (by omega) e.symm
      have := h2 g hb
      omega
  · rw [if_neg e1]
    by_cases e2 : k = n
    · subst e2
      rw [if_pos rfl]
      cases hb : bs i with
      | none => exact .inl rfl
      | some g =>
        refine .inr fun e => ?_
        have := h1 i g (by omega) hb
        have := h2 g e.symm
        omega
    · rw [if_neg e2]
      exact h i k (by omega) (by omega) hne
theorem OwnI.blk {bs : Nat → Option Nat} {B k g : Nat} {w : World} {v : Value} {nds : List T.Nd} (h : OwnI (fun k => NdB (bs k) B) B w v nds) (hg : bs k = some g) (hk : k < nds.length) : g < w.heap.size := by
  obtain ⟨cells, h1, h2, h3⟩ := h
  obtain ⟨A, c, _, q2, _, _, q5, _⟩ := h2 k _ (List.getElem?_eq_getElem hk)
  exact q2.lt g (q5.trans hg)
theorem OwnI.toF {bs : Nat → Option Nat} {B : Nat} {w : World} {v : Value} {nds : List T.Nd} (h : OwnI (fun k => NdB (bs k) B) B w v nds) : OwnR (NdF B) B w v nds := by
  obtain ⟨cells, h1, h2, h3⟩ := h
  refine ⟨cells, h1, fun k x hx => ?_, h3⟩
  obtain ⟨A, c, q1, q2, q3, q4, q5, q6⟩ := h2 k x hx
  exact ⟨A, c, q1, q2, q3, q4, fun g hg => q6 g (q5.symm.trans hg)⟩

set_option maxRecDepth 100000 in
set_option maxHeartbeats 2000000 in
theorem CopyApart_any {t : List T.Nd} {n ct : Nat} {At : Option Addr} {W : World} (hT : StAt 5 NdR W At n t) (hn : n ≤ 900000) (ha : ∀ x ∈ t, x.args.length ≤ 900000) :
    Calls Tryd.prog 48 #[.slice At n ct] W fun e W' => ∃ v bs, e = .returned v ∧ OwnI (fun k => NdB (bs k) W.heap.size) W.heap.size W' v t ∧ SepB bs t.length ∧ Below W.heap.size W W' := by
  have hl := hT.len
  have HT := Lib.hid hT
  have Ha := Lib.hid ha
  have Hl := Lib.hid hl
  clear hT ha hl
  go_enter Tryd.func48, Tryd.ntmps48
  go_wp2
  go_loopg [4, 3] (n + 1) (fun gg i v wr => ∃ (j : Nat), j ≤ n ∧ i = .int .i64 (j : Int) ∧ gg + j = n + 1 ∧ Hid (Below W.heap.size W wr) ∧ ∃ bs : Nat → Option Nat, Hid (OwnI (fun k => NdB (bs k) W.heap.size) W.heap.size wr v (t.take j)) ∧ Hid (SepB bs j))
  case atStart => exact ⟨0, Nat.zero_le _, rfl, rfl, Lib.hid (Below.refl _ _), fun _ => none, Lib.hid (OwnI.nil_ _ _ _), Lib.hid (fun i k hi => by omega)⟩
  case round =>
    obtain ⟨j, hj, rfl, hgk, Hbw, bs, Hown, Hsep⟩ := hrel
    have Hgk := Lib.hid hgk; clear hgk
    obtain ⟨Av, cv, hv⟩ := Hown.out.form
    have hlj : (t.take j).length = j := by rw [List.length_take, Hl.out]; omega
    rw [hlj] at hv
    subst hv
    by_cases hjn : j < n
    · obtain ⟨x, b, off, A, c, hx, rfl, hb, h0, h1, h2, h3, h4, hs, i0, i1⟩ := nd_cells HT.out hjn
      have hbel := Hbw.out
      have k0 := (hbel.cell (p := ⟨b, off + j * 5, none⟩) hb).trans h0
      have k1 := (hbel.cell (p := ⟨b, off + j * 5 + 1, none⟩) hb).trans h1
      have k2 := (hbel.cell (p := ⟨b, off + j * 5 + 2, none⟩) hb).trans h2
      have k3 := (hbel.cell (p := ⟨b, off + j * 5 + 3, none⟩) hb).trans h3
      have k4 := (hbel.cell (p := ⟨b, off + j * 5 + 4, none⟩) hb).trans h4
      obtain ⟨w1, hw1⟩ : ∃ w1, w1 = wr.alloc (.cells #[.int .i64 x.op, .int .i64 x.w, .int .i64 x.fl, .slice A x.args.length c, .int .u32 x.imm] 41) := ⟨_, rfl⟩
      have hb1 : Below wr.heap.size wr w1 := by rw [hw1]; exact (Below.refl _ _).alloc (Nat.le_refl _) _
      have hr1 : w1.heap[wr.heap.size]? = some (.cells #[.int .i64 x.op, .int .i64 x.w, .int .i64 x.fl, .slice A x.args.length c, .int .u32 x.imm] 41 (0, 0)) := by rw [hw1]; exact heap_alloc_new wr _
      have Hsz1 := Lib.hid (show w1.heap.size = wr.heap.size + 1 from by rw [hw1]; simp)
      obtain ⟨w2, hw2⟩ : ∃ w2, w2 = w1.alloc (.cells #[] 3) := ⟨_, rfl⟩
      have hb12 : Below w1.heap.size w1 w2 := by rw [hw2]; exact (Below.refl _ _).alloc (Nat.le_refl _) _
      have hb2 : Below wr.heap.size wr w2 := hb1.trans (hb12.mono (by rw [Hsz1.out]; omega))
      have hr2 : w2.heap[wr.heap.size]? = some (.cells #[.int .i64 x.op, .int .i64 x.w, .int .i64 x.fl, .slice A x.args.length c, .int .u32 x.imm] 41 (0, 0)) := (hb12.block _ (by rw [Hsz1.out]; omega)).trans hr1
      obtain ⟨q1, q2, q3⟩ := sl_src ((hs.below (monoInt _) hbel).below (monoInt _) hb2)
      have Q1 := Lib.hid q1
      have Q2 := Lib.hid q2
      have Q3 := Lib.hid q3
      have HE := Lib.hid (show OwnAt w2 3 1 (.slice (some ⟨wr.heap.size + 1, 0, none⟩) 0 0) 0 [] from by rw [hw2, ← Hsz1.out]; exact ownAt_empty w1 3 1)
      have Hx := Lib.hid hx
      have Hi := Lib.hid (show 0 ≤ x.imm ∧ x.imm < 4294967296 from ⟨i0, i1⟩)
      have Hr2 := Lib.hid hr2
      have Hb2 := Lib.hid hb2
      have Hb12 := Lib.hid hb12
      have hal : 0 + x.args.length ≤ 1000000000 := by have := Ha.out x (List.mem_of_getElem? hx); omega
      have n3 : w1.cell? ⟨wr.heap.size, 3, none⟩ = some (.slice A x.args.length c) := by rw [cell_of_row _ _ _ _ _ (0, 0) hr1]; rfl
      have n3' : w2.cell? ⟨wr.heap.size, 3, none⟩ = some (.slice A x.args.length c) := by rw [cell_of_row _ _ _ _ _ (0, 0) hr2]; rfl
      have Hsz2 := Lib.hid (show w2.heap.size = wr.heap.size + 2 from by rw [hw2]; simp [Hsz1.out])
      have HW1 := Lib.hid hw1
      have HW2 := Lib.hid hw2
      rw [hw2, hw1] at n3'
      rw [hw1] at n3
      clear hx h0 h1 h2 h3 h4 hb hs i0 i1 hbel hb1 hr1 hr2 hb2 hb12 q1 q2 q3 hw1 hw2
      have hsW := Hbw.out.size
      go_wp2_with (first
        | (at_builtin
           rw [← HW1.out, ← HW2.out]
           clear n3 n3' k0 k1 k2 k3 k4
           refine wpList_append_src _ rfl (.tmp 16) (.tmp 18) 38 rfl 3 (.int .i64 0) 1 8 Tryd.underlying38 infoI rfl (by decide) (.slice (some ⟨wr.heap.size + 1, 0, none⟩) 0 0) 0 [] rfl HE.out A x.args.length c (x.args.map (Value.int .i64)) rfl Q1.out Q2.out Q3.out hal (by decide) ?_
           intro v' w3 hown' hgr hat
           rw [Nat.zero_add, List.nil_append] at hown'
           (obtain ⟨A2, c2, rfl⟩ := hown'.form)
           have hr3 : w3.heap[wr.heap.size]? = some (.cells #[.int .i64 x.op, .int .i64 x.w, .int .i64 x.fl, .slice A x.args.length c, .int .u32 x.imm] 41 (0, 0)) := (hgr.block _ (by rw [Hsz2.out]; omega) (fun e => by simp [Value.ownBlock] at e)).trans Hr2.out
           have n3 : w3.cell? ⟨wr.heap.size, 3, none⟩ = some (.slice A x.args.length c) := (by rw [cell_of_row _ _ _ _ _ (0, 0) hr3]; rfl)
           have nf : w3.frozen? ⟨wr.heap.size, 3, none⟩ = false := frozen_row hr3 _
           have hr4 := heap_setCell_same w3 wr.heap.size 3 _ _ (.slice A2 x.args.length c2) hr3
           (obtain ⟨m0, m1, m2, m3, m4⟩ := nd5_cells (show (w3.setCell ⟨wr.heap.size, 3, none⟩ (.slice A2 x.args.length c2)).heap[wr.heap.size]? = some (.cells #[.int .i64 x.op, .int .i64 x.w, .int .i64 x.fl, .slice A2 x.args.length c2, .int .u32 x.imm] 41 (0, 0)) from hr4))
           have hsz2 := Hsz2.out
           have hb23 : Below wr.heap.size wr w3 := Hb2.out.grown hgr Hb2.out.size (fun g hg => by simp [Value.ownBlock] at hg; omega)
           have hB3 : Below wr.heap.size wr (w3.setCell ⟨wr.heap.size, 3, none⟩ (.slice A2 x.args.length c2)) := hb23.setCell (p := ⟨wr.heap.size, 3, none⟩) (Nat.le_refl _) _
           have hv2 : ∀ g, (Value.slice A2 x.args.length c2).ownBlock = some g → wr.heap.size + 1 ≤ g := (fun g hg => by
             rcases hat with e | e
             · rw [e] at hg; simp [Value.ownBlock] at hg; omega
             · rw [e] at hg; injection hg with hg; omega)
           obtain ⟨nb, hnb⟩ : ∃ nb, (Value.slice A2 x.args.length c2).ownBlock = nb := ⟨_, rfl⟩
           have Hnd := Lib.hid (show NdB nb W.heap.size (w3.setCell ⟨wr.heap.size, 3, none⟩ (.slice A2 x.args.length c2)) (ndC x A2 c2) x from (by
             refine ⟨A2, c2, rfl, hown'.setCell (p := ⟨wr.heap.size, 3, none⟩) (fun e => ?_) _, Hi.out.1, Hi.out.2, hnb, fun g hg => ?_⟩
             · have := hv2 _ e
               simp only at this
               omega
             · rw [← hnb] at hg
               have := hv2 g hg
               omega))
           have Hsep3 := Lib.hid (show SepB (fun k => if k = j then nb else bs k) (j + 1) from Hsep.out.snoc (fun k g hk hg => Hown.out.blk hg (by rw [List.length_take, Hl.out]; omega)) (fun g hg => by
             rw [← hnb] at hg
             have := hv2 g hg
             omega))
           have Hown3 := Lib.hid (show OwnI (fun k => NdB (if k = j then nb else bs k) W.heap.size) W.heap.size (w3.setCell ⟨wr.heap.size, 3, none⟩ (.slice A2 x.args.length c2)) _ (t.take j) from (Hown.out.below (fun k => ndB_rel _ _) hB3).congr (fun k hk w us y h => by
             have hkj : k < j := by rw [List.length_take, Hl.out] at hk; omega
             rw [if_neg (by omega)]; exact h))
           have Hlj3 := Lib.hid (show (t.take j).length = j from by rw [List.length_take, Hl.out]; omega)
           have HB3 := Lib.hid (Hbw.out.trans (hB3.mono hsW))
           have hsz3 : W.heap.size ≤ (w3.setCell ⟨wr.heap.size, 3, none⟩ (.slice A2 x.args.length c2)).heap.size := HB3.out.size
           clear hown' hgr hat hr3 hr4 hsz2 hb23 hB3 hv2 hnb)
        | (at_builtin
           refine wpList_append_nodeI (fun k => ndB_rel _ W.heap.size) rfl (.tmp 21) (.tmp 23) rfl _ (t.take j) rfl Hown3.out (ndC x A2 c2) x (by rw [Hlj3.out, if_pos rfl]; exact Hnd.out) _ (by simp) rfl (by omega) (by assumption) ?_
           intro v' w5 hown' hbel'
           have Hown5 := Lib.hid hown'
           have Hb5 := Lib.hid (hbel' _ (by assumption : Hid (Below W.heap.size W _)).out)
           clear hown' hbel'))
      go_roundg (gk - 1)
      case measure => have := Hgk.out; omega
      case rel =>
        have := Hgk.out
        exact ⟨j + 1, by omega, by go_num, by omega, Hb5, _, Lib.hid (by rw [take_next Hx.out]; exact Hown5.out), Hsep3⟩
    · obtain rfl : j = n := by omega
      have e : t.take j = t := List.take_of_length_le (by rw [Hl.out]; exact Nat.le_refl _)
      rw [e] at Hown
      go_wp2
      go_ret
      exact ⟨_, bs, rfl, Hown.out, by rw [Hl.out]; exact Hsep.out, Hbw.out⟩
end Go.Proofs.YtmebpgggfppmhaaDoor
end
section
namespace Go.Proofs.YtmebpgggfppmhaaDoor
open Go.RowKit
set_option linter.unusedVariables false
set_option linter.unusedSimpArgs false

namespace R
/-- a node whose operands stand further on -/
def ov (b : Int) (x : T.Nd) : T.Nd := ⟨x.op, x.w, x.fl, x.args.map (· + b), x.imm⟩
/-- with the first q operands put -/
def ovq (b : Int) (q : Nat) (x : T.Nd) : T.Nd := ⟨x.op, x.w, x.fl, (x.args.take q).map (· + b) ++ x.args.drop q, x.imm⟩
theorem ovq_zero (b : Int) (x : T.Nd) : ovq b 0 x = x := by unfold ovq; simp
theorem ovq_end {b : Int} {q : Nat} {x : T.Nd} (h : x.args.length ≤ q) : ovq b q x = ov b x := by
  unfold ovq ov
  rw [List.take_of_length_le h, List.drop_of_length_le h, List.append_nil]
theorem ovq_len (b : Int) (q : Nat) (x : T.Nd) : (ovq b q x).args.length = x.args.length := by
  unfold ovq
  simp
  omega
theorem ovq_at {b : Int} {q : Nat} {x : T.Nd} {a : Int} (h : x.args[q]? = some a) : (ovq b q x).args[q]? = some a := by
  have hq := (List.getElem?_eq_some_iff.1 h).1
  unfold ovq
  dsimp only
  rw [List.getElem?_append_right (by simp; omega), List.length_map, List.length_take, Nat.min_eq_left (by omega), Nat.sub_self, List.getElem?_drop, Nat.add_zero]
  exact h
theorem ovq_next {b : Int} {q : Nat} {x : T.Nd} {a : Int} (h : x.args[q]? = some a) : (⟨(ovq b q x).op, (ovq b q x).w, (ovq b q x).fl, (ovq b q x).args.set q (a + b), (ovq b q x).imm⟩ : T.Nd) = ovq b (q + 1) x := by
  have hq := (List.getElem?_eq_some_iff.1 h).1
  have hv := (List.getElem?_eq_some_iff.1 h).2
  unfold ovq
  dsimp only
  congr 1
  rw [List.set_append_right _ _ (by simp; omega), List.length_map, List.length_take, Nat.min_eq_left (by omega), Nat.sub_self, List.drop_eq_getElem_cons hq, List.set_cons_zero, take_next h, List.map_append, List.append_assoc]
  rfl
end R

theorem OwnI.at_ {bs : Nat → Option Nat} {B n c k : Nat} {A : Option Addr} {w : World} {nds : List T.Nd} (h : OwnI (fun k => NdB (bs k) B) B w (.slice A n c) nds) (hn : nds.length = n) (hk : k < n) :
    ∃ x g off A2 c2, nds[k]? = some x ∧ A = some ⟨g, off, none⟩ ∧ w.cell? ⟨g, off + k * 5 + 3, none⟩ = some (.slice A2 x.args.length c2) ∧ NdB (bs k) B w (ndC x A2 c2) x := by
  subst hn
  obtain ⟨cells, h1, h2, h3⟩ := h
  rcases h1.2 with ⟨e, h0⟩ | ⟨g, off, cap, cur, e, hg, q1, q2, q3, q4⟩
  · omega
  cases e
  have hx : nds[k]? = some nds[k] := List.getElem?_eq_getElem hk
  obtain ⟨A2, c2, e1, r⟩ := h2 k _ hx
  refine ⟨nds[k], g, off, A2, c2, hx, rfl, ?_, A2, c2, rfl, r⟩
  rw [cell_of_row _ _ _ _ _ (0, 0) hg]
  have h3' : ((cells.drop (k * 5)).take 5)[3]? = some (.slice A2 nds[k].args.length c2) := by rw [e1]; rfl
  rw [List.getElem?_take, if_pos (by omega), List.getElem?_drop] at h3'
  have := q4 _ _ h3'
  rwa [← Nat.add_assoc] at this

theorem OwnI.setArg {bs : Nat → Option Nat} {B n c k q g off g2 off2 c2 : Nat} {w : World} {nds : List T.Nd} {x : T.Nd} (h : OwnI (fun k => NdB (bs k) B) B w (.slice (some ⟨g, off, none⟩) n c) nds) (hn : nds.length = n) (hsep : SepB bs n) (hk : k < n) (hx : nds[k]? = some x) (hd : w.cell? ⟨g, off + k * 5 + 3, none⟩ = some (.slice (some ⟨g2, off2, none⟩) x.args.length c2)) (hq : q < x.args.length) (z : Int) :
    OwnI (fun k => NdB (bs k) B) B (w.setCell ⟨g2, off2 + q, none⟩ (.int .i64 z)) (.slice (some ⟨g, off, none⟩) n c) (nds.set k ⟨x.op, x.w, x.fl, x.args.set q z, x.imm⟩) := by
  subst hn
  obtain ⟨cells, h1, h2, h3⟩ := h
  rcases h1.2 with ⟨e, h0⟩ | ⟨g', off', cap, cur, e, hg, q1, q2, q3, q4⟩
  · cases e
  cases e
  obtain ⟨A', c', e1, own, i0, i1, hbk, hB⟩ := h2 k x hx
  have e2 : w.cell? ⟨g, off + k * 5 + 3, none⟩ = some (.slice A' x.args.length c') := by
    rw [cell_of_row _ _ _ _ _ (0, 0) hg]
    have h3' : ((cells.drop (k * 5)).take 5)[3]? = some (.slice A' x.args.length c') := by rw [e1]; rfl
    rw [List.getElem?_take, if_pos (by omega), List.getElem?_drop] at h3'
    have := q4 _ _ h3'
    rwa [← Nat.add_assoc] at this
  rw [hd] at e2
  injection e2 with e2
  injection e2 with e3 _ e4
  subst e3 e4
  rcases own.2 with ⟨_, h0⟩ | ⟨g3, off3, cap3, cur3, e5, hg3, p1, p2, p3, p4⟩
  · omega
  cases e5
  have hgne : g ≠ g2 := fun e => by
    subst e
    rw [hg] at hg3
    injection hg3 with hg3
    injection hg3 with _ hg3 _
    revert hg3
    decide
  have hbk' : bs k = some g2 := by rw [← hbk]; rfl
  refine ⟨cells, ?_, fun i y hy => ?_, h3⟩
  · rw [List.length_set]
    exact h1.setCell (p := ⟨g2, off2 + q, none⟩) (by simp [Value.ownBlock]; exact hgne) _
  · by_cases hik : i = k
    · subst hik
      rw [List.getElem?_set, if_pos rfl, if_pos hk] at hy
      cases hy
      refine ⟨some ⟨g2, off2, none⟩, c2, ?_, ?_, i0, i1, ?_, hB⟩
      · rw [e1]
        unfold ndC
        simp
      · have hlen := own.1
        have hl : (x.args.set q z).length = x.args.length := List.length_set
        dsimp only
        rw [hl]
        refine ⟨by simp, .inr ⟨g2, off2, c2, _, rfl, heap_setCell_same w g2 (off2 + q) _ _ (.int .i64 z) hg3, p1, p2, by simpa using p3, fun j u hu => ?_⟩⟩
        rw [Array.getElem?_setIfInBounds]
        rw [List.getElem?_map, List.getElem?_set] at hu
        by_cases hqj : q = j
        · subst hqj
          rw [if_pos rfl, if_pos hq] at hu
          rw [if_pos rfl, if_pos (by omega)]
          exact hu
        · rw [if_neg hqj] at hu
          rw [if_neg (by omega)]
          exact p4 j u (by rw [List.getElem?_map]; exact hu)
      · dsimp only
        rw [List.length_set]
        exact hbk
    · rw [List.getElem?_set_ne (fun e => hik e.symm)] at hy
      obtain ⟨A4, c4, f1, f2, f3, f4, f5, f6⟩ := h2 i y hy
      refine ⟨A4, c4, f1, f2.setCell (p := ⟨g2, off2 + q, none⟩) (fun e => ?_) _, f3, f4, f5, f6⟩
      rw [f5] at e
      rcases hsep i k (List.getElem?_eq_some_iff.1 hy).1 hk hik with h | h
      · rw [h] at e; cases e
      · rw [e, hbk'] at h; exact h rfl

set_option maxRecDepth 100000 in
set_option maxHeartbeats 2000000 in
theorem Over_any {t : List T.Nd} {n ct base : Nat} {At : Option Addr} {W : World} (hT : StAt 5 NdR W At n t) (hn : n ≤ 900000) (ha : ∀ x ∈ t, x.args.length ≤ 900000) (hv : ∀ x ∈ t, ∀ a ∈ x.args, 0 ≤ a ∧ a ≤ 1000000) (hb : base ≤ 1000000) :
    Calls Tryd.prog 46 #[.slice At n ct, .int .i64 (base : Int)] W fun e W' => ∃ v, e = .returned v ∧ OwnR (NdF W.heap.size) W.heap.size W' v (t.map (R.ov (base : Int))) ∧ Below W.heap.size W W' := by
  have hl := hT.len
  have Hl := Lib.hid hl
  have Ha := Lib.hid ha
  have Hv := Lib.hid hv
  have Hcp := Lib.hid (CopyApart_any (ct := ct) hT hn ha)
  clear hT ha hl hv
  go_enter Tryd.func46, Tryd.ntmps46
  go_wp2_with fail
  (with_reducible refine Hcp.out.mono ?_)
  rintro e w1 ⟨v, bs, rfl, hown, hsep, hb1⟩
  obtain ⟨Av, cv, rfl⟩ := hown.form
  rw [Hl.out] at hown hsep ⊢
  have Hown := Lib.hid hown
  have Hsep := Lib.hid hsep
  have Hb1 := Lib.hid hb1
  clear hown hb1 Hcp hsep
  go_wp2
  go_loopg [6] (n + 1) (fun gg i wr => ∃ (j : Nat), j ≤ n ∧ i = .int .i64 (j : Int) ∧ gg + j = n + 1 ∧ Hid (Below W.heap.size W wr) ∧ Hid (OwnI (fun k => NdB (bs k) W.heap.size) W.heap.size wr (.slice Av n cv) ((t.take j).map (R.ov (base : Int)) ++ t.drop j)))
  case atStart => exact ⟨0, Nat.zero_le _, rfl, rfl, Hb1, Lib.hid Hown.out⟩
  case round =>
    obtain ⟨j, hj, rfl, hgk, Hbw, Hown⟩ := hrel
    obtain ⟨gO, rfl⟩ : ∃ g, g = gk := ⟨_, rfl⟩
    obtain ⟨wr, rfl⟩ : ∃ w, w = wr := ⟨_, rfl⟩
    have HgO := Lib.hid hgk; clear hgk
    by_cases hjn : j < n
    · obtain ⟨x, hx⟩ : ∃ x, t[j]? = some x := ⟨_, List.getElem?_eq_getElem (by rw [Hl.out]; exact hjn)⟩
      have Hx := Lib.hid hx
      have hlj : ((t.take j).map (R.ov (base : Int))).length = j := by rw [List.length_map, List.length_take, Hl.out]; omega
      have hset : ∀ y, ((t.take j).map (R.ov (base : Int)) ++ t.drop j).set j y = (t.take j).map (R.ov (base : Int)) ++ y :: t.drop (j + 1) := fun y => by
        rw [List.set_append_right _ _ (by omega), hlj, Nat.sub_self, List.drop_eq_getElem_cons (by rw [Hl.out]; exact hjn), List.set_cons_zero]
      have hseq : (t.take j).map (R.ov (base : Int)) ++ t.drop j = (t.take j).map (R.ov (base : Int)) ++ x :: t.drop (j + 1) := by
        rw [List.drop_eq_getElem_cons (by rw [Hl.out]; exact hjn)]
        congr 2
        exact (List.getElem?_eq_some_iff.1 hx).2
      have Hlj := Lib.hid hlj
      have Hget := Lib.hid (show ∀ y : T.Nd, ((t.take j).map (R.ov (base : Int)) ++ y :: t.drop (j + 1))[j]? = some y from fun y => by rw [List.getElem?_append_right (by omega), hlj, Nat.sub_self]; rfl)
      have Hset2 := Lib.hid (show ∀ y z : T.Nd, ((t.take j).map (R.ov (base : Int)) ++ y :: t.drop (j + 1)).set j z = (t.take j).map (R.ov (base : Int)) ++ z :: t.drop (j + 1) from fun y z => by rw [List.set_append_right _ _ (by omega), hlj, Nat.sub_self, List.set_cons_zero])
      have Hln := Lib.hid (show ∀ y : T.Nd, ((t.take j).map (R.ov (base : Int)) ++ y :: t.drop (j + 1)).length = n from fun y => by rw [List.length_append, hlj, List.length_cons, List.length_drop, Hl.out]; omega)
      rw [hseq] at Hown
      clear hset hseq hx hlj
      obtain ⟨L, hL⟩ : ∃ L, x.args.length = L := ⟨_, rfl⟩
      have HL := Lib.hid hL
      have hL9 : L ≤ 900000 := by rw [← hL]; exact Ha.out x (List.mem_of_getElem? Hx.out)
      have Hxa := Lib.hid (Hv.out x (List.mem_of_getElem? Hx.out))
      clear hL
      go_wp2
      go_loopg [7] (L + 1) (fun gg i wq => ∃ q : Nat, q ≤ L ∧ i = .int .i64 (q : Int) ∧ gg + q = L + 1 ∧ Hid (Below W.heap.size W wq) ∧ Hid (OwnI (fun k => NdB (bs k) W.heap.size) W.heap.size wq (.slice Av n cv) ((t.take j).map (R.ov (base : Int)) ++ R.ovq (base : Int) q x :: t.drop (j + 1))))
      case atStart => exact ⟨0, Nat.zero_le _, rfl, rfl, Hbw, Lib.hid (by rw [R.ovq_zero]; exact Hown.out)⟩
      case round =>
        obtain ⟨q, hq, rfl, hgk, Hbq, HqO⟩ := hrel
        obtain ⟨wq, rfl⟩ : ∃ w, w = wr := ⟨_, rfl⟩
        have Hgk := Lib.hid hgk; clear hgk
        obtain ⟨x2, g, off, A2, c2, hx2, hAv, hd, hnd⟩ := HqO.out.at_ (Hln.out _) hjn
        rw [Hget.out] at hx2
        obtain rfl := Option.some.inj hx2
        subst hAv
        rw [R.ovq_len, HL.out] at hd
        by_cases hqL : q < L
        · obtain ⟨a, haq⟩ : ∃ a, x.args[q]? = some a := ⟨_, List.getElem?_eq_getElem (by rw [HL.out]; exact hqL)⟩
          have haq2 := R.ovq_at (b := (base : Int)) haq
          obtain ⟨A3, c3, e1, own, _, _, _, hB⟩ := hnd
          simp only [ndC, List.cons.injEq, Value.slice.injEq] at e1
          obtain ⟨_, _, _, ⟨e4, _, e5⟩, _⟩ := e1
          subst e4 e5
          rw [R.ovq_len, HL.out] at own
          rcases own.2 with ⟨_, h0⟩ | ⟨g2, off2, cap, cur, e6, hg2, p1, p2, p3, p4⟩
          · omega
          cases e6
          have hcell : wq.cell? ⟨g2, off2 + q, none⟩ = some (.int .i64 a) := by
            rw [cell_of_row _ _ _ _ _ (0, 0) hg2]
            exact p4 q _ (by rw [List.getElem?_map, haq2]; rfl)
          have hfz := frozen_row hg2 (off2 + q)
          have hab := Hxa.out a (List.mem_of_getElem? haq)
          have hsum : wrap64 (a + (base : Int)) = a + (base : Int) := by unfold wrap64; omega
          have hset := HqO.out.setArg (q := q) (g2 := g2) (off2 := off2) (Hln.out _) Hsep.out hjn (Hget.out _) (by rw [R.ovq_len, HL.out]; exact hd) (by rw [R.ovq_len, HL.out]; exact hqL) (a + (base : Int))
          rw [Hset2.out, R.ovq_next haq] at hset
          have HX := Lib.hid hset
          have hBg : W.heap.size ≤ g2 := by
            rename_i h5 h6 h7
            first
              | exact hB g2 rfl
              | (refine hB g2 ?_; rw [← h7]; rfl)
              | (refine hB g2 ?_; rw [← h6]; rfl)
          have HbX := Lib.hid (Hbq.out.setCell (p := ⟨g2, off2 + q, none⟩) hBg (.int .i64 (a + (base : Int))))
          clear hset haq haq2 own hg2 p1 p2 p3 p4 hB hBg hx2
          go_wp2
          go_roundg (gk - 1)
          case measure => have := Hgk.out; omega
          case rel =>
            have := Hgk.out
            exact ⟨q + 1, by omega, by go_num, by omega, HbX, HX⟩
        · obtain rfl : q = L := by omega
          have HE := Lib.hid (show OwnI (fun k => NdB (bs k) W.heap.size) W.heap.size wq (.slice (some ⟨g, off, none⟩) n cv) ((t.take (j + 1)).map (R.ov (base : Int)) ++ t.drop (j + 1)) from by
            have h := HqO.out
            rw [R.ovq_end (by rw [HL.out]; exact Nat.le_refl _)] at h
            rw [take_next Hx.out, List.map_append, List.append_assoc]
            exact h)
          clear hnd hx2
          go_wp2
          go_roundg (gO - 1)
          case measure => have := HgO.out; omega
          case rel =>
            have := HgO.out
            exact ⟨j + 1, by omega, by go_num, by omega, Hbq, HE⟩
    · obtain rfl : j = n := by omega
      have e : t.take j = t := List.take_of_length_le (by rw [Hl.out]; exact Nat.le_refl _)
      have e2 : t.drop j = [] := List.drop_eq_nil_iff.2 (by rw [Hl.out]; exact Nat.le_refl _)
      rw [e, e2, List.append_nil] at Hown
      go_wp2
      go_ret
      exact ⟨_, rfl, Hown.out.toF, Hbw.out⟩
end Go.Proofs.YtmebpgggfppmhaaDoor
end
section
namespace Go.Proofs.YtmebpgggfppmhaaDoor
set_option linter.unusedVariables false
set_option linter.unusedSimpArgs false
namespace R
open T (Nd F)

theorem app_nil (f : F) : f.app .nil = f := by
  induction f with
  | nil => rfl
  | cons _ _ _ _ k r _ ih => simp only [F.app, ih]
theorem app_assoc (f g h : F) : (f.app g).app h = f.app (g.app h) := by
  induction f with
  | nil => rfl
  | cons _ _ _ _ k r _ ih => simp only [F.app, ih]

/-- a list put behind another one, with its operands further on -/
theorem rep_shift {t out : List Nd} {la : List Int} {f : F} (r : T.Rep t la f) : T.Rep (out ++ t.map (ov (out.length : Int))) (la.map (· + (out.length : Int))) f := by
  induction r with
  | nil => exact .nil
  | @cons a la x kids rest h0 hx hk hr ih1 ih2 =>
    rw [List.map_cons]
    have e : (a + (out.length : Int)).toNat = out.length + a.toNat := by omega
    exact .cons (x := ov (out.length : Int) x) (by omega) (by
      rw [e, List.getElem?_append_right (by omega), show out.length + a.toNat - out.length = a.toNat by omega, List.getElem?_map, hx]
      rfl) ih1 ih2
theorem rep_more {t u : List Nd} {la : List Int} {f : F} (r : T.Rep t la f) : T.Rep (t ++ u) la f := r.mono fun i x hx => by
  rw [List.getElem?_append_left (List.getElem?_eq_some_iff.1 hx).1]; exact hx
theorem ord_shift {t out : List Nd} (ho : T.Ord out) (ht : T.Ord t) : T.Ord (out ++ t.map (ov (out.length : Int))) := fun k x hx a ha => by
  rcases Nat.lt_or_ge k out.length with hk | hk
  · rw [List.getElem?_append_left hk] at hx
    exact ho k x hx a ha
  · rw [List.getElem?_append_right hk, List.getElem?_map] at hx
    obtain ⟨y, hy, rfl⟩ := Option.map_eq_some_iff.1 hx
    obtain ⟨b, hb, rfl⟩ := List.mem_map.1 ha
    have := ht _ y hy b hb
    omega
theorem ord_snoc {out : List Nd} {y : Nd} (ho : T.Ord out) (hy : ∀ a ∈ y.args, 0 ≤ a ∧ a < (out.length : Int)) : T.Ord (out ++ [y]) := fun k x hx a ha => by
  rcases Nat.lt_or_ge k out.length with hk | hk
  · rw [List.getElem?_append_left hk] at hx
    exact ho k x hx a ha
  · rw [List.getElem?_append_right hk] at hx
    have hk0 : k - out.length = 0 := by
      have := (List.getElem?_eq_some_iff.1 hx).1
      simp at this; exact this
    rw [hk0] at hx
    simp at hx
    subst hx
    have := hy a ha
    omega

theorem sub_cons (b : Int → F) (op w fl imm : Int) (kids rest : F) : sub b (.cons op w fl imm kids rest) = (sub b (.cons op w fl imm kids .nil)).app (sub b rest) := by
  show (if op = 33 then (b imm).app (sub b rest) else F.cons op w fl imm (sub b kids) (sub b rest)) = (if op = 33 then (b imm).app (sub b .nil) else F.cons op w fl imm (sub b kids) (sub b .nil)).app (sub b rest)
  split
  · rw [show sub b F.nil = .nil from rfl, app_nil]
  · rfl
theorem rep_sub {t out : List Nd} {pl : Int → Int} {b : Int → F} {la : List Int} {f : F} (r : T.Rep t la f) : (∀ a ∈ la, ∀ g, T.Rep t [a] g → T.Rep out [pl a] (sub b g)) → T.Rep out (la.map pl) (sub b f) := by
  induction r with
  | nil => intro _; exact .nil
  | @cons a la x kids rest h0 hx hk hr ih1 ih2 =>
    intro h
    rw [sub_cons, List.map_cons]
    have h1 := h a (List.mem_cons_self ..) _ (.cons h0 hx hk .nil)
    exact h1.app (ih2 fun b hb => h b (List.mem_cons_of_mem _ hb))
theorem rep_lt {t : List Nd} {a : Int} {f : F} (r : T.Rep t [a] f) : 0 ≤ a ∧ a < (t.length : Int) := by
  cases r with
  | cons h0 hx _ _ => have := (List.getElem?_eq_some_iff.1 hx).1; omega

/-- the first k nodes are placed -/
def Placed (rt out : List Nd) (b : Int → F) (pl : List Int) (k : Nat) : Prop := ∀ i : Nat, i < k → ∀ g, T.Rep rt [(i : Int)] g → T.Rep out [pl.getD i 0] (sub b g)
theorem Placed.var {rt out : List Nd} {b : Int → F} {pl : List Int} {k : Nat} {x : Nd} {a : Int} (h : Placed rt out b pl k) (hx : rt[k]? = some x) (h33 : x.op = 33) (hk : k < pl.length) (ha : T.Rep out [a] (b x.imm)) : Placed rt out b (pl.set k a) (k + 1) := fun i hi g hg => by
  by_cases e : i = k
  · subst e
    rw [List.getD_eq_getElem?_getD, List.getElem?_set, if_pos rfl, if_pos hk]
    cases hg with
    | cons h0 hx' hkd hr =>
      rw [Int.toNat_natCast] at hx'
      rw [hx] at hx'
      obtain rfl := Option.some.inj hx'
      cases hr
      unfold sub
      rw [if_pos h33, show sub b F.nil = .nil from rfl, app_nil]
      exact ha
  · rw [List.getD_eq_getElem?_getD, List.getElem?_set_ne (fun e' => e e'.symm), ← List.getD_eq_getElem?_getD]
    exact h i (by omega) g hg
theorem Placed.node {rt out : List Nd} {b : Int → F} {pl : List Int} {k : Nat} {x : Nd} (h : Placed rt out b pl k) (ho : T.Ord rt) (hx : rt[k]? = some x) (h33 : x.op ≠ 33) (hk : k < pl.length) :
    Placed rt (out ++ [⟨x.op, x.w, x.fl, x.args.map (fun a => pl.getD a.toNat 0), x.imm⟩]) b (pl.set k (out.length : Int)) (k + 1) := fun i hi g hg => by
  by_cases e : i = k
  · subst e
    rw [List.getD_eq_getElem?_getD, List.getElem?_set, if_pos rfl, if_pos hk, Option.getD_some]
    cases hg with
    | cons h0 hx' hkd hr =>
      rw [Int.toNat_natCast] at hx'
      rw [hx] at hx'
      obtain rfl := Option.some.inj hx'
      cases hr
      unfold sub
      rw [if_neg h33]
      refine .cons (x := ⟨x.op, x.w, x.fl, x.args.map (fun a => pl.getD a.toNat 0), x.imm⟩) (by omega) (by rw [Int.toNat_natCast]; simp) ?_ .nil
      exact rep_more (rep_sub hkd fun a ha g' hg' => by
        have h1 := ho _ x hx a ha
        obtain ⟨m, rfl⟩ : ∃ m : Nat, a = m := ⟨a.toNat, by omega⟩
        rw [Int.toNat_natCast]
        exact h m (by omega) g' hg')
  · rw [List.getD_eq_getElem?_getD, List.getElem?_set_ne (fun e' => e e'.symm), ← List.getD_eq_getElem?_getD]
    exact rep_more (h i (by omega) g hg)
theorem Placed.args {rt out : List Nd} {b : Int → F} {pl : List Int} {k : Nat} {x : Nd} (h : Placed rt out b pl k) (ho : T.Ord rt) (hx : rt[k]? = some x) : ∀ a ∈ x.args.map (fun a => pl.getD a.toNat 0), 0 ≤ a ∧ a < (out.length : Int) := fun a ha => by
  obtain ⟨a', ha', rfl⟩ := List.mem_map.1 ha
  have h1 := ho k x hx a' ha'
  obtain ⟨m, rfl⟩ : ∃ m : Nat, a' = m := ⟨a'.toNat, by omega⟩
  have hkl := (List.getElem?_eq_some_iff.1 hx).1
  obtain ⟨g, hg⟩ := T.Rep.one ho (show m < rt.length by omega)
  rw [Int.toNat_natCast]
  exact rep_lt (h m (by omega) g hg)

/-- the first k variables have their trees -/
def Rooted (out : List Nd) (s : St) (rs : List Int) (k : Nat) : Prop := ∀ i : Nat, i < k → ∀ f, s.v (i : Int) = some f → T.Rep out [rs.getD i 0] f
theorem Rooted.next {out : List Nd} {s : St} {rs : List Int} {k : Nat} {l : List Nd} (h : Rooted out s rs k) (hk : k < rs.length) (hl : ∀ f, s.v (k : Int) = some f → l = T.canon f ∧ T.One f) : Rooted (out ++ l.map (ov (out.length : Int))) s (rs.set k (((out ++ l.map (ov (out.length : Int))).length : Int) - 1)) (k + 1) := fun i hi f hf => by
  by_cases e : i = k
  · subst e
    rw [List.getD_eq_getElem?_getD, List.getElem?_set, if_pos rfl, if_pos hk]
    obtain ⟨rfl, h1⟩ := hl f hf
    have h2 := rep_shift (out := out) (h1.root).1
    rw [Option.getD_some, List.length_append, List.length_map]
    have e : ((out.length + (T.canon f).length : Nat) : Int) - 1 = ((T.canon f).length : Int) - 1 + (out.length : Int) := by omega
    rw [e]
    exact h2
  · rw [List.getD_eq_getElem?_getD, List.getElem?_set_ne (fun e' => e e'.symm), ← List.getD_eq_getElem?_getD]
    exact rep_more (h i (by omega) f hf)
end R
end Go.Proofs.YtmebpgggfppmhaaDoor
end
section
namespace Go.Proofs.YtmebpgggfppmhaaDoor
open Go.RowKit
set_option linter.unusedVariables false
set_option linter.unusedSimpArgs false

/-- 'append(out, l...)' of a list of the call's own -/
theorem wpList_append_own {R : World → List Value → T.Nd → Prop} {B B' : Nat} (hR : NdRel B R) {w : World} {ops : Array Oper} {rest : List Oper} {o : Oper} {a : Act} {Q : Exit → Act → World → Prop} (hgd : o.guard = none) (sx x : Operand)
    (ho : o.op = .call { callee := .builtin .append, args := #[sx, x], argTypes := #[22, 22] })
    (v : Value) (nds : List T.Nd) (hs : a.eval sx = v) (hown : OwnR R B w v nds) (A : Option Addr) (c : Nat) (xs : List T.Nd) (hx : a.eval x = .slice A xs.length c) (hsrc : OwnR (NdF B') B' w (.slice A xs.length c) xs) (hF : ∀ us y, NdF B' w us y → R w us y) (hn : nds.length + xs.length ≤ 900000) (hB : B ≤ w.heap.size)
    (h : ∀ v' w', OwnR R B w' v' (nds ++ xs) → w.grownBy w' v.ownBlock → wpList Tryd.prog ops Q rest (a.put o.dst v') w') :
    wpList Tryd.prog ops Q (o :: rest) a w := by
  obtain ⟨cells, h1, h2, h3⟩ := id hown
  obtain ⟨us, s1, s2, s3⟩ := hsrc
  have hcl := h1.1
  have hul := s1.1
  have hrow := hown.row
  have hone : ∀ u ∈ us, u.oneCell' = true := fun u hu => by
    obtain ⟨j, hj⟩ := List.mem_iff_getElem?.1 hu
    have hjl : j < us.length := (List.getElem?_eq_some_iff.1 hj).1
    have hlt : j / 5 < xs.length := by omega
    obtain ⟨A2, c2, e, _⟩ := s2 (j / 5) _ (List.getElem?_eq_getElem hlt)
    have hm : u ∈ ndC xs[j / 5] A2 c2 := by
      rw [← e]
      refine List.mem_of_getElem? (i := j % 5) ?_
      rw [List.getElem?_take, if_pos (by omega), List.getElem?_drop, show j / 5 * 5 + j % 5 = j by omega]
      exact hj
    exact ndC_one _ _ _ u hm
  refine wpList_append_src _ hgd sx x 22 ho 41 _ 5 56 Tryd.underlying22 infoNode rfl (by decide) v nds.length cells hs h1 A xs.length c us hx hul (own_src s1) hone (by omega) (by decide) ?_
  intro v' w' hown' hgr hat
  refine h v' w' ⟨cells ++ us, by rw [List.length_append]; exact hown', ?_, ?_⟩ hgr
  · intro k y hy
    rcases Nat.lt_or_ge k nds.length with hk | hk
    · rw [List.getElem?_append_left hk] at hy
      have e : ((cells ++ us).drop (k * 5)).take 5 = (cells.drop (k * 5)).take 5 := by
        rw [List.drop_append_of_le_length (by omega), List.take_append_of_le_length (by rw [List.length_drop]; omega)]
      rw [e]
      exact hR.grown (h2 k y hy) hgr hrow
    · rw [List.getElem?_append_right hk] at hy
      have e : ((cells ++ us).drop (k * 5)).take 5 = (us.drop ((k - nds.length) * 5)).take 5 := by
        rw [List.drop_append, List.drop_of_length_le (by omega), List.nil_append, hcl, show k * 5 - nds.length * 5 = (k - nds.length) * 5 by omega]
      rw [e]
      exact hR.grown (hF _ _ (s2 _ y hy)) hgr hrow
  · intro g hg
    rcases hat with e | e
    · exact h3 g (by rw [← e]; exact hg)
    · rw [e] at hg
      injection hg with hg
      omega

def roots4 (rs : List Int) : Array Value := (rs.map (Value.int .i64)).toArray
theorem roots_set (rs : List Int) (k : Nat) (z : Int) : (roots4 rs).setIfInBounds k (.int .i64 z) = roots4 (rs.set k z) := by
  unfold roots4
  rw [List.setIfInBounds_toArray, List.map_set]
theorem roots_at {rs : List Int} {k : Nat} {z : Int} (h : rs[k]? = some z) : (roots4 rs)[k]? = some (.int .i64 z) := by
  unfold roots4
  simp [h]

set_option maxRecDepth 100000 in
set_option maxHeartbeats 8000000 in
theorem rRewrite_any {r : R.Rl} {t : List T.Nd} {nl cl nr cr np cp nt ct : Nat} {AL AR AP At : Option Addr} {W : World} (hR : RlAt W r nl nr np AL AR AP) (hT : StAt 5 NdR W At nt t) :
    Calls Tryd.prog 14 #[.agg #[.slice AL nl cl, .slice AR nr cr, .slice AP np cp], .slice At nt ct] W (RewPost W r t) := by
  obtain ⟨W1, hW1⟩ : ∃ W1, W1 = W.alloc (.cells #[.slice AL nl cl, .slice AR nr cr, .slice AP np cp] 25) := ⟨_, rfl⟩
  have hb1 : Below W.heap.size W W1 := by rw [hW1]; exact (Below.refl _ _).alloc (Nat.le_refl _) _
  have hrow : W1.heap[W.heap.size]? = some (.cells #[.slice AL nl cl, .slice AR nr cr, .slice AP np cp] 25 (0, 0)) := by rw [hW1]; exact heap_alloc_new W _
  obtain ⟨c0, c1, c2, _⟩ := rl_cells hrow
  have Hrow := Lib.hid (fun (X : World) (h : Below W1.heap.size W1 X) => rl_cells ((h.block _ (Array.getElem?_eq_some_iff.1 hrow).1).trans hrow))
  have Hb1 := Lib.hid hb1
  have HR1 := Lib.hid (hR.below hb1)
  have HT1 := Lib.hid (hT.below monoNd hb1)
  have Hmt := Lib.hid (rmatched_any (cl := cl) (cr := cr) (cp := cp) (ct := ct) HR1.out HT1.out)
  have HW1 := Lib.hid hW1
  obtain ⟨e1, he1⟩ : ∃ e, R.rerr r t = e := ⟨_, rfl⟩
  rw [he1] at Hmt
  have He := Lib.hid he1
  rw [hW1] at c0 c1 c2
  clear hR hT hb1 hrow hW1 he1
  by_cases h0 : e1 = 0
  rotate_left
  · have q : (e1 != 0) = true := by simpa using h0
    have Hm := Lib.hid (show R.rew r t = ([], false, e1) from by unfold R.rew; rw [He.out, if_pos h0])
    clear h0
    go_enter Tryd.func14, Tryd.ntmps14
    go_wp2_with fail
    rw [← HW1.out]
    (with_reducible refine Hmt.out.mono ?_)
    rintro e w2 ⟨rfl, hb2⟩
    have Hb2 := Lib.hid (Hb1.out.trans (hb2.mono Hb1.out.size))
    clear hb2 c0 c1 c2
    go_wp2
    go_ret3
    exact rewPost_none Hm.out Hb2.out
  subst h0
  have q : ((0 : Int) != 0) = false := rfl
  have hrv : R.rvalid r = 0 := by
    have := He.out
    unfold R.rerr at this
    split at this
    · rename_i h; exact absurd this h
    · rename_i h; simpa using h
  have hfv : R.fvalid t = 0 := by
    have := He.out
    unfold R.rerr at this
    rw [if_neg (by simpa using hrv)] at this
    exact this
  have hr := R.rok_of hrv
  have ht := R.tok_of hfv
  obtain ⟨n, rfl⟩ : ∃ n, nl = n + 1 := ⟨nl - 1, by have := hr.lpos; have := HR1.out.sl.len; omega⟩
  obtain ⟨m, rfl⟩ : ∃ m, nt = m + 1 := ⟨nt - 1, by have := ht.pos; have := HT1.out.len; omega⟩
  obtain ⟨mr, rfl⟩ : ∃ mr, nr = mr + 1 := ⟨nr - 1, by have := hr.rpos; have := HR1.out.sr.len; omega⟩
  have Hma := Lib.hid (fun X (h : Below W1.heap.size W1 X) => rmatch_any (cl := cl) (cr := cr) (cp := cp) (ct := ct) (HR1.out.below h) (HT1.out.below monoNd h) hr ht)
  have Hr := Lib.hid hr
  have Ht := Lib.hid ht
  have Him := Lib.hid (nd_imm HT1.out)
  clear hrv hfv hr ht
  go_enter Tryd.func14, Tryd.ntmps14
  go_wp2_with fail
  rw [← HW1.out]
  (with_reducible refine Hmt.out.mono ?_)
  rintro e w2 ⟨rfl, hb2⟩
  have Hb2 := Lib.hid hb2
  obtain ⟨d0, d1, d2, _⟩ := Hrow.out _ hb2
  clear hb2 c0 c1 c2
  go_wp2_with fail
  (with_reducible refine (Hma.out _ Hb2.out).mono ?_)
  rintro e w3 ⟨hb3, (⟨hn, v, i, rfl⟩ | ⟨s, gb, hs, rfl, g0, g1, g2, g3, ts, hsA, ns, gs, hp⟩)⟩
  · have Hb3 := Lib.hid (Hb1.out.trans ((Hb2.out.trans (hb3.mono Hb2.out.size)).mono Hb1.out.size))
    have Hm := Lib.hid (show R.rew r t = ([], false, 0) from by unfold R.rew; rw [He.out, hn]; rfl)
    clear hb3 hn d0 d1 d2
    go_wp2
    go_ret3
    exact rewPost_none Hm.out Hb3.out
  have Hb3 := Lib.hid (Hb2.out.trans (hb3.mono Hb2.out.size))
  have Hp := Lib.hid hp
  have Hs := Lib.hid hs
  have hsok := R.sok Hr.out Ht.out Him.out (T.root_rep (R.pnode_ord Hr.out.lp) Hr.out.lpos) (T.root_rep Ht.out.ord Ht.out.pos) hs
  have Hsok := Lib.hid (show R.SOk t r (R.mw r t) s from hsok)
  obtain ⟨mw, hmw⟩ : ∃ mw, R.mw r t = mw := ⟨_, rfl⟩
  have Hmw := Lib.hid hmw
  rw [hmw] at Hsok ⊢
  have Hat := Lib.hid (fun X (h : Below w3.heap.size w3 X) => rat_any (cp := cr) (ch := 2) (w := mw) (hs := s.hs) (right := true) (HR1.out.sr.below monoNd (Hb3.out.trans (h.mono Hb3.out.size))) ((Hp.out.holes).below (monoInt _) h) Hsok.out.wd Hsok.out.hs Hr.out.rp (by have := Hr.out.rlen; have := HR1.out.sr.len; omega))
  obtain ⟨rt, hrt⟩ : ∃ rt, R.inst r.right mw s.hs = rt := ⟨_, rfl⟩
  rw [hrt] at Hat
  have Hrt := Lib.hid hrt
  have Hrl := Lib.hid (show rt.length = mr + 1 from by rw [← hrt, R.inst_len]; exact HR1.out.sr.len)
  have HS := Lib.hid (show ∀ Y, Below w3.heap.size w3 Y → Y.cell? ⟨W.heap.size, 1, none⟩ = some (.slice AR (mr + 1) cr) ∧ Y.cell? ⟨gb, 2, none⟩ = some (.slice (some ⟨g2, 0, none⟩) 2 2) from fun Y hY => ⟨(Hrow.out _ (Hb3.out.trans (hY.mono Hb3.out.size))).2.1, (Hp.out.below hY).rows.cells.2.2.1⟩)
  have Hbr3 := Lib.hid (show Below w3.heap.size w3 w3.drew from (Below.refl _ _).drew)
  clear hb3 hp hs hsok d0 d1 d2 hmw hrt
  go_wp2
  refine wp_region_held_drew (S := fun Y => Y.cell? ⟨W.heap.size, 1, none⟩ = some (.slice AR (mr + 1) cr) ∧ Y.cell? ⟨gb, 2, none⟩ = some (.slice (some ⟨g2, 0, none⟩) 2 2)) (by kernel_rfl) (HS.out w3.drew Hbr3.out) (fun hHeld => ?_)
  refine wpAnyH_take (i := 0) (oi := _) (v := ?_) rfl (by kernel_rfl) (by kernel_rfl) (by kernel_rfl) (fun _ _ _ h => h) (Or.inl ⟨by rfl, fun Y hY => ?_⟩) hHeld ?_
  rotate_left
  · (go_simp) <;> with_reducible rfl
  try simp only [Act.put, List.setIfInBounds_toArray, List.set_cons_zero, List.set_cons_succ, List.getElem_toArray, List.getElem_cons_succ, List.getElem_cons_zero]
  refine wpAnyH_take (i := 1) (oi := _) (v := ?_) rfl (by kernel_rfl) (by kernel_rfl) (by kernel_rfl) (fun _ _ _ h => h) (Or.inl ⟨by rfl, fun Y hY => ?_⟩) hHeld ?_
  rotate_left
  · obtain ⟨y0, y1⟩ := hY
    (go_simp) <;> with_reducible rfl
  try simp only [Act.put, List.setIfInBounds_toArray, List.set_cons_zero, List.set_cons_succ, List.getElem_toArray, List.getElem_cons_succ, List.getElem_cons_zero]
  refine wpAnyH_take (i := 2) (oi := _) (v := ?_) rfl (by kernel_rfl) (by kernel_rfl) (by kernel_rfl) (fun _ _ _ h => h) (Or.inl ⟨by rfl, fun Y hY => ?_⟩) hHeld ?_
  rotate_left
  · (go_simp) <;> with_reducible rfl
  try simp only [Act.put, List.setIfInBounds_toArray, List.set_cons_zero, List.set_cons_succ, List.getElem_toArray, List.getElem_cons_succ, List.getElem_cons_zero]
  refine wpAnyH_take (i := 3) (oi := _) (v := ?_) rfl (by kernel_rfl) (by kernel_rfl) (by kernel_rfl) (fun _ _ _ h => h) (Or.inl ⟨by rfl, fun Y hY => ?_⟩) hHeld ?_
  rotate_left
  · (go_simp) <;> with_reducible rfl
  try simp only [Act.put, List.setIfInBounds_toArray, List.set_cons_zero, List.set_cons_succ, List.getElem_toArray, List.getElem_cons_succ, List.getElem_cons_zero]
  refine wpAnyH_take (i := 4) (oi := _) (v := ?_) rfl (by kernel_rfl) (by kernel_rfl) (by kernel_rfl) (fun _ _ _ h => h) (Or.inl ⟨by rfl, fun Y hY => ?_⟩) hHeld ?_
  rotate_left
  · (go_simp) <;> with_reducible rfl
  try simp only [Act.put, List.setIfInBounds_toArray, List.set_cons_zero, List.set_cons_succ, List.getElem_toArray, List.getElem_cons_succ, List.getElem_cons_zero]
  refine wpAnyH_take (i := 5) (oi := _) (v := ?_) rfl (by kernel_rfl) (by kernel_rfl) (by kernel_rfl) (fun _ _ _ h => h) (Or.inl ⟨by rfl, fun Y hY => ?_⟩) hHeld ?_
  rotate_left
  · (go_simp) <;> with_reducible rfl
  try simp only [Act.put, List.setIfInBounds_toArray, List.set_cons_zero, List.set_cons_succ, List.getElem_toArray, List.getElem_cons_succ, List.getElem_cons_zero]
  refine wpAnyH_take (i := 6) (oi := _) (v := ?_) rfl (by kernel_rfl) (by kernel_rfl) (by kernel_rfl) (fun _ _ _ h => h) (Or.inl ⟨by rfl, fun Y hY => ?_⟩) hHeld ?_
  rotate_left
  · obtain ⟨y0, y1⟩ := hY
    (go_simp) <;> with_reducible rfl
  try simp only [Act.put, List.setIfInBounds_toArray, List.set_cons_zero, List.set_cons_succ, List.getElem_toArray, List.getElem_cons_succ, List.getElem_cons_zero]
  refine wpAnyH_ready (rs := [7]) (by kernel_rfl) (by simp) ?_
  refine AllReadyH.cons (o := _) rfl (fun KK hKK => ?_) AllReadyH.nil
  clear hHeld
  go_simp
  (with_reducible refine (Hat.out _ Hbr3.out).mono ?_)
  rintro e w4 ⟨v4, rfl, hown4, hb4⟩
  obtain ⟨Ar, kr, e4⟩ := hown4.form
  rw [Hrl.out] at e4
  subst e4
  have Hrs4 := Lib.hid (hown4.stAt (ndF_rel _) Hrl.out)
  have Hb34 := Lib.hid (Hbr3.out.trans (hb4.mono Hbr3.out.size))
  clear hown4 hb4
  refine hKK.out _ _ (HS.out w4 Hb34.out) (fun hHeld => ?_)
  clear hKK KK
  try simp only [Act.put, List.setIfInBounds_toArray, List.set_cons_zero, List.set_cons_succ, List.getElem_toArray, List.getElem_cons_succ, List.getElem_cons_zero]
  refine wpAnyH_take (i := 8) (oi := _) (v := ?_) rfl (by kernel_rfl) (by kernel_rfl) (by kernel_rfl) (fun _ _ _ h => h) (Or.inl ⟨by rfl, fun Y hY => ?_⟩) hHeld ?_
  rotate_left
  · (go_simp) <;> with_reducible rfl
  try simp only [Act.put, List.setIfInBounds_toArray, List.set_cons_zero, List.set_cons_succ, List.getElem_toArray, List.getElem_cons_succ, List.getElem_cons_zero]
  refine wpAnyH_done (by kernel_rfl) ?_ _
  clear hHeld
  have Hb4 := Lib.hid (Hb3.out.trans (Hb34.out.mono Hb3.out.size))
  have Hp4 := Lib.hid (Hp.out.below Hb34.out)
  have hmk := fun (X : World) => run_make_n (P := Tryd.prog) 38 3 (.int .i64 0) 8 Tryd.underlying38 infoI rfl .i64 .i64 4 (4 : Int) rfl (by decide) (by decide) X
  have hmk2 := fun (X : World) => run_make_n (P := Tryd.prog) 38 3 (.int .i64 0) 8 Tryd.underlying38 infoI rfl .i64 .i64 (mr + 1) ((mr : Int) + 1) (by omega) (by have := Hr.out.rlen; have := HR1.out.sr.len; omega) (by decide) X
  obtain ⟨W5, hW5⟩ : ∃ W5, W5 = w4.alloc (.cells (Array.replicate 4 (.int .i64 0)) 3) := ⟨_, rfl⟩
  have Hr5 := Lib.hid (show W5.heap[w4.heap.size]? = some (.cells (roots4 [0, 0, 0, 0]) 3 (0, 0)) from by rw [hW5]; exact heap_alloc_new w4 _)
  have Hb5 := Lib.hid (show Below w4.heap.size w4 W5 from by rw [hW5]; exact (Below.refl _ _).alloc (Nat.le_refl _) _)
  have HW5 := Lib.hid hW5
  clear hW5
  go_wp2
  rw [← HW5.out]
  have HTm := Lib.hid ((Hp4.out.terms).sl rfl)
  have Hml := Lib.hid (show ∀ k : Nat, T.Ord (R.mvl s k) ∧ (R.mvl s k).length ≤ 300 ∧ (∀ x ∈ R.mvl s k, x.args.length ≤ 3) ∧ ∀ f, k < 2 → s.v (k : Int) = some f → R.mvl s k = T.canon f ∧ T.One f from fun k => by
    by_cases hk : k < 2
    · cases e : s.v (k : Int) with
      | none => exact ⟨by unfold R.mvl; rw [if_pos hk, e]; exact T.ord_nil, by unfold R.mvl; rw [if_pos hk, e]; simp, by unfold R.mvl; rw [if_pos hk, e]; simp, fun f _ hf => by cases hf⟩
      | some f =>
        have h1 := R.sok_tr Ht.out Hsok.out _ f e
        have e2 : R.mvl s k = T.canon f := by unfold R.mvl; rw [if_pos hk, e]
        rw [e2]
        exact ⟨h1.1.ord, h1.2, h1.1.len, fun f' _ hf => by injection hf with hf; subst hf; exact ⟨rfl, (Hsok.out.inT _ _ e).one⟩⟩
    · exact ⟨by unfold R.mvl; rw [if_neg hk]; exact T.ord_nil, by unfold R.mvl; rw [if_neg hk]; simp, by unfold R.mvl; rw [if_neg hk]; simp, fun f h => by omega⟩)
  go_loopg [12, 14] 5 (fun gg v12 i wr => ∃ (k : Nat) (out : List T.Nd) (rs : List Int), k ≤ 4 ∧ i = .int .i64 (k : Int) ∧ gg + k = 5 ∧ Hid (Below w4.heap.size w4 wr) ∧ Hid (wr.heap[w4.heap.size]? = some (.cells (roots4 rs) 3 (0, 0))) ∧ Hid (rs.length = 4) ∧ Hid (OwnR (NdX w4.heap.size (fun i => i = w4.heap.size)) w4.heap.size wr v12 out) ∧ Hid (T.Ord out) ∧ Hid (R.Rooted out s rs k) ∧ Hid (out.length ≤ 300 * k) ∧ Hid (∀ x ∈ out, x.args.length ≤ 3))
  case atStart => exact ⟨0, [], [0, 0, 0, 0], by omega, rfl, rfl, Hb5, Hr5, Lib.hid rfl, Lib.hid (OwnR.nil_ _ _ _), Lib.hid T.ord_nil, Lib.hid (fun i hi => by omega), Lib.hid (by simp), Lib.hid (fun x hx => by simp at hx)⟩
  case round =>
    obtain ⟨k, out, rs, hk, rfl, hgk, Hbw, Hgw, Hrs, Hout, Hord, Hrt2, Hlen, Harg⟩ := hrel
    obtain ⟨wr, rfl⟩ : ∃ w, w = wr := ⟨_, rfl⟩
    have Hgk := Lib.hid hgk; clear hgk
    obtain ⟨A6, k6, rfl⟩ := Hout.out.form
    have b0 := (Hp4.out.below Hbw.out).rows.cells.1
    by_cases hk4 : k < 4
    · obtain ⟨l, b, off, u, hl, hA, hb, hc, A1, c1, rfl, hst⟩ := HTm.out.at_ hk4
      injection hA with hA
      injection hA with e1 e2 _
      subst e1 e2
      rw [Nat.zero_add] at hc
      have hlk : l = R.mvl s k := by
        rcases (show k = 0 ∨ k = 1 ∨ k = 2 ∨ k = 3 by omega) with rfl | rfl | rfl | rfl <;> (simp at hl; exact hl.symm)
      have hc2 := (Hbw.out.cell (p := ⟨g0, k, none⟩) hb).trans hc
      obtain ⟨m1, m2, m3, m4⟩ := Hml.out k
      rw [← hlk] at m1 m2 m3 m4
      have hln := Hlen.out
      have Hov := Lib.hid (Over_any (ct := c1) (base := out.length) (hst.below monoNd Hbw.out) (by omega) (fun x hx => by have := m3 x hx; omega) (fun x hx a ha => by
        obtain ⟨j, hj⟩ := List.mem_iff_getElem?.1 hx
        have h1 := m1 j x hj a ha
        have h2 := (List.getElem?_eq_some_iff.1 hj).1
        omega) (by omega))
      have M1 := Lib.hid m1
      have M2 := Lib.hid m2
      have M3 := Lib.hid m3
      have M4 := Lib.hid (show ∀ f, s.v (k : Int) = some f → l = T.canon f ∧ T.One f from fun f hf => by
        by_cases hk2 : k < 2
        · exact m4 f hk2 hf
        · have := Hp4.out.hi (k : Int) (by omega)
          rw [this] at hf; cases hf)
      obtain ⟨l2, hl2⟩ : ∃ l2, l.map (R.ov (out.length : Int)) = l2 := ⟨_, rfl⟩
      have Hl2 := Lib.hid hl2
      rw [hl2] at Hov
      obtain ⟨o2, ho2⟩ : ∃ o2, out ++ l2 = o2 := ⟨_, rfl⟩
      have Ho2 := Lib.hid ho2
      have Hol := Lib.hid (show l2.length ≤ 300 from by rw [← hl2, List.length_map]; exact m2)
      clear hl hb hc hst hlk m1 m2 m3 m4 hln hl2 ho2
      go_wp2_with fail
      (with_reducible refine Hov.out.mono ?_)
      rintro e w6 ⟨v6, rfl, hown6, hb6⟩
      obtain ⟨A7, k7, e7⟩ := hown6.form
      have Hown6 := Lib.hid hown6
      have Hb6 := Lib.hid (Hbw.out.trans (hb6.mono Hbw.out.size))
      have Hgw6 := Lib.hid ((hb6.block _ (Array.getElem?_eq_some_iff.1 Hgw.out).1).trans Hgw.out)
      have Hgrlt := Lib.hid (show w4.heap.size < wr.heap.size from (Array.getElem?_eq_some_iff.1 Hgw.out).1)
      have Hout6 := Lib.hid (Hout.out.below (ndX_rel _ _) hb6)
      have Hsz6 := Lib.hid (show w4.heap.size ≤ w6.heap.size from Hb6.out.size)
      have Hszr := Lib.hid Hbw.out.size
      subst e7
      clear hown6 hb6 hc2 b0
      go_wp2_with (at_builtin
                   refine wpList_append_own (ndX_rel w4.heap.size (fun i => i = w4.heap.size)) rfl (.tmp 53) (.tmp 63) rfl _ out rfl Hout6.out A7 k7 l2 rfl Hown6.out (fun us y h => by
                     obtain ⟨Az, cz, q1, q2, q3, q4, q5⟩ := h
                     have := Hszr.out
                     have := Hgrlt.out
                     exact ⟨Az, cz, q1, q2, q3, q4, fun g hg => ⟨by have := q5 g hg; omega, by have := q5 g hg; omega⟩⟩) (by have := Hlen.out; have := Hol.out; omega) Hsz6.out ?_
                   intro v7 w7 hown7 hgr7
                   rw [Ho2.out] at hown7
                   obtain ⟨A8, k8, e8⟩ := hown7.form
                   have Hgw7 := Lib.hid ((hgr7.block w4.heap.size (Array.getElem?_eq_some_iff.1 Hgw6.out).1 (fun e => by
                     obtain ⟨_, cur, fr, hcc⟩ := Hout6.out.row w4.heap.size e.symm
                     rw [Hgw6.out] at hcc
                     injection hcc with hcc
                     injection hcc with _ hcc _
                     revert hcc
                     decide)).trans Hgw6.out)
                   have Hb7 := Lib.hid (Hb6.out.grown hgr7 Hb6.out.size (fun g hg => (Hout6.out.row g hg).1))
                   have Hown7 := Lib.hid hown7
                   obtain ⟨cc7, ff7⟩ := row_at Hgw7.out (roots_at (List.getElem?_eq_getElem (show k < rs.length by rw [Hrs.out]; exact hk4)))
                   have ho2n : o2.length ≤ 900000 := by rw [← Ho2.out, List.length_append]; have := Hlen.out; have := Hol.out; omega
                   subst e8
                   clear hown7 hgr7)
      have HX := Lib.hid (show (w7.setCell ⟨w4.heap.size, k, none⟩ (.int .i64 ((o2.length : Int) - 1))).heap[w4.heap.size]? = some (.cells (roots4 (rs.set k ((o2.length : Int) - 1))) 3 (0, 0)) from by
        rw [← roots_set]; exact heap_setCell_same _ _ _ _ _ _ Hgw7.out)
      have HbX := Lib.hid (Hb7.out.setCell (p := ⟨w4.heap.size, k, none⟩) (Nat.le_refl _) (.int .i64 ((o2.length : Int) - 1)))
      have HoX := Lib.hid (Hown7.out.ex (setCell_grown w7 w4.heap.size k (.int .i64 ((o2.length : Int) - 1))) (fun g hg => by injection hg with hg; subst hg; exact ⟨rfl, _, _, Hgw7.out⟩))
      go_roundg (gk - 1)
      case measure => have := Hgk.out; omega
      case rel =>
        have := Hgk.out
        refine ⟨k + 1, o2, _, by omega, by go_num, by omega, HbX, HX, Lib.hid (by rw [List.length_set]; exact Hrs.out), HoX, Lib.hid ?_, Lib.hid ?_, Lib.hid ?_, Lib.hid ?_⟩
        · rw [← Ho2.out, ← Hl2.out]; exact R.ord_shift Hord.out M1.out
        · rw [← Ho2.out, ← Hl2.out]; exact Hrt2.out.next (by rw [Hrs.out]; exact hk4) M4.out
        · rw [← Ho2.out, List.length_append]; have := Hlen.out; have := Hol.out; omega
        · intro x hx
          rw [← Ho2.out, ← Hl2.out] at hx
          rcases List.mem_append.1 hx with hx | hx
          · exact Harg.out x hx
          · obtain ⟨y, hy, rfl⟩ := List.mem_map.1 hx
            have := M3.out y hy
            unfold R.ov
            simpa using this
    · obtain rfl : k = 4 := by omega
      clear hk4
      rw [show ((4 : Nat) : Int) = 4 from rfl]
      obtain ⟨wz, rfl⟩ : ∃ w, w = wr := ⟨_, rfl⟩
      obtain ⟨W8, hW8⟩ : ∃ W8, W8 = wz.alloc (.cells (Array.replicate (mr + 1) (.int .i64 0)) 3) := ⟨_, rfl⟩
      have hbz : Below wz.heap.size wz W8 := by rw [hW8]; exact (Below.refl _ _).alloc (Nat.le_refl _) _
      have Hb8 := Lib.hid (Hbw.out.trans (hbz.mono Hbw.out.size))
      have Hg8 := Lib.hid ((hbz.block _ (Array.getElem?_eq_some_iff.1 Hgw.out).1).trans Hgw.out)
      have Hp8 := Lib.hid (show W8.heap[wz.heap.size]? = some (.cells (roots4 (List.replicate (mr + 1) 0)) 3 (0, 0)) from by
        rw [hW8, heap_alloc_new]
        unfold roots4
        rw [List.map_replicate, List.toArray_replicate])
      have Hglt := Lib.hid (show w4.heap.size < wz.heap.size from (Array.getElem?_eq_some_iff.1 Hgw.out).1)
      have Ho8 := Lib.hid ((Hout.out.re (Ex' := fun i => i = w4.heap.size ∨ i = wz.heap.size) (fun i hi h => by
        rcases h with h | h
        · exact h
        · omega)).below (ndX_rel _ _) hbz)
      have HW8 := Lib.hid hW8
      have hmr12 : mr + 1 ≤ 12 := by have := Hr.out.rlen; have := HR1.out.sr.len; omega
      have Horr := Lib.hid (show T.Ord rt from by rw [← Hrt.out]; exact R.inst_ord (R.pnode_ord Hr.out.rp))
      clear hW8 hbz hmk
      go_wp2
      rw [← HW8.out]
      clear hmk2 b0
      go_loopg [12, 16] (mr + 2) (fun gg v12 i wq => ∃ (k : Nat) (o : List T.Nd) (pl : List Int), k ≤ mr + 1 ∧ i = .int .i64 (k : Int) ∧ gg + k = mr + 2 ∧ Hid (Below w4.heap.size w4 wq) ∧ Hid (wq.heap[w4.heap.size]? = some (.cells (roots4 rs) 3 (0, 0))) ∧ Hid (wq.heap[wz.heap.size]? = some (.cells (roots4 pl) 3 (0, 0))) ∧ Hid (pl.length = mr + 1) ∧ Hid (OwnR (NdX w4.heap.size (fun i => i = w4.heap.size ∨ i = wz.heap.size)) w4.heap.size wq v12 o) ∧ Hid (T.Ord o) ∧ Hid (R.Rooted o s rs 4) ∧ Hid (R.Placed rt o s.tr pl k) ∧ Hid (o.length ≤ 1200 + k) ∧ Hid (∀ x ∈ o, x.args.length ≤ 3))
      case atStart => exact ⟨0, out, _, by omega, rfl, by omega, Hb8, Hg8, Hp8, Lib.hid (by simp), Ho8, Hord, Hrt2, Lib.hid (fun i hi => by omega), Lib.hid (by have := Hlen.out; omega), Harg⟩
      case round =>
        obtain ⟨k, o, pl, hk, rfl, hgk, Hbq, HqG, HqP, Hpl, HqO, HqOrd, HqR, HqPl, HqL, HqA⟩ := hrel
        obtain ⟨wq, rfl⟩ : ∃ w, w = wr := ⟨_, rfl⟩
        obtain ⟨gO, rfl⟩ : ∃ g, g = gk := ⟨_, rfl⟩
        have HgO := Lib.hid hgk; clear hgk
        obtain ⟨A7, k7, rfl⟩ := HqO.out.form
        have ho9 : o.length ≤ 1300 := by have := HqL.out; omega
        by_cases hkm : k < mr + 1
        · obtain ⟨x, b, off, Ax, cx, hx, hA, hb, p0, p1, p2, p3, p4, hsx, i0, i1⟩ := nd_cells Hrs4.out hkm
          subst hA
          have q0 := (Hbq.out.cell (p := ⟨b, off + k * 5, none⟩) hb).trans p0
          have q1 := (Hbq.out.cell (p := ⟨b, off + k * 5 + 1, none⟩) hb).trans p1
          have q2 := (Hbq.out.cell (p := ⟨b, off + k * 5 + 2, none⟩) hb).trans p2
          have q3 := (Hbq.out.cell (p := ⟨b, off + k * 5 + 3, none⟩) hb).trans p3
          have q4 := (Hbq.out.cell (p := ⟨b, off + k * 5 + 4, none⟩) hb).trans p4
          obtain ⟨x0, hx0, hxi⟩ := R.inst_at (show (R.inst r.right mw s.hs)[k]? = some x from by rw [Hrt.out]; exact hx)
          have hpn := Hr.out.rp k x0 hx0
          have Hxb := Lib.hid (show x.op = 33 → (0 ≤ x.imm ∧ x.imm < 2) ∧ ∃ f, s.v x.imm = some f from fun ho => by
            rw [hxi] at ho ⊢
            obtain ⟨h1, _, h3⟩ := R.inst1_var ho
            rw [h3]
            have h4 := Hsok.out.bound x0 (List.mem_of_getElem? hx0) h1
            refine ⟨⟨?_, R.pnode_imm hpn (.inl h1)⟩, ?_⟩
            · exact nd_imm HR1.out.sr x0 (List.mem_of_getElem? hx0)
            · cases e : s.v x0.imm with
              | none => exact absurd e h4
              | some f => exact ⟨f, rfl⟩)
          have Hxa := Lib.hid (show x.args.length ≤ 3 from by
            rw [hxi]
            rcases R.inst1_args r.right mw s.hs x0 with e | e
            · rw [e]; exact R.pnode_small hpn
            · rw [e]; simp)
          have Hx := Lib.hid hx
          have Hi := Lib.hid (show 0 ≤ x.imm ∧ x.imm < 4294967296 from ⟨i0, i1⟩)
          have Hsx := Lib.hid hsx
          obtain ⟨X1, hX1⟩ : ∃ X1, X1 = wq.alloc (.cells #[.int .i64 x.op, .int .i64 x.w, .int .i64 x.fl, .slice Ax x.args.length cx, .int .u32 x.imm] 41) := ⟨_, rfl⟩
          have hbX : Below wq.heap.size wq X1 := by rw [hX1]; exact (Below.refl _ _).alloc (Nat.le_refl _) _
          have hrX : X1.heap[wq.heap.size]? = some (.cells #[.int .i64 x.op, .int .i64 x.w, .int .i64 x.fl, .slice Ax x.args.length cx, .int .u32 x.imm] 41 (0, 0)) := by rw [hX1]; exact heap_alloc_new wq _
          have HsX := Lib.hid (show X1.heap.size = wq.heap.size + 1 from by rw [hX1]; simp)
          have HbX := Lib.hid hbX
          have HrX := Lib.hid hrX
          have HbX4 := Lib.hid (Hbq.out.trans (hbX.mono Hbq.out.size))
          have HGX := Lib.hid ((hbX.block _ (Array.getElem?_eq_some_iff.1 HqG.out).1).trans HqG.out)
          have HPX := Lib.hid ((hbX.block _ (Array.getElem?_eq_some_iff.1 HqP.out).1).trans HqP.out)
          have HOX := Lib.hid (HqO.out.below (ndX_rel _ _) hbX)
          have Hzq := Lib.hid (show w4.heap.size < wq.heap.size ∧ wz.heap.size < wq.heap.size from ⟨(Array.getElem?_eq_some_iff.1 HqG.out).1, (Array.getElem?_eq_some_iff.1 HqP.out).1⟩)
          obtain ⟨z0, z1, z2, z3, z4, _⟩ := nd5_all hrX
          have Z0 := Lib.hid (nd5_all hrX)
          have HX1 := Lib.hid hX1
          rw [hX1] at z0
          clear hx hxi hx0 hpn hb p0 p1 p2 p3 p4 hsx i0 i1 hX1 hbX hrX z1 z2 z3 z4
          go_upto_if 86 with (fail)
          rw [← HX1.out]
          clear q0 q1 q2 q3 q4 z0
          obtain ⟨z0, z1, z2, z3, z4, zf0, zf1, zf2, zf3, zf4⟩ := Z0.out
          by_cases h33 : x.op = 33
          · have qop : (x.op == 33) = true := by simpa using h33
            obtain ⟨⟨hi0, hi2⟩, f, hsf⟩ := Hxb.out h33
            obtain ⟨ii, hii⟩ : ∃ ii : Nat, x.imm = ii := ⟨x.imm.toNat, by omega⟩
            have hii2 : ii < 2 := by omega
            obtain ⟨rv, hrv⟩ : ∃ rv, rs[ii]? = some rv := ⟨_, List.getElem?_eq_getElem (by rw [Hrs.out]; omega)⟩
            have cg := (row_at HGX.out (roots_at hrv)).1
            obtain ⟨cp0, cpf⟩ := row_at HPX.out (roots_at (List.getElem?_eq_getElem (show k < pl.length by rw [Hpl.out]; exact hkm)))
            have HPl2 := Lib.hid (HqPl.out.var (a := rv) Hx.out h33 (by rw [Hpl.out]; exact hkm) (by
              have h1 := HqR.out ii (by omega) f (by rw [← hii]; exact hsf)
              rw [List.getD_eq_getElem?_getD, hrv] at h1
              unfold R.St.tr
              rw [hsf]
              exact h1))
            have HPX2 := Lib.hid (show (X1.setCell ⟨wz.heap.size, k, none⟩ (.int .i64 rv)).heap[wz.heap.size]? = some (.cells (roots4 (pl.set k rv)) 3 (0, 0)) from by
              rw [← roots_set]; exact heap_setCell_same _ _ _ _ _ _ HPX.out)
            have HGX2 := Lib.hid (show (X1.setCell ⟨wz.heap.size, k, none⟩ (.int .i64 rv)).heap[w4.heap.size]? = _ from (heap_setCell_other X1 ⟨wz.heap.size, k, none⟩ w4.heap.size (.int .i64 rv) (Nat.ne_of_lt Hglt.out)).trans HGX.out)
            have HbX2 := Lib.hid (HbX4.out.setCell (p := ⟨wz.heap.size, k, none⟩) (Nat.le_of_lt Hglt.out) (.int .i64 rv))
            have HOX2 := Lib.hid (HOX.out.ex (setCell_grown X1 wz.heap.size k (.int .i64 rv)) (fun g hg => by injection hg with hg; subst hg; exact ⟨.inr rfl, _, _, HPX.out⟩))
            rw [hii] at z4
            clear h33 hsf hrv
            go_wp2
            go_roundg (gO - 1)
            case measure => have := HgO.out; omega
            case rel =>
              have := HgO.out
              exact ⟨k + 1, o, _, by omega, by go_num, by omega, HbX2, HGX2, HPX2, Lib.hid (by rw [List.length_set]; exact Hpl.out), HOX2, HqOrd, HqR, HPl2, Lib.hid (by have := HqL.out; omega), HqA⟩
          · have qop : (x.op == 33) = false := by simpa using h33
            rw [qop, show decide ((k : Int) < (mr : Int) + 1) = true from decide_eq_true (by omega)]
            clear qop
            have HPl2 := Lib.hid (HqPl.out.node Horr.out Hx.out h33 (by rw [Hpl.out]; exact hkm))
            have HAr := Lib.hid (HqPl.out.args Horr.out Hx.out)
            have Hxo := Lib.hid (Horr.out k x Hx.out)
            clear h33
            obtain ⟨L, hL⟩ : ∃ L, x.args.length = L := ⟨_, rfl⟩
            have HL := Lib.hid hL
            have hL3 : L ≤ 3 := by rw [← hL]; exact Hxa.out
            rw [hL] at z3 HrX
            clear hL
            obtain ⟨fa, hfa⟩ : ∃ fa : Int → Int, (fun a : Int => pl.getD a.toNat 0) = fa := ⟨_, rfl⟩
            rw [hfa] at HPl2 HAr
            have Hfa := Lib.hid hfa
            clear hfa
            go_wp2
            go_loopg [18, 19] (L + 1) (fun gg v18 i w9 => ∃ q : Nat, q ≤ L ∧ i = .int .i64 (q : Int) ∧ gg + q = L + 1 ∧ Hid (Below X1.heap.size X1 w9) ∧ Hid (OwnAt w9 3 1 v18 q (((x.args.take q).map fa).map (Value.int .i64))) ∧ Hid (∀ g, v18.ownBlock = some g → X1.heap.size ≤ g))
            case atStart => exact ⟨0, Nat.zero_le _, rfl, rfl, Lib.hid (Below.refl _ _), Lib.hid (OwnAt.nil_ _ _ _), Lib.hid (fun g hg => by simp [Value.ownBlock] at hg)⟩
            case round =>
              obtain ⟨q, hq, rfl, hgk, Hb9, Hv, Hvb⟩ := hrel
              obtain ⟨w9, rfl⟩ : ∃ w, w = wr := ⟨_, rfl⟩
              have Hgk := Lib.hid hgk; clear hgk
              obtain ⟨Av, cv, rfl⟩ := Hv.out.form
              have y3 := (Hb9.out.cell (p := ⟨wq.heap.size, 3, none⟩) (by have := HsX.out; show wq.heap.size < X1.heap.size; omega)).trans z3
              by_cases hqL : q < L
              · obtain ⟨a, ba, oa, ua, ha, hAx, hba, hca, rfl⟩ := Hsx.out.at_ (show q < x.args.length by rw [HL.out]; exact hqL)
                subst hAx
                have hao := Hxo.out a (List.mem_of_getElem? ha)
                obtain ⟨an, rfl⟩ : ∃ an : Nat, a = an := ⟨a.toNat, by omega⟩
                obtain ⟨zv, hzv⟩ : ∃ zv, pl[an]? = some zv := ⟨_, List.getElem?_eq_getElem (by rw [Hpl.out]; omega)⟩
                have hfz : fa (an : Int) = zv := by rw [← Hfa.out]; dsimp only; rw [Int.toNat_natCast, List.getD_eq_getElem?_getD, hzv]; rfl
                have hca9 := (((HbX4.out.trans (Hb9.out.mono HbX4.out.size))).cell (p := ⟨ba, oa + q, none⟩) hba).trans hca
                have hcp9 := (Hb9.out.cell (p := ⟨wz.heap.size, an, none⟩) (by have := HsX.out; have := Hzq.out; show wz.heap.size < X1.heap.size; omega)).trans (row_at HPX.out (roots_at hzv)).1
                have han : (an : Int) < (mr : Int) + 1 := by omega
                have Hnx := Lib.hid (show ((x.args.take (q + 1)).map fa).map (Value.int .i64) = ((x.args.take q).map fa).map (Value.int .i64) ++ [.int .i64 zv] from by rw [take_next ha, List.map_append, List.map_append]; simp [hfz])
                clear ha hba hca hao hzv hfz
                go_wp2_with (at_builtin
                             refine wpList_append_one' rfl (.tmp 102) (.tmp 111) 38 rfl 3 (.int .i64 0) 8 Tryd.underlying38 infoI rfl _ q _ rfl Hv.out (.int .i64 zv) rfl 3 w9.heap.size rfl rfl (by omega) (by decide) ?_
                             intro v' w10 hown' hgr hat
                             have Hown10 := Lib.hid (show OwnAt w10 3 1 v' (q + 1) (((x.args.take (q + 1)).map fa).map (Value.int .i64)) from by rw [Hnx.out]; exact hown')
                             have Hb10 := Lib.hid (show Below X1.heap.size X1 w10 from ((Hb9.out.alloc Hb9.out.size _).grown hgr (by have := Hb9.out.size; simp; omega) (fun g hg => Hvb.out g hg)))
                             have Hvb10 := Lib.hid (show ∀ g, v'.ownBlock = some g → X1.heap.size ≤ g from fun g hg => by
                               rcases hat with e | e
                               · exact Hvb.out g (e.symm.trans hg)
                               · rw [e] at hg; injection hg with hg; have := Hb9.out.size; omega)
                             clear hown' hgr hat)
                go_roundg (gk - 1)
                case measure => have := Hgk.out; omega
                case rel =>
                  have := Hgk.out
                  exact ⟨q + 1, by omega, by go_num, by omega, Hb10, Hown10, Hvb10⟩
              · obtain rfl : q = L := by omega
                have eT : x.args.take q = x.args := List.take_of_length_le (by rw [HL.out]; exact Nat.le_refl _)
                rw [eT] at Hv
                have hrx9 := (Hb9.out.block _ (by have := HsX.out; show wq.heap.size < X1.heap.size; omega)).trans HrX.out
                obtain ⟨_, _, _, t3, _, _, _, _, tf3, _⟩ := nd5_all hrx9
                have Hrx9 := Lib.hid hrx9
                clear hrx9 eT hqL hq
                go_upto_region 28 with (fail)
                obtain ⟨w10, hw10⟩ : ∃ w10, w10 = w9.setCell ⟨wq.heap.size, 3, none⟩ (.slice Av q cv) := ⟨_, rfl⟩
                have HrxA := Lib.hid (show w10.heap[wq.heap.size]? = some (.cells #[.int .i64 x.op, .int .i64 x.w, .int .i64 x.fl, .slice Av q cv, .int .u32 x.imm] 41 (0, 0)) from by rw [hw10]; exact heap_setCell_same _ _ 3 _ _ _ Hrx9.out)
                have HbA := Lib.hid (show Below wq.heap.size wq w10 from by rw [hw10]; exact (HbX.out.trans (Hb9.out.mono HbX.out.size)).setCell (p := ⟨wq.heap.size, 3, none⟩) (Nat.le_refl _) _)
                have HvA := Lib.hid (show OwnAt w10 3 1 (.slice Av q cv) q ((x.args.map fa).map (Value.int .i64)) from by rw [hw10]; exact Hv.out.setCell (p := ⟨wq.heap.size, 3, none⟩) (fun e => by have h1 : X1.heap.size ≤ wq.heap.size := Hvb.out _ e; have := HsX.out; omega) _)
                rw [← hw10]
                clear hw10 t3 tf3 y3 z0 z1 z2 z3 z4 zf0 zf1 zf2 zf3 zf4
                have HGA := Lib.hid ((HbA.out.block _ (Array.getElem?_eq_some_iff.1 HqG.out).1).trans HqG.out)
                have HPA := Lib.hid ((HbA.out.block _ (Array.getElem?_eq_some_iff.1 HqP.out).1).trans HqP.out)
                have HOA := Lib.hid (HqO.out.below (ndX_rel _ _) HbA.out)
                have HbA4 := Lib.hid (Hbq.out.trans (HbA.out.mono Hbq.out.size))
                obtain ⟨cp0, cpf⟩ := row_at HPA.out (roots_at (List.getElem?_eq_getElem (show k < pl.length by rw [Hpl.out]; exact hkm)))
                go_upto_region 29 with (fail)
                obtain ⟨wB, hwB⟩ : ∃ wB, wB = w10.setCell ⟨wz.heap.size, k, none⟩ (.int .i64 (o.length : Int)) := ⟨_, rfl⟩
                have hgB := setCell_grown w10 wz.heap.size k (.int .i64 (o.length : Int))
                rw [← hwB] at hgB ⊢
                have HPB := Lib.hid (show wB.heap[wz.heap.size]? = some (.cells (roots4 (pl.set k (o.length : Int))) 3 (0, 0)) from by
                  rw [hwB, ← roots_set]; exact heap_setCell_same _ _ _ _ _ _ HPA.out)
                have HGB := Lib.hid (show wB.heap[w4.heap.size]? = some (.cells (roots4 rs) 3 (0, 0)) from by rw [hwB]; exact (heap_setCell_other w10 ⟨wz.heap.size, k, none⟩ w4.heap.size _ (Nat.ne_of_lt Hglt.out)).trans HGA.out)
                have HrxB := Lib.hid (show wB.heap[wq.heap.size]? = some (.cells #[.int .i64 x.op, .int .i64 x.w, .int .i64 x.fl, .slice Av q cv, .int .u32 x.imm] 41 (0, 0)) from by rw [hwB]; exact (heap_setCell_other w10 ⟨wz.heap.size, k, none⟩ wq.heap.size _ (by have := Hzq.out; show wq.heap.size ≠ wz.heap.size; omega)).trans HrxA.out)
                have HbB := Lib.hid (show Below w4.heap.size w4 wB from by rw [hwB]; exact HbA4.out.setCell (p := ⟨wz.heap.size, k, none⟩) (Nat.le_of_lt Hglt.out) _)
                have HOB := Lib.hid (show OwnR (NdX w4.heap.size (fun i => i = w4.heap.size ∨ i = wz.heap.size)) w4.heap.size wB (.slice A7 o.length k7) o from HOA.out.ex hgB (fun g hg => by injection hg with hg; subst hg; exact ⟨.inr rfl, _, _, HPA.out⟩))
                have Hvbk := Lib.hid (show ∀ g, (Value.slice Av q cv).ownBlock = some g → wq.heap.size < g from fun g hg => by have := Hvb.out g hg; have := HsX.out; omega)
                have HvB := Lib.hid (show OwnAt wB 3 1 (.slice Av q cv) q ((x.args.map fa).map (Value.int .i64)) from by rw [hwB]; exact HvA.out.setCell (p := ⟨wz.heap.size, k, none⟩) (fun e => by have h1 : wq.heap.size < wz.heap.size := Hvbk.out _ e; have := Hzq.out; omega) _)
                have HszB := Lib.hid (show w4.heap.size ≤ wB.heap.size from HbB.out.size)
                obtain ⟨y, hy⟩ : ∃ y : T.Nd, (⟨x.op, x.w, x.fl, x.args.map fa, x.imm⟩ : T.Nd) = y := ⟨_, rfl⟩
                have Hy := Lib.hid hy
                have Hyl := Lib.hid (show y.args.length = q from by rw [← hy]; dsimp only; rw [List.length_map]; exact HL.out)
                have HndB := Lib.hid (show NdX w4.heap.size (fun i => i = w4.heap.size ∨ i = wz.heap.size) wB (ndC y Av cv) y from by
                  have hl := Hyl.out
                  refine ⟨Av, cv, rfl, by rw [hl]; rw [← hy]; exact HvB.out, by rw [← hy]; exact Hi.out.1, by rw [← hy]; exact Hi.out.2, fun g hg => ?_⟩
                  rw [hl] at hg
                  have h1 := Hvbk.out g hg
                  have h2 := Hzq.out
                  exact ⟨by omega, by omega⟩)
                have Hus := Lib.hid (show ndC y Av cv = [.int .i64 x.op, .int .i64 x.w, .int .i64 x.fl, .slice Av q cv, .int .u32 x.imm] from by
                  unfold ndC; rw [Hyl.out, ← hy])
                rw [hy] at HPl2
                clear hwB hgB hy cp0 cpf
                obtain ⟨m0, m1, m2, m3, m4, _⟩ := nd5_all HrxB.out
                go_wp2_with (at_builtin
                             clear m0 m1 m2 m3 m4
                             refine wpList_append_nodeR2 (ndX_rel w4.heap.size (fun i => i = w4.heap.size ∨ i = wz.heap.size)) rfl (.tmp 120) (.tmp 122) rfl _ o rfl HOB.out [.int .i64 x.op, .int .i64 x.w, .int .i64 x.fl, .slice Av q cv, .int .u32 x.imm] y (by rw [← Hus.out]; exact HndB.out) _ (by simp) rfl (by omega) HszB.out ?_
                             intro v' wC hownC hgrC
                             have hbC : Below wB.heap.size wB (wB.alloc (.cells #[.int .i64 x.op, .int .i64 x.w, .int .i64 x.fl, .slice Av q cv, .int .u32 x.imm] 41)) := (Below.refl _ _).alloc (Nat.le_refl _) _
                             have hneC : ∀ g' cur fr, wB.heap[g']? = some (.cells cur 3 fr) → some g' ≠ (Value.slice A7 o.length k7).ownBlock := fun g' cur fr hc e => by
                               obtain ⟨_, cur2, fr2, hc2⟩ := HOB.out.row g' e.symm
                               rw [hc] at hc2
                               injection hc2 with hc2
                               injection hc2 with _ hc2 _
                               revert hc2
                               decide
                             have HGC := Lib.hid ((hgrC.block _ (by have := (Array.getElem?_eq_some_iff.1 HGB.out).1; simp; omega) (hneC _ _ _ HGB.out)).trans ((hbC.block _ (Array.getElem?_eq_some_iff.1 HGB.out).1).trans HGB.out))
                             have HPC := Lib.hid ((hgrC.block _ (by have := (Array.getElem?_eq_some_iff.1 HPB.out).1; simp; omega) (hneC _ _ _ HPB.out)).trans ((hbC.block _ (Array.getElem?_eq_some_iff.1 HPB.out).1).trans HPB.out))
                             have HbC := Lib.hid (show Below w4.heap.size w4 wC from (HbB.out.trans (hbC.mono HbB.out.size)).grown hgrC (by have := HszB.out; simp; omega) (fun g hg => (HOB.out.row g hg).1))
                             have HOC := Lib.hid hownC
                             clear hownC hgrC hbC hneC)
                go_roundg (gO - 1)
                case measure => have := HgO.out; omega
                case rel =>
                  have := HgO.out
                  refine ⟨k + 1, o ++ [y], _, by omega, by go_num, by omega, HbC, HGC, HPC, Lib.hid (by rw [List.length_set]; exact Hpl.out), HOC, Lib.hid ?_, Lib.hid ?_, HPl2, Lib.hid ?_, Lib.hid ?_⟩
                  · refine R.ord_snoc HqOrd.out (fun a ha => ?_)
                    rw [← Hy.out] at ha
                    exact HAr.out a ha
                  · exact fun i hi f hf => R.rep_more (HqR.out i hi f hf)
                  · rw [List.length_append]; have := HqL.out; simp; omega
                  · intro z hz
                    rcases List.mem_append.1 hz with hz | hz
                    · exact HqA.out z hz
                    · simp at hz
                      subst hz
                      rw [Hyl.out]; exact hL3
        · obtain rfl : k = mr + 1 := by omega
          have hroot := T.root_rep Horr.out (by rw [Hrl.out]; omega)
          rw [Hrl.out, show ((mr + 1 : Nat) : Int) - 1 = (mr : Int) by omega] at hroot
          have hfin := HqPl.out mr (by omega) _ hroot
          obtain ⟨zv, hzv⟩ : ∃ zv, pl[mr]? = some zv := ⟨_, List.getElem?_eq_getElem (by rw [Hpl.out]; omega)⟩
          rw [show pl.getD mr 0 = zv from by rw [List.getD_eq_getElem?_getD, hzv]; rfl] at hfin
          have hlt := R.rep_lt hfin
          obtain ⟨zn, rfl⟩ : ∃ zn : Nat, zv = zn := ⟨zv.toNat, by omega⟩
          have hcp := (row_at HqP.out (roots_at hzv)).1
          have Hsh := Lib.hid (Shared_any (ct := k7) (HqO.out.toF.stAt (ndF_rel _) rfl) HqOrd.out (by omega) (fun x hx => by have := HqA.out x hx; omega) (show zn < o.length by omega) _ hfin)
          obtain ⟨cn, hcn⟩ : ∃ cn, T.canon (R.sub s.tr (T.root rt)) = cn := ⟨_, rfl⟩
          rw [hcn] at Hsh
          have Hrw := Lib.hid (show R.rew r t = if 300 < cn.length then ([], false, 3) else (cn, true, 0) from by
            have e : T.canon (R.rtree r t s) = cn := by unfold R.rtree; rw [Hmw.out, Hrt.out]; exact hcn
            unfold R.rew
            rw [He.out, if_neg (by simp), Hs.out]
            dsimp only
            rw [e])
          have HbF := Lib.hid (Hb1.out.trans ((Hb4.out.trans (Hbq.out.mono Hb4.out.size)).mono Hb1.out.size))
          have em : (mr : Int) + 1 - 1 = (mr : Int) := by omega
          clear hroot hfin hzv hlt hcn
          go_wp2_with fail
          (with_reducible refine Hsh.out.mono ?_)
          rintro e wD ⟨vD, rfl, hownD, hbD⟩
          obtain ⟨A9, k9, rfl⟩ := hownD.form
          have HbD := Lib.hid (HbF.out.trans (hbD.mono HbF.out.size))
          have HoD := Lib.hid (hownD.weak (B := W.heap.size) HbF.out.size)
          clear hownD hbD hcp
          by_cases hbig : 300 < cn.length
          · have qb : decide (300 < (cn.length : Int)) = true := decide_eq_true (by omega)
            have Hm := Lib.hid (show R.rew r t = ([], false, 3) from by rw [Hrw.out, if_pos hbig])
            clear hbig
            go_wp2
            go_ret3
            exact rewPost_none Hm.out HbD.out
          · have qb : decide (300 < (cn.length : Int)) = false := decide_eq_false (by omega)
            have Hm := Lib.hid (show R.rew r t = (cn, true, 0) from by rw [Hrw.out, if_neg hbig])
            clear hbig
            go_wp2
            go_ret3
            unfold RewPost
            rw [Hm.out]
            exact ⟨_, rfl, HoD.out, HbD.out⟩
end Go.Proofs.YtmebpgggfppmhaaDoor
end
section
namespace Go.Proofs.YtmebpgggfppmhaaDoor
open Go.RowKit
set_option linter.unusedVariables false
set_option linter.unusedSimpArgs false

set_option maxRecDepth 100000 in
set_option maxHeartbeats 2000000 in
theorem ruleRewrites_any {r : R.Rl} {t : List T.Nd} {nl cl nr cr np cp nt ct : Nat} {AL AR AP At : Option Addr} {W : World} (hR : RlAt W r nl nr np AL AR AP) (hS : StAt 5 NdR W At nt t) (hf : R.flr t) (hT : TabAt W) :
    Calls Tryd.prog 3 #[.agg #[.slice AL nl cl, .slice AR nr cr, .slice AP np cp], .slice At nt ct] W fun e W' => e = .returned (.bool true) ∧ Below W.heap.size W W' := by
  have hleS := hS.le
  obtain ⟨W1, hW1⟩ : ∃ W1, W1 = W.alloc (.cells #[.slice AL nl cl, .slice AR nr cr, .slice AP np cp] 25) := ⟨_, rfl⟩
  have hb1 : Below W.heap.size W W1 := by rw [hW1]; exact (Below.refl _ _).alloc (Nat.le_refl _) _
  have hrow : W1.heap[W.heap.size]? = some (.cells #[.slice AL nl cl, .slice AR nr cr, .slice AP np cp] 25 (0, 0)) := by rw [hW1]; exact heap_alloc_new W _
  obtain ⟨c0, c1, c2, _⟩ := rl_cells hrow
  have Hrow := Lib.hid hrow
  have Hb1 := Lib.hid hb1
  have HT := Lib.hid (hT.below hb1)
  have HR1 := Lib.hid (hR.below hb1)
  have HS := Lib.hid (hS.below monoNd hb1)
  have Hf := Lib.hid hf
  have Hlg := Lib.hid (rLong_any (cl := cl) (cr := cr) (cp := cp) HR1.out)
  have Hln := Lib.hid (fun X (h : Below W1.heap.size W1 X) => Long_any t nt ct At X (HS.out.below monoNd h))
  have Hkn := Lib.hid (fun X (h : Below W1.heap.size W1 X) => known_any X (HT.out.below h))
  have HW1 := Lib.hid hW1
  obtain ⟨lg, hlg⟩ : ∃ lg, R.rlong r = lg := ⟨_, rfl⟩
  obtain ⟨ln, hln⟩ : ∃ ln, T.long t = ln := ⟨_, rfl⟩
  rw [hlg] at Hlg
  rw [hln] at Hln
  rw [hW1] at c0 c1 c2
  clear hR hS hf hb1 hW1 hrow hlg hln hT
  cases lg with
  | true =>
    go_enter Tryd.func3, Tryd.ntmps3
    go_wp2_with fail
    rw [← HW1.out]
    (with_reducible refine Hlg.out.mono ?_)
    rintro e w2 ⟨rfl, hb2⟩
    have Hb2 := Lib.hid hb2
    clear hb2 c0 c1 c2
    go_wp2_with fail
    (with_reducible refine (Hkn.out _ Hb2.out).mono ?_)
    rintro e w3 ⟨rfl, hb3⟩
    have Hb3 := Lib.hid (Hb1.out.trans ((Hb2.out.trans (hb3.mono Hb2.out.size)).mono Hb1.out.size))
    clear hb3
    go_wp2
    go_ret
    exact ⟨rfl, Hb3.out⟩
  | false =>
    cases ln with
    | true =>
      go_enter Tryd.func3, Tryd.ntmps3
      go_wp2_with fail
      rw [← HW1.out]
      (with_reducible refine Hlg.out.mono ?_)
      rintro e w2 ⟨rfl, hb2⟩
      have Hb2 := Lib.hid hb2
      clear hb2 c0 c1 c2
      go_wp2_with fail
      (with_reducible refine (Hln.out _ Hb2.out).mono ?_)
      rintro e w3 ⟨rfl, rfl⟩
      go_wp2_with fail
      (with_reducible refine (Hkn.out _ Hb2.out).mono ?_)
      rintro e w3 ⟨rfl, hb3⟩
      have Hb3 := Lib.hid (Hb1.out.trans ((Hb2.out.trans (hb3.mono Hb2.out.size)).mono Hb1.out.size))
      clear hb3
      go_wp2
      go_ret
      exact ⟨rfl, Hb3.out⟩
    | false =>
      obtain ⟨ls, is, er, hm⟩ : ∃ ls is er, R.rew r t = (ls, is, er) := ⟨_, _, _, rfl⟩
      have Hmp := Lib.hid (show ∀ X e X', RewPost X r t e X' → ∃ A1 k1, e = .returned (.tuple #[.slice A1 ls.length k1, .bool is, .int .i64 er]) ∧ OwnR (NdF X.heap.size) X.heap.size X' (.slice A1 ls.length k1) ls ∧ Below X.heap.size X X' from fun X e X' ⟨v, h1, h2, h5⟩ => by
        rw [hm] at h1 h2
        obtain ⟨A1, k1, rfl⟩ := h2.form
        exact ⟨A1, k1, h1, h2, h5⟩)
      have Hg := Lib.hid (fun X (h : Below W1.heap.size W1 X) => gRewrite_any (cl := cl) (cr := cr) (cp := cp) (ct := ct) (HR1.out.below h) (HS.out.below monoNd h) Hf.out (HT.out.below h))
      have Hr := Lib.hid (fun X (h : Below W1.heap.size W1 X) => rRewrite_any (cl := cl) (cr := cr) (cp := cp) (ct := ct) (HR1.out.below h) (HS.out.below monoNd h))
      clear hm
      have qe : (er == er) = true := beq_self_eq_true er
      have qm : (is == is) = true := beq_self_eq_true is
      go_enter Tryd.func3, Tryd.ntmps3
      go_wp2_with fail
      rw [← HW1.out]
      (with_reducible refine Hlg.out.mono ?_)
      rintro e w2 ⟨rfl, hb2⟩
      have Hb2 := Lib.hid hb2
      have hrow2 := (hb2.block _ (Array.getElem?_eq_some_iff.1 Hrow.out).1).trans Hrow.out
      obtain ⟨d0, d1, d2, _⟩ := rl_cells hrow2
      have Hrow2 := Lib.hid hrow2
      clear hb2 c0 c1 c2 hrow2
      go_wp2_with fail
      (with_reducible refine (Hln.out _ Hb2.out).mono ?_)
      rintro e w3 ⟨rfl, rfl⟩
      go_wp2_with fail
      (with_reducible refine (Hg.out _ Hb2.out).mono ?_)
      intro e w3 hp3
      obtain ⟨A1, k1, rfl, hs1, hb3⟩ := Hmp.out _ _ _ hp3
      have Hb3 := Lib.hid (Hb2.out.trans (hb3.mono Hb2.out.size))
      have hrow3 := (hb3.block _ (Array.getElem?_eq_some_iff.1 Hrow2.out).1).trans Hrow2.out
      obtain ⟨d0, d1, d2, _⟩ := rl_cells hrow3
      have HS1 := Lib.hid (hs1.stAt (ndF_rel _) rfl)
      clear hb3 hrow3 hp3 hs1
      go_wp2_with fail
      (with_reducible refine (Hr.out _ Hb3.out).mono ?_)
      intro e w4 hp4
      obtain ⟨B1, l1, rfl, hs1, hb4⟩ := Hmp.out _ _ _ hp4
      have Hb4 := Lib.hid (Hb3.out.trans (hb4.mono Hb3.out.size))
      have Hq := Lib.hid (SameNodes_any (c := k1) (c' := l1) (HS1.out.below monoNd hb4) (hs1.stAt (ndF_rel _) rfl))
      rw [decide_eq_true (rfl : ls = ls)] at Hq
      clear hb4 d0 d1 d2 hp4 hs1
      go_wp2_with fail
      (with_reducible refine Hq.out.mono ?_)
      rintro e w5 ⟨rfl, hb5⟩
      have Hb5 := Lib.hid (Hb4.out.trans (hb5.mono Hb4.out.size))
      clear hb5
      go_wp2_with fail
      (with_reducible refine (Hkn.out _ Hb5.out).mono ?_)
      rintro e w9 ⟨rfl, hb9⟩
      have Hb9 := Lib.hid (Hb1.out.trans ((Hb5.out.trans (hb9.mono Hb5.out.size)).mono Hb1.out.size))
      clear hb9
      go_wp2
      go_ret
      exact ⟨rfl, Hb9.out⟩
end Go.Proofs.YtmebpgggfppmhaaDoor
end
