/- Merged: QShA, QZ8. -/
import Derived.Test.YtcmlmjbpdaecbaaGreatA27
import Derived.Test.YtcmlmjbpdaecbaaGreatA04
set_option linter.unusedVariables false
set_option linter.unusedSimpArgs false
section
namespace Go.Proofs.YtcmlmjbpdaecbaaGreat
open Go.RowKit
set_option linter.unusedVariables false
set_option linter.unusedSimpArgs false

/-- what stays of nodes while others are made -/
structure NdRel (B : Nat) (R : World → List Value → T.Nd → Prop) : Prop where
  form : ∀ {w us x}, R w us x → NdR w us x
  below : ∀ {w w' us x}, R w us x → Below w.heap.size w w' → R w' us x
  grown : ∀ {w w' us x} {row : Option Nat}, R w us x → w.grownBy w' row → (∀ g, row = some g → B ≤ g ∧ ∃ cur fr, w.heap[g]? = some (.cells cur 63 fr)) → R w' us x

/-- The slice v, of the call's own, holds these nodes; its array lies at B or above. -/
def OwnR (R : World → List Value → T.Nd → Prop) (B : Nat) (w : World) (v : Value) (nds : List T.Nd) : Prop :=
  ∃ cells, OwnAt w 63 5 v nds.length cells ∧ (∀ (k : Nat) (x : T.Nd), nds[k]? = some x → R w ((cells.drop (k * 5)).take 5) x) ∧ ∀ g, v.ownBlock = some g → B ≤ g

section
variable {R : World → List Value → T.Nd → Prop} {B : Nat} {w w' : World} {v : Value} {nds : List T.Nd}

theorem OwnR.nil_ (R : World → List Value → T.Nd → Prop) (B : Nat) (w : World) : OwnR R B w (.slice none 0 0) [] := ⟨[], OwnAt.nil_ _ _ _, fun k x h => by simp at h, fun g h => by simp [Value.ownBlock] at h⟩

theorem OwnR.form (h : OwnR R B w v nds) : ∃ A c, v = .slice A nds.length c := by
  obtain ⟨cells, h1, _⟩ := h
  exact h1.form

theorem OwnR.below (hR : NdRel B R) (h : OwnR R B w v nds) (hb : Below w.heap.size w w') : OwnR R B w' v nds := by
  obtain ⟨cells, h1, h2, h3⟩ := h
  exact ⟨cells, h1.below hb h1.lt, fun k x hx => hR.below (h2 k x hx) hb, h3⟩

theorem OwnR.stAt (hR : NdRel B R) {A : Option Addr} {n c : Nat} (h : OwnR R B w (.slice A n c) nds) (hn : nds.length = n) : StAt 5 NdR w A n nds := by
  obtain ⟨cells, h1, h2, h3⟩ := h
  rw [hn] at h1
  exact h1.stAt hn fun k x hx => hR.form (h2 k x hx)

theorem OwnR.row (h : OwnR R B w v nds) : ∀ g, v.ownBlock = some g → B ≤ g ∧ ∃ cur fr, w.heap[g]? = some (.cells cur 63 fr) := by
  obtain ⟨cells, h1, h2, h3⟩ := h
  intro g hg
  refine ⟨h3 g hg, ?_⟩
  rcases h1.2 with ⟨rfl, _⟩ | ⟨g', off, cap, cur, rfl, hcur, _⟩
  · simp [Value.ownBlock] at hg
  · simp [Value.ownBlock] at hg
    subst hg
    exact ⟨cur, _, hcur⟩
end

/-- nodes in new memory: their operands lie in new blocks of numbers -/
def NdF (B : Nat) (w : World) (us : List Value) (x : T.Nd) : Prop :=
  ∃ A c, us = ndC x A c ∧ OwnAt w 3 1 (.slice A x.args.length c) x.args.length (x.args.map (Value.int .i64)) ∧ 0 ≤ x.imm ∧ x.imm < 4294967296 ∧ ∀ g, (Value.slice A x.args.length c).ownBlock = some g → B ≤ g

theorem ndF_rel (B : Nat) : NdRel B (NdF B) := by
  constructor
  · rintro w us x ⟨A, c, h1, h2, h3, h4, _⟩
    exact ⟨A, c, h1, h2.slInts, h3, h4⟩
  · rintro w w' us x ⟨A, c, h1, h2, h3, h4, h5⟩ hb
    exact ⟨A, c, h1, h2.below hb h2.lt, h3, h4, h5⟩
  · rintro w w' us x row ⟨A, c, h1, h2, h3, h4, h5⟩ hg hr
    refine ⟨A, c, h1, h2.kept hg ?_, h3, h4, h5⟩
    rcases e : (Value.slice A x.args.length c).ownBlock with _ | g
    · exact .inl rfl
    · refine .inr fun e' => ?_
      obtain ⟨_, cur, fr, hc⟩ := hr g e'.symm
      rcases h2.2 with ⟨e1, _⟩ | ⟨g', off, cap, cur', e1, hc', _⟩
      · rw [e1] at e; simp [Value.ownBlock] at e
      · rw [e1] at e
        simp [Value.ownBlock] at e
        subst e
        rw [hc] at hc'
        injection hc' with hc'
        injection hc' with _ hc' _
        exact absurd hc' (by decide)
theorem SameInts_any (A B : Option Addr) (n m c d : Nat) (xs ys : List Int) (W : World) (hA : SlAt (IntR .i64) W A n xs) (hB : SlAt (IntR .i64) W B m ys) :
    Calls Tryz.prog 170 #[.slice A n c, .slice B m d] W fun e w' => e = .returned (.bool (decide (xs = ys))) ∧ Dr W w' := by
  have HA := Lib.hid hA
  have HB := Lib.hid hB
  have h1 := hA.le
  have h2 := hB.le
  have Hl1 := Lib.hid hA.len
  have Hl2 := Lib.hid hB.len
  clear hA hB
  obtain ⟨r, hr⟩ : ∃ r, r = decide (xs = ys) := ⟨_, rfl⟩
  rw [← hr]
  have Hr := Lib.hid hr
  clear hr
  by_cases hnm : n = m
  · subst hnm
    have q : ((n : Int) != (n : Int)) = false := by simp
    go_enter Tryz.func170, Tryz.ntmps170
    go_wp2
    go_loopg [5] (n + 1) (fun g i wr => ∃ j : Nat, j ≤ n ∧ i = .int .i64 (j : Int) ∧ g + j = n + 1 ∧ Hid (xs.take j = ys.take j) ∧ Hid (Dr W wr))
    case atStart => exact ⟨0, Nat.zero_le _, rfl, rfl, Lib.hid rfl, Lib.hid (Dr.refl _)⟩
    case round =>
      obtain ⟨j, hj, rfl, hgk, Heq, HD⟩ := hrel
      have Hgk := Lib.hid hgk; clear hgk
      by_cases hlt : j < n
      · obtain ⟨x, b, off, u, hx, rfl, hb, hc, hu⟩ := (HA.out.dr (monoInt _) HD.out).at_ hlt
        obtain rfl : u = .int .i64 x := hu
        obtain ⟨y, b2, off2, u2, hy, rfl, hb2, hc2, hu2⟩ := (HB.out.dr (monoInt _) HD.out).at_ hlt
        obtain rfl : u2 = .int .i64 y := hu2
        by_cases hxy : x = y
        · have Ht := Lib.hid (show xs.take (j + 1) = ys.take (j + 1) from by rw [K.take_succ_at hx, K.take_succ_at hy, Heq.out, hxy])
          have q : (x != y) = false := by simpa using hxy
          clear hx hy hb hb2 hxy
          go_wp2
          go_quiet (fail)
          generalize hW3 : wr.drewN _ = w3
          have Hd3 := Lib.hid (HD.out.trans ⟨_, hW3.symm⟩)
          clear hW3 hc hc2
          go_wp2
          go_roundg (gk - 1)
          case measure => have := Hgk.out; omega
          case rel => have := Hgk.out; exact ⟨j + 1, by omega, by go_num, by omega, Ht, Hd3⟩
        · have Ht := Lib.hid (show r = false from by
            rw [Hr.out, decide_eq_false_iff_not]
            intro e
            subst e
            rw [hx] at hy
            exact hxy (Option.some.inj hy))
          have q : (x != y) = true := by simpa using hxy
          clear hx hy hb hb2 hxy
          go_wp2
          go_quiet (fail)
          generalize hW3 : wr.drewN _ = w3
          have Hd3 := Lib.hid (HD.out.trans ⟨_, hW3.symm⟩)
          clear hW3 hc hc2
          go_wp2
          go_ret
          exact ⟨by rw [Ht.out]; rfl, Hd3.out⟩
      · obtain rfl : j = n := by omega
        have Ht := Lib.hid (show r = true from by
          have := Heq.out
          rw [List.take_of_length_le (by rw [Hl1.out]; exact Nat.le_refl _), List.take_of_length_le (by rw [Hl2.out]; exact Nat.le_refl _)] at this
          rw [Hr.out, decide_eq_true this])
        go_wp2
        go_ret
        exact ⟨by rw [Ht.out]; rfl, HD.out⟩
  · have Ht := Lib.hid (show r = false from by
      rw [Hr.out, decide_eq_false_iff_not]
      intro e
      exact hnm (by rw [← Hl1.out, ← Hl2.out, e]))
    have q : ((n : Int) != (m : Int)) = true := by rw [bne_iff_ne]; omega
    clear hnm
    go_enter Tryz.func170, Tryz.ntmps170
    go_wp2
    go_ret
    exact ⟨by rw [Ht.out]; rfl, Dr.refl _⟩

set_option maxRecDepth 100000 in
set_option maxHeartbeats 2000000 in
theorem rsameNode_any {x y : T.Nd} {A A' : Option Addr} {c c' : Nat} {W : World} (hx : SlAt (IntR .i64) W A x.args.length x.args) (hy : SlAt (IntR .i64) W A' y.args.length y.args) :
    Calls Tryz.prog 152 #[ndV x A c, ndV y A' c'] W fun e W' => e = .returned (.bool (decide (x = y))) ∧ Below W.heap.size W W' := by
  obtain ⟨W2, hW2⟩ : ∃ W2, W2 = (W.alloc (.cells #[.int .i64 x.op, .int .i64 x.w, .int .i64 x.fl, .slice A x.args.length c, .int .u32 x.imm] 63)).alloc (.cells #[.int .i64 y.op, .int .i64 y.w, .int .i64 y.fl, .slice A' y.args.length c', .int .u32 y.imm] 63) := ⟨_, rfl⟩
  have hb2 : Below W.heap.size W W2 := by rw [hW2]; exact ((Below.refl _ _).alloc (Nat.le_refl _) _).alloc (by simp) _
  have hrx : W2.heap[W.heap.size]? = some (.cells #[.int .i64 x.op, .int .i64 x.w, .int .i64 x.fl, .slice A x.args.length c, .int .u32 x.imm] 63 (0, 0)) := by rw [hW2]; exact row_alloc (heap_alloc_new W _) _
  have hry : W2.heap[W.heap.size + 1]? = some (.cells #[.int .i64 y.op, .int .i64 y.w, .int .i64 y.fl, .slice A' y.args.length c', .int .u32 y.imm] 63 (0, 0)) := by rw [hW2]; exact new_two W _ _
  have Heq := Lib.hid (SameInts_any A A' _ _ c c' _ _ W2 (hx.below (monoInt _) hb2) (hy.below (monoInt _) hb2))
  obtain ⟨op, w, fl, args, imm⟩ := x
  obtain ⟨op', w', fl', args', imm'⟩ := y
  dsimp only at *
  obtain ⟨x0, x1, x2, x3, x4⟩ := nd5_cells hrx
  obtain ⟨y0, y1, y2, y3, y4⟩ := nd5_cells hry
  have Hb2 := Lib.hid hb2
  unfold ndV
  dsimp only
  rw [hW2] at x0 x1 x2 x3 x4 y0 y1 y2 y3 y4
  obtain ⟨r, hr⟩ : ∃ r, decide (args = args') = r := ⟨_, rfl⟩
  rw [hr] at Heq
  have Hr := Lib.hid hr
  subst hW2
  clear hx hy hb2 hrx hry hr
  by_cases e0 : op = op'
  rotate_left
  · have q : (op == op') = false := by simpa using e0
    have Hne := Lib.hid (show decide ((⟨op, w, fl, args, imm⟩ : T.Nd) = ⟨op', w', fl', args', imm'⟩) = false from by simp [e0])
    clear e0 Heq
    go_enter Tryz.func152, Tryz.ntmps152
    go_wp2
    go_ret
    exact ⟨ret_bool Hne.out.symm, Hb2.out⟩
  subst e0
  have q0 : (op == op) = true := by simp
  by_cases e1 : w = w'
  rotate_left
  · have q : (w == w') = false := by simpa using e1
    have Hne := Lib.hid (show decide ((⟨op, w, fl, args, imm⟩ : T.Nd) = ⟨op, w', fl', args', imm'⟩) = false from by simp [e1])
    clear e1 Heq
    go_enter Tryz.func152, Tryz.ntmps152
    go_wp2
    go_ret
    exact ⟨ret_bool Hne.out.symm, Hb2.out⟩
  subst e1
  have q1 : (w == w) = true := by simp
  by_cases e2 : fl = fl'
  rotate_left
  · have q : (fl == fl') = false := by simpa using e2
    have Hne := Lib.hid (show decide ((⟨op, w, fl, args, imm⟩ : T.Nd) = ⟨op, w, fl', args', imm'⟩) = false from by simp [e2])
    clear e2 Heq
    go_enter Tryz.func152, Tryz.ntmps152
    go_wp2
    go_ret
    exact ⟨ret_bool Hne.out.symm, Hb2.out⟩
  subst e2
  have q2 : (fl == fl) = true := by simp
  by_cases e3 : imm = imm'
  rotate_left
  · have q : (imm == imm') = false := by simpa using e3
    have Hne := Lib.hid (show decide ((⟨op, w, fl, args, imm⟩ : T.Nd) = ⟨op, w, fl, args', imm'⟩) = false from by simp [e3])
    clear e3 Heq
    go_enter Tryz.func152, Tryz.ntmps152
    go_wp2
    go_ret
    exact ⟨ret_bool Hne.out.symm, Hb2.out⟩
  subst e3
  have q3 : (imm == imm) = true := by simp
  have Hd := Lib.hid (show decide ((⟨op, w, fl, args, imm⟩ : T.Nd) = ⟨op, w, fl, args', imm⟩) = r from by rw [← Hr.out]; simp)
  go_enter Tryz.func152, Tryz.ntmps152
  go_wp2_with fail
  (with_reducible refine Heq.out.mono ?_)
  rintro e w3 ⟨rfl, hb3⟩
  have Hb3 := Lib.hid (Hb2.out.dr hb3)
  clear hb3 x0 x1 x2 x3 x4 y0 y1 y2 y3 y4
  go_wp2
  go_ret
  exact ⟨ret_bool Hd.out.symm, Hb3.out⟩

theorem drop_at {α : Type} {l : List α} {j : Nat} {x : α} (h : l[j]? = some x) : l.drop j = x :: l.drop (j + 1) := by
  obtain ⟨h1, h2⟩ := List.getElem?_eq_some_iff.1 h
  rw [List.drop_eq_getElem_cons h1, h2]
theorem take_next {α : Type} {l : List α} {j : Nat} {x : α} (h : l[j]? = some x) : l.take (j + 1) = l.take j ++ [x] := by
  rw [List.take_add_one, h]; rfl
end Go.Proofs.YtcmlmjbpdaecbaaGreat
end
section
namespace Go.Proofs.YtcmlmjbpdaecbaaGreat
open Go.RowKit
set_option linter.unusedVariables false
set_option linter.unusedSimpArgs false

/-- a node whose operands lie in memory of the call's own, apart from some blocks -/
def NdX (B : Nat) (Ex : Nat → Prop) (w : World) (us : List Value) (x : T.Nd) : Prop :=
  ∃ A c, us = ndC x A c ∧ OwnAt w 3 1 (.slice A x.args.length c) x.args.length (x.args.map (Value.int .i64)) ∧ 0 ≤ x.imm ∧ x.imm < 4294967296 ∧ ∀ g, (Value.slice A x.args.length c).ownBlock = some g → B ≤ g ∧ ¬ Ex g

theorem NdX.ndF {B : Nat} {Ex : Nat → Prop} {w : World} {us : List Value} {x : T.Nd} (h : NdX B Ex w us x) : NdF B w us x := by
  obtain ⟨A, c, h1, h2, h3, h4, h5⟩ := h
  exact ⟨A, c, h1, h2, h3, h4, fun g hg => (h5 g hg).1⟩
theorem NdX.re {B : Nat} {Ex Ex' : Nat → Prop} {w : World} {us : List Value} {x : T.Nd} (h : NdX B Ex w us x) (hE : ∀ i, i < w.heap.size → Ex' i → Ex i) : NdX B Ex' w us x := by
  obtain ⟨A, c, h1, h2, h3, h4, h5⟩ := h
  exact ⟨A, c, h1, h2, h3, h4, fun g hg => ⟨(h5 g hg).1, fun he => (h5 g hg).2 (hE g (h2.lt g hg) he)⟩⟩
theorem ndX_rel (B : Nat) (Ex : Nat → Prop) : NdRel B (NdX B Ex) := by
  constructor
  · intro w us x h
    exact (ndF_rel B).form h.ndF
  · intro w w' us x h hb
    obtain ⟨A, c, h1, h2, h3, h4, h5⟩ := h
    exact ⟨A, c, h1, h2.below hb h2.lt, h3, h4, h5⟩
  · intro w w' us x row h hg hr
    obtain ⟨A, c, h1, h2, h3, h4, h5⟩ := h
    refine ⟨A, c, h1, h2.same fun g hg' => ?_, h3, h4, h5⟩
    rcases h2.2 with ⟨e, _⟩ | ⟨g', off, cap, cur, e, hcur, _⟩
    · rw [e] at hg'; simp [Value.ownBlock] at hg'
    · rw [e] at hg'
      simp [Value.ownBlock] at hg'
      subst hg'
      refine hg.block _ (Array.getElem?_eq_some_iff.1 hcur).1 (fun e => ?_)
      obtain ⟨_, cur', fr, hc'⟩ := hr _ e.symm
      rw [hcur] at hc'
      injection hc' with hc'
      injection hc' with _ hc' _
      revert hc'
      decide

theorem OwnR.toF {B : Nat} {Ex : Nat → Prop} {w : World} {v : Value} {nds : List T.Nd} (h : OwnR (NdX B Ex) B w v nds) : OwnR (NdF B) B w v nds := by
  obtain ⟨cells, h1, h2, h3⟩ := h
  exact ⟨cells, h1, fun k x hx => (h2 k x hx).ndF, h3⟩
theorem OwnR.re {B : Nat} {Ex Ex' : Nat → Prop} {w : World} {v : Value} {nds : List T.Nd} (h : OwnR (NdX B Ex) B w v nds) (hE : ∀ i, i < w.heap.size → Ex' i → Ex i) : OwnR (NdX B Ex') B w v nds := by
  obtain ⟨cells, h1, h2, h3⟩ := h
  exact ⟨cells, h1, fun k x hx => (h2 k x hx).re hE, h3⟩
/-- an excepted block of numbers turns -/
theorem OwnR.ex {B : Nat} {Ex : Nat → Prop} {w w' : World} {v : Value} {nds : List T.Nd} {row : Option Nat} (h : OwnR (NdX B Ex) B w v nds) (hg : w.grownBy w' row) (hr : ∀ g, row = some g → Ex g ∧ ∃ cur fr, w.heap[g]? = some (.cells cur 3 fr)) : OwnR (NdX B Ex) B w' v nds := by
  obtain ⟨cells, h1, h2, h3⟩ := h
  refine ⟨cells, h1.same fun g hg' => ?_, fun k x hx => ?_, h3⟩
  · rcases h1.2 with ⟨rfl, _⟩ | ⟨g', off, cap, cur, rfl, hcur, _⟩
    · simp [Value.ownBlock] at hg'
    · simp [Value.ownBlock] at hg'
      subst hg'
      refine hg.block _ (Array.getElem?_eq_some_iff.1 hcur).1 (fun e => ?_)
      obtain ⟨_, cur', fr, hc'⟩ := hr _ e.symm
      rw [hcur] at hc'
      injection hc' with hc'
      injection hc' with _ hc' _
      revert hc'
      decide
  · obtain ⟨A, c, q1, q2, q3, q4, q5⟩ := h2 k x hx
    exact ⟨A, c, q1, q2.same fun g hg' => hg.block g (q2.lt g hg') (fun e => (q5 g hg').2 (hr g e.symm).1), q3, q4, q5⟩

/-- the last element is taken off -/
theorem OwnAt.pop {w : World} {e : TypeId} {A : Option Addr} {n c : Nat} {xs : List Value} (h : OwnAt w e 1 (.slice A (n + 1) c) (n + 1) xs) : OwnAt w e 1 (.slice A n c) n (xs.take n) := by
  have hl := h.1
  refine ⟨by rw [List.length_take]; omega, ?_⟩
  rcases h.2 with ⟨_, h2⟩ | ⟨g, off, cap, cur, e1, hg, q1, q2, q3, q4⟩
  · omega
  · cases e1
    exact .inr ⟨g, off, c, cur, rfl, hg, by omega, q2, q3, fun j u hu => by
      rw [List.getElem?_take] at hu
      split at hu
      · exact q4 j u hu
      · cases hu⟩

/-- the state of the sharing -/
structure ShSt (W : World) (t : List T.Nd) (ga : Nat) (res : List T.Nd) (wr : World) (v5 v8 : Value) (tab : List Int) (S : List Nat) (out : List T.Nd) : Prop where
  bel : Below W.heap.size W wr
  inv : T.ShI t tab S out res
  ga0 : W.heap.size ≤ ga
  row : wr.heap[ga]? = some (.cells (tab.map (Value.int .i64)).toArray 3 (0, 0))
  stk : OwnAt wr 3 1 v8 S.length (S.reverse.map fun k : Nat => Value.int .i64 (k : Int))
  stb : ∀ g, v8.ownBlock = some g → W.heap.size ≤ g ∧ g ≠ ga
  own : OwnR (NdX W.heap.size (fun i => i = ga ∨ v8.ownBlock = some i)) W.heap.size wr v5 out

def shMes (t : List T.Nd) (tab : List Int) (S : List Nat) : Nat := T.untold tab * (t.length + 2) + (t.length + 1 - S.length)

section
variable {W : World} {t : List T.Nd} {ga : Nat} {res : List T.Nd} {wr w' : World} {v5 v8 : Value} {tab : List Int} {S : List Nat} {out : List T.Nd}

theorem ShSt.below (h : ShSt W t ga res wr v5 v8 tab S out) (hb : Below wr.heap.size wr w') : ShSt W t ga res w' v5 v8 tab S out :=
  ⟨h.bel.trans (hb.mono h.bel.size), h.inv, h.ga0, (hb.block _ (Array.getElem?_eq_some_iff.1 h.row).1).trans h.row, h.stk.below hb h.stk.lt, h.stb, h.own.below (ndX_rel _ _) hb⟩

/-- a cell of the table -/
theorem ShSt.tab_ (h : ShSt W t ga res wr v5 v8 tab S out) {k : Nat} {v : Int} (hv : tab[k]? = some v) : wr.cell? ⟨ga, k, none⟩ = some (.int .i64 v) := by
  rw [cell_of_row _ _ _ _ _ (0, 0) h.row]
  simp [hv]
/-- the top of the stack -/
theorem ShSt.top {A : Option Addr} {c m : Nat} {n : Nat} (h : ShSt W t ga res wr v5 (.slice A (m + 1) c) tab (n :: S) out) (hm : S.length = m) : ∃ b off, A = some ⟨b, off, none⟩ ∧ wr.cell? ⟨b, off + m, none⟩ = some (.int .i64 (n : Int)) ∧ b < wr.heap.size := by
  have h1 := h.stk
  have hl : (n :: S).length = m + 1 := by simp [hm]
  rw [hl] at h1
  rcases h1.2 with ⟨_, h2⟩ | ⟨g, off, cap, cur, e1, hg, q1, q2, q3, q4⟩
  · omega
  · cases e1
    refine ⟨g, off, rfl, ?_, (Array.getElem?_eq_some_iff.1 hg).1⟩
    rw [cell_of_row _ _ _ _ _ (0, 0) hg]
    refine q4 m _ ?_
    rw [List.getElem?_map, List.reverse_cons, List.getElem?_append_right (by simp [hm]), List.length_reverse, hm]
    simp

/-- a push -/
theorem ShSt.push {n : Nat} {x : T.Nd} {v' : Value} {E : TypeId} (h : ShSt W t ga res wr v5 v8 tab (n :: S) out) (ho : T.Ord t) (hx : t[n]? = some x) (hm : 0 ≤ T.miss tab x.args)
    (hown : OwnAt w' 3 1 v' (S.length + 1 + 1) (((n :: S).reverse.map fun k : Nat => Value.int .i64 (k : Int)) ++ [.int .i64 (T.miss tab x.args)])) (hgr : (wr.alloc (.cells #[.int .i64 (T.miss tab x.args)] E)).grownBy w' v8.ownBlock) (hat : v'.ownBlock = v8.ownBlock ∨ v'.ownBlock = some (wr.heap.size + 1)) :
    ShSt W t ga res w' v5 v' tab ((T.miss tab x.args).toNat :: n :: S) out ∧ shMes t tab ((T.miss tab x.args).toNat :: n :: S) < shMes t tab (n :: S) := by
  have hba : Below wr.heap.size wr (wr.alloc (.cells #[.int .i64 (T.miss tab x.args)] E)) := (Below.refl _ _).alloc (Nat.le_refl _) _
  have h2 := h.below hba
  have hgl := (Array.getElem?_eq_some_iff.1 h.row).1
  have hp := h.inv.push ho hx hm
  have hgrow : ∀ g, v8.ownBlock = some g → ∃ cur fr, (wr.alloc (.cells #[.int .i64 (T.miss tab x.args)] E)).heap[g]? = some (.cells cur 3 fr) := fun g hg => by
    rcases h2.stk.2 with ⟨rfl, _⟩ | ⟨g', off, cap, cur, rfl, hcur, _⟩
    · simp [Value.ownBlock] at hg
    · simp [Value.ownBlock] at hg
      subst hg
      exact ⟨cur, _, hcur⟩
  refine ⟨⟨h2.bel.grown hgr h2.bel.size (fun g hg => (h.stb g hg).1), hp.1, h.ga0, ?_, ?_, fun g hg => ?_, ?_⟩, ?_⟩
  · rw [hgr.block ga (by simp; omega) (fun e => (h.stb ga e.symm).2 rfl)]
    exact h2.row
  · have e : ((((T.miss tab x.args).toNat :: n :: S).reverse.map fun k : Nat => Value.int .i64 (k : Int))) = ((n :: S).reverse.map fun k : Nat => Value.int .i64 (k : Int)) ++ [.int .i64 (T.miss tab x.args)] := by
      have : ((T.miss tab x.args).toNat :: n :: S).reverse = (n :: S).reverse ++ [(T.miss tab x.args).toNat] := by simp
      rw [this, List.map_append]
      simp [Int.toNat_of_nonneg hm]
    rw [e]
    exact hown
  · rcases hat with e | e
    · rw [e] at hg; exact h.stb g hg
    · rw [e] at hg
      injection hg with hg
      have := h.bel.size
      omega
  · have h3 := h2.own.ex hgr (fun g hg => ⟨.inr hg, hgrow g hg⟩)
    rcases hat with e | e
    · rw [e]; exact h3
    · have h4 := (h2.own.re (Ex' := fun i => i = ga ∨ v8.ownBlock = some i ∨ i = wr.heap.size + 1) (fun i hi h => by
        rcases h with h | h | h
        · exact .inl h
        · exact .inr h
        · simp at hi; omega)).ex hgr (fun g hg => ⟨.inr (.inl hg), hgrow g hg⟩)
      refine h4.re fun i _ h => ?_
      rcases h with h | h
      · exact .inl h
      · rw [e] at h
        injection h with h
        exact .inr (.inr h.symm)
  · have h1 := T.asc_len hp.1.asc hp.1.lt
    unfold shMes
    simp only [List.length_cons] at h1 ⊢
    omega

/-- 'append(out, x)' of one node: the translation lays x in a new block first -/
theorem wpList_append_nodeR2 {R : World → List Value → T.Nd → Prop} {B : Nat} (hR : NdRel B R) {w : World} {ops : Array Oper} {rest : List Oper} {o : Oper} {a : Act} {Q : Exit → Act → World → Prop} (hgd : o.guard = none) (sx x : Operand)
    (ho : o.op = .call { callee := .builtin .append, args := #[sx, x], argTypes := #[43, 43] })
    (v : Value) (nds : List T.Nd) (hs : a.eval sx = v) (hown : OwnR R B w v nds) (us : List Value) (nd : T.Nd) (hnd : R w us nd) (p : Nat) (hp : p = w.heap.size)
    (hx : a.eval x = .slice (some ⟨p, 0, none⟩) 1 1) (hn : nds.length ≤ 900000) (hB : B ≤ w.heap.size)
    (h : ∀ v' w', OwnR R B w' v' (nds ++ [nd]) → (w.alloc (.cells us.toArray 63)).grownBy w' v.ownBlock → wpList Tryz.prog ops Q rest (a.put o.dst v') w') :
    wpList Tryz.prog ops Q (o :: rest) a (w.alloc (.cells us.toArray 63)) := by
  subst hp
  have hl : us.length = 5 := by obtain ⟨A, c, rfl, _⟩ := hR.form hnd; rfl
  have h1' : ∀ u ∈ us, u.oneCell' = true := by obtain ⟨A, c, rfl, _⟩ := hR.form hnd; exact ndC_one _ _ _
  have hba : Below w.heap.size w (w.alloc (.cells us.toArray 63)) := (Below.refl _ _).alloc (Nat.le_refl _) _
  obtain ⟨cells, h1, h2, h3⟩ := id hown
  have hrow := (hown.below hR hba).row
  have hcl := h1.1
  refine wpList_append_src _ hgd sx x 43 ho 63 _ 5 56 Tryz.underlying43 infoNode rfl (by decide) v nds.length cells hs (h1.below hba h1.lt) _ 1 1 us hx (by rw [hl]) (src_new w us 63) h1' (by omega) (by decide) ?_
  intro v' w' hown' hgr hat
  refine h v' w' ⟨cells ++ us, by rw [List.length_append]; exact hown', ?_, ?_⟩ hgr
  · intro k y hy
    rcases Nat.lt_or_ge k nds.length with hk | hk
    · rw [List.getElem?_append_left hk] at hy
      have e : ((cells ++ us).drop (k * 5)).take 5 = (cells.drop (k * 5)).take 5 := by
        rw [List.drop_append_of_le_length (by omega), List.take_append_of_le_length (by rw [List.length_drop]; omega)]
      rw [e]
      exact hR.grown (hR.below (h2 k y hy) hba) hgr hrow
    · rw [List.getElem?_append_right hk] at hy
      have hk0 : k = nds.length := by
        rcases Nat.eq_zero_or_pos (k - nds.length) with e | e
        · omega
        · rw [List.getElem?_eq_none (by simp; omega)] at hy; cases hy
      subst hk0
      simp at hy
      subst hy
      have e : ((cells ++ us).drop (nds.length * 5)).take 5 = us := by
        rw [← hcl, List.drop_left, List.take_of_length_le (by omega)]
      rw [e]
      exact hR.grown (hR.below hnd hba) hgr hrow
  · intro g hg
    rcases hat with e | e
    · exact h3 g (by rw [← e]; exact hg)
    · rw [e] at hg
      simp at hg
      omega

theorem own_pop (A : Option Addr) (n m c : Nat) : (Value.slice A n c).ownBlock = (Value.slice A m c).ownBlock := by cases A <;> rfl

theorem setCell_grown (w : World) (g k : Nat) (u : Value) : w.grownBy (w.setCell ⟨g, k, none⟩ u) (some g) :=
  ⟨rfl, rfl, rfl, by simp, fun i _ hn => heap_setCell_other _ _ _ _ (fun e => hn (by rw [e]))⟩

theorem tab_set (tab : List Int) (n : Nat) (v : Int) : ((tab.map (Value.int .i64)).toArray.setIfInBounds n (.int .i64 v)) = ((tab.set n v).map (Value.int .i64)).toArray := by
  rw [List.setIfInBounds_toArray, List.map_set]

/-- what is told of a node -/
def toldNd (tab : List Int) (x : T.Nd) : T.Nd := ⟨x.op, x.w, x.fl, x.args.map fun a => tab.getD a.toNat 0, x.imm⟩

/-- the popped state, before the table is set -/
theorem ShSt.set (h : ShSt W t ga res wr v5 v8 tab S out) (k : Nat) (u : Value) : OwnR (NdX W.heap.size (fun i => i = ga ∨ v8.ownBlock = some i)) W.heap.size (wr.setCell ⟨ga, k, none⟩ u) v5 out ∧ Below W.heap.size W (wr.setCell ⟨ga, k, none⟩ u) ∧ (wr.setCell ⟨ga, k, none⟩ u).heap[ga]? = some (.cells ((tab.map (Value.int .i64)).toArray.setIfInBounds k u) 3 (0, 0)) ∧ OwnAt (wr.setCell ⟨ga, k, none⟩ u) 3 1 v8 S.length (S.reverse.map fun k : Nat => Value.int .i64 (k : Int)) := by
  refine ⟨h.own.ex (setCell_grown wr ga k u) (fun g hg => ?_), h.bel.setCell (p := ⟨ga, k, none⟩) h.ga0 _, heap_setCell_same _ _ _ _ _ _ h.row, h.stk.setCell (p := ⟨ga, k, none⟩) (fun e => (h.stb ga e).2 rfl) _⟩
  injection hg with hg
  subst hg
  exact ⟨.inl rfl, _, _, h.row⟩

theorem ShSt.mes {n : Nat} (h : ShSt W t ga res wr v5 v8 tab (n :: S) out) {tab' : List Int} (hc : T.untold tab' + 1 = T.untold tab) : shMes t tab' S < shMes t tab (n :: S) := by
  unfold shMes
  rw [← hc, Nat.add_mul]
  simp only [List.length_cons]
  omega

theorem ShSt.found {A : Option Addr} {c m n : Nat} {x : T.Nd} (h : ShSt W t ga res wr v5 (.slice A (m + 1) c) tab (n :: S) out) (hm : S.length = m) (ho : T.Ord t) (hx : t[n]? = some x) (ht : ∀ a ∈ x.args, 0 ≤ tab.getD a.toNat 0) (hy : toldNd tab x ∈ out) :
    ShSt W t ga res (wr.setCell ⟨ga, n, none⟩ (.int .i64 (out.idxOf (toldNd tab x) : Int))) v5 (.slice A m c) (tab.set n (out.idxOf (toldNd tab x) : Int)) S out ∧ shMes t (tab.set n (out.idxOf (toldNd tab x) : Int)) S < shMes t tab (n :: S) := by
  obtain ⟨p1, p2⟩ := h.inv.pop ho hx ht
  have e : T.addN out (toldNd tab x) = (out, (out.idxOf (toldNd tab x) : Int)) := by unfold T.addN; rw [if_pos hy]
  rw [show (⟨x.op, x.w, x.fl, x.args.map fun a => tab.getD a.toNat 0, x.imm⟩ : T.Nd) = toldNd tab x from rfl, e] at p1 p2
  obtain ⟨s1, s2, s3, s4⟩ := h.set n (.int .i64 (out.idxOf (toldNd tab x) : Int))
  refine ⟨⟨s2, p1, h.ga0, ?_, ?_, fun g hg => h.stb g (by rw [own_pop A (m + 1) m]; exact hg), ?_⟩, h.mes p2⟩
  · rw [s3, tab_set]
  · have hl : (n :: S).length = m + 1 := by simp [hm]
    rw [hl] at s4
    have := s4.pop
    rw [hm]
    have e2 : (((n :: S).reverse.map fun k : Nat => Value.int .i64 (k : Int)).take m) = S.reverse.map fun k : Nat => Value.int .i64 (k : Int) := by
      rw [List.reverse_cons, List.map_append, List.take_append_of_le_length (by simp [hm]), List.take_of_length_le (by simp [hm])]
    rw [e2] at this
    exact this
  · rw [own_pop A m (m + 1)]; exact s1

theorem ShSt.fresh {A A2 : Option Addr} {c c2 m n : Nat} {x : T.Nd} {v' : Value} (h : ShSt W t ga res wr v5 (.slice A (m + 1) c) tab (n :: S) out) (hm : S.length = m) (ho : T.Ord t) (hx : t[n]? = some x) (ht : ∀ a ∈ x.args, 0 ≤ tab.getD a.toNat 0) (hy : toldNd tab x ∉ out)
    (hown : OwnR (NdX W.heap.size (fun i => i = ga ∨ (Value.slice A (m + 1) c).ownBlock = some i)) W.heap.size w' v' (out ++ [toldNd tab x])) (hgr : ((wr.setCell ⟨ga, n, none⟩ (.int .i64 (out.length : Int))).alloc (.cells (ndC (toldNd tab x) A2 c2).toArray 63)).grownBy w' v5.ownBlock) :
    ShSt W t ga res w' v' (.slice A m c) (tab.set n (out.length : Int)) S (out ++ [toldNd tab x]) ∧ shMes t (tab.set n (out.length : Int)) S < shMes t tab (n :: S) := by
  obtain ⟨p1, p2⟩ := h.inv.pop ho hx ht
  have e : T.addN out (toldNd tab x) = (out ++ [toldNd tab x], (out.length : Int)) := by
    unfold T.addN
    rw [if_neg hy, List.idxOf_eq_length hy]
  rw [show (⟨x.op, x.w, x.fl, x.args.map fun a => tab.getD a.toNat 0, x.imm⟩ : T.Nd) = toldNd tab x from rfl, e] at p1 p2
  obtain ⟨s1, s2, s3, s4⟩ := h.set n (.int .i64 (out.length : Int))
  generalize wr.setCell ⟨ga, n, none⟩ (.int .i64 (out.length : Int)) = Y at *
  have hba : Below Y.heap.size Y (Y.alloc (.cells (ndC (toldNd tab x) A2 c2).toArray 63)) := (Below.refl _ _).alloc (Nat.le_refl _) _
  have hrow5 := (s1.below (ndX_rel _ _) hba).row
  have hne : ∀ g cur, (Y.alloc (.cells (ndC (toldNd tab x) A2 c2).toArray 63)).heap[g]? = some (.cells cur 3 (0, 0)) → v5.ownBlock ≠ some g := fun g cur hc e => by
    obtain ⟨_, cur', fr, hc'⟩ := hrow5 g e
    rw [hc] at hc'
    injection hc' with hc'
    injection hc' with _ hc' _
    revert hc'
    decide
  have hga := (hba.block _ (Array.getElem?_eq_some_iff.1 s3).1).trans s3
  refine ⟨⟨(s2.trans (hba.mono s2.size)).grown hgr (Nat.le_trans s2.size hba.size) (fun g hg => (hrow5 g hg).1), p1, h.ga0, ?_, ?_, fun g hg => h.stb g (by rw [own_pop A (m + 1) m]; exact hg), ?_⟩, h.mes p2⟩
  · rw [hgr.block ga (Array.getElem?_eq_some_iff.1 hga).1 (fun e => hne ga _ hga e.symm), hga, tab_set]
  · have hl : (n :: S).length = m + 1 := by simp [hm]
    rw [hl] at s4
    have hp := (s4.below hba s4.lt)
    have hp2 := hp.same (w' := w') (fun g hg => hgr.block g (hp.lt g hg) (fun e => by
      rcases hp.2 with ⟨_, h2⟩ | ⟨g', off, cap, cur, e1, hcur, _⟩
      · omega
      · rw [e1] at hg
        simp [Value.ownBlock] at hg
        subst hg
        exact hne g' _ hcur e.symm))
    have := hp2.pop
    rw [hm]
    have e2 : (((n :: S).reverse.map fun k : Nat => Value.int .i64 (k : Int)).take m) = S.reverse.map fun k : Nat => Value.int .i64 (k : Int) := by
      rw [List.reverse_cons, List.map_append, List.take_append_of_le_length (by simp [hm]), List.take_of_length_le (by simp [hm])]
    rw [e2] at this
    exact this
  · rw [own_pop A m (m + 1)]; exact hown
end
end Go.Proofs.YtcmlmjbpdaecbaaGreat
end
