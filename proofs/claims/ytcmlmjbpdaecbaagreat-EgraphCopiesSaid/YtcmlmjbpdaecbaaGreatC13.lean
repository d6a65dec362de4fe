/- Merged: No, T2, T3. -/
import Derived.Test.YtcmlmjbpdaecbaaGreatC12
set_option linter.unusedVariables false
set_option linter.unusedSimpArgs false
section
namespace Go.Proofs.YtcmlmjbpdaecbaaGreat
open Go.RowKit
set_option linter.unusedVariables false
set_option linter.unusedSimpArgs false

/-- five cells are a node; its operands lie below B, or in a block of integers -/
def NdO (B : Nat) (w : World) (us : List Value) (x : T.Nd) : Prop :=
  ∃ A c, us = ndC x A c ∧ SlAt (IntR .i64) w A x.args.length x.args ∧ 0 ≤ x.imm ∧ x.imm < 4294967296 ∧ (x.args ≠ [] → ∀ b off, A = some ⟨b, off, none⟩ → b < B ∨ ∃ cur fr, w.heap[b]? = some (.cells cur 3 fr))

section
variable {B : Nat} {w w' : World} {us : List Value} {x : T.Nd}

theorem NdO.ndR (h : NdO B w us x) : NdR w us x := by
  obtain ⟨A, c, h1, h2, h3, h4, _⟩ := h
  exact ⟨A, c, h1, h2, h3, h4⟩

theorem NdO.below (h : NdO B w us x) (hb : Below w.heap.size w w') : NdO B w' us x := by
  obtain ⟨A, c, h1, h2, h3, h4, h5⟩ := h
  refine ⟨A, c, h1, h2.below (monoInt _) hb, h3, h4, fun hn b off hA => ?_⟩
  rcases h5 hn b off hA with h | ⟨cur, fr, h⟩
  · exact .inl h
  · exact .inr ⟨cur, fr, (hb.block b (Array.getElem?_eq_some_iff.1 h).1).trans h⟩

theorem NdO.grown {row : Option Nat} (h : NdO B w us x) (hg : w.grownBy w' row) (hr : ∀ g, row = some g → B ≤ g ∧ ∃ cur fr, w.heap[g]? = some (.cells cur 63 fr)) : NdO B w' us x := by
  obtain ⟨A, c, h1, h2, h3, h4, h5⟩ := h
  have hne : x.args ≠ [] → ∀ b off, A = some ⟨b, off, none⟩ → row ≠ some b := by
    intro hn b off hA e
    obtain ⟨g1, cur, fr, g2⟩ := hr b e
    rcases h5 hn b off hA with h | ⟨cur', fr', h⟩
    · omega
    · rw [g2] at h
      injection h with h
      injection h with _ h _
      exact absurd h (by decide)
  refine ⟨A, c, h1, ⟨h2.1, h2.2.1, fun k y hy => ?_⟩, h3, h4, fun hn b off hA => ?_⟩
  · obtain ⟨b, off, u, hA, hlt, hc, hu⟩ := h2.2.2 k y hy
    have hn : x.args ≠ [] := fun e => by rw [e] at hy; simp at hy
    have e := hg.block b hlt (fun e => hne hn b off hA e.symm)
    refine ⟨b, off, u, hA, Nat.lt_of_lt_of_le hlt hg.size, ?_, hu⟩
    unfold World.cell? at hc ⊢
    rw [e]
    exact hc
  · rcases h5 hn b off hA with h | ⟨cur, fr, h⟩
    · exact .inl h
    · exact .inr ⟨cur, fr, by rw [hg.block b (Array.getElem?_eq_some_iff.1 h).1 (fun e => hne hn b off hA e.symm)]; exact h⟩

/-- nodes that came in -/
theorem NdR.ndO (h : NdR w us x) (hB : w.heap.size ≤ B) : NdO B w us x := by
  obtain ⟨A, c, h1, h2, h3, h4⟩ := h
  refine ⟨A, c, h1, h2, h3, h4, fun hn b off hA => .inl ?_⟩
  obtain ⟨y, b', off', u, _, hA', hlt, _⟩ := h2.at_ (k := 0) (List.length_pos_iff.2 hn)
  rw [hA] at hA'
  cases hA'
  omega
end

/-- The slice v, of the call's own, holds these nodes; its array lies at B or above. -/
def OwnNd (B : Nat) (w : World) (v : Value) (nds : List T.Nd) : Prop :=
  ∃ cells, OwnAt w 63 5 v nds.length cells ∧ (∀ (k : Nat) (x : T.Nd), nds[k]? = some x → NdO B w ((cells.drop (k * 5)).take 5) x) ∧ ∀ g, v.ownBlock = some g → B ≤ g

section
variable {B : Nat} {w w' : World} {v : Value} {nds : List T.Nd}

theorem OwnNd.nil_ (B : Nat) (w : World) : OwnNd B w (.slice none 0 0) [] := ⟨[], OwnAt.nil_ _ _ _, fun k x h => by simp at h, fun g h => by simp [Value.ownBlock] at h⟩

theorem OwnNd.form (h : OwnNd B w v nds) : ∃ A c, v = .slice A nds.length c := by
  obtain ⟨cells, h1, _⟩ := h
  exact h1.form

theorem OwnNd.below (h : OwnNd B w v nds) (hb : Below w.heap.size w w') : OwnNd B w' v nds := by
  obtain ⟨cells, h1, h2, h3⟩ := h
  exact ⟨cells, h1.below hb h1.lt, fun k x hx => (h2 k x hx).below hb, h3⟩

theorem OwnNd.stAt {A : Option Addr} {n c : Nat} (h : OwnNd B w (.slice A n c) nds) (hn : nds.length = n) : StAt 5 NdR w A n nds := by
  obtain ⟨cells, h1, h2, h3⟩ := h
  rw [hn] at h1
  exact h1.stAt hn fun k x hx => (h2 k x hx).ndR

theorem OwnNd.row (h : OwnNd B w v nds) : ∀ g, v.ownBlock = some g → B ≤ g ∧ ∃ cur fr, w.heap[g]? = some (.cells cur 63 fr) := by
  obtain ⟨cells, h1, h2, h3⟩ := h
  intro g hg
  refine ⟨h3 g hg, ?_⟩
  rcases h1.2 with ⟨rfl, _⟩ | ⟨g', off, cap, cur, rfl, hcur, _⟩
  · simp [Value.ownBlock] at hg
  · simp [Value.ownBlock] at hg
    subst hg
    exact ⟨cur, _, hcur⟩

/-- another block turns -/
theorem OwnNd.kept {row : Option Nat} (h : OwnNd B w v nds) (hg : w.grownBy w' row) (hne : v.ownBlock = none ∨ v.ownBlock ≠ row) (hr : ∀ g, row = some g → B ≤ g ∧ ∃ cur fr, w.heap[g]? = some (.cells cur 63 fr)) : OwnNd B w' v nds := by
  obtain ⟨cells, h1, h2, h3⟩ := h
  exact ⟨cells, h1.kept hg hne, fun k x hx => (h2 k x hx).grown hg hr, h3⟩
end

theorem infoNode : (Tryz.prog.info? 63).map (fun i => (i.zero, i.size, i.bytes)) = some (some (.agg #[.int .i64 0, .int .i64 0, .int .i64 0, .slice none 0 0, .int .u32 0]), 5, 56) := by kernel_rfl

theorem ndC_len (x : T.Nd) (A : Option Addr) (c : Nat) : (ndC x A c).length = 5 := rfl
theorem ndC_one (x : T.Nd) (A : Option Addr) (c : Nat) : ∀ u ∈ ndC x A c, u.oneCell' = true := by
  intro u hu
  simp [ndC] at hu
  rcases hu with rfl | rfl | rfl | rfl | rfl <;> rfl

theorem src_new (w : World) (us : List Value) (T : TypeId) : ∀ j u, us[j]? = some u → ∃ ad : Addr, (some (⟨w.heap.size, 0, none⟩ : Addr)) = some ad ∧ (w.alloc (.cells us.toArray T)).cell? (ad.add j) = some u := by
  intro j u hu
  refine ⟨_, rfl, ?_⟩
  unfold Addr.add
  split
  · rename_i e
    subst e
    rw [cell_of_row _ _ _ _ _ (0, 0) (heap_alloc_new w _)]
    simpa using hu
  · simp only [Nat.zero_add]
    rw [cell_of_row _ _ _ _ _ (0, 0) (heap_alloc_new w _)]
    simpa using hu

theorem StAt.take {α : Type} {s : Nat} {R : World → List Value → α → Prop} {w : World} {A : Option Addr} {n : Nat} {xs : List α} (h : StAt s R w A n xs) {k : Nat} (hk : k ≤ n) : StAt s R w A k (xs.take k) := by
  have hl := h.len
  refine ⟨by rw [List.length_take]; omega, by have := h.le; omega, fun i x hx => ?_⟩
  rw [List.getElem?_take] at hx
  split at hx
  · exact h.2.2 i x hx
  · cases hx

/-- append of nodes -/
theorem wpList_append_nodes {w : World} {ops : Array Oper} {rest : List Oper} {o : Oper} {a : Act} {Q : Exit → Act → World → Prop} (hgd : o.guard = none) (sx x : Operand)
    (ho : o.op = .call { callee := .builtin .append, args := #[sx, x], argTypes := #[43, 43] })
    (B : Nat) (v : Value) (nds : List T.Nd) (hs : a.eval sx = v) (hown : OwnNd B w v nds) (m : Nat) (us : List Value) (xs : List T.Nd) (hm : xs.length = m) (hl : us.length = m * 5) (hnd : ∀ (k : Nat) (x : T.Nd), xs[k]? = some x → NdO B w ((us.drop (k * 5)).take 5) x) (hone : ∀ u ∈ us, u.oneCell' = true)
    (A : Option Addr) (c : Nat) (hx : a.eval x = .slice A m c) (hsrc : ∀ j u, us[j]? = some u → ∃ ad : Addr, A = some ad ∧ w.cell? (ad.add j) = some u) (hn : nds.length + m ≤ 1000000) (hB : B ≤ w.heap.size)
    (h : ∀ v' w', OwnNd B w' v' (nds ++ xs) → w.grownBy w' v.ownBlock → (v'.ownBlock = v.ownBlock ∨ v'.ownBlock = some w.heap.size) → (∀ w0, Below B w0 w → Below B w0 w') → wpList Tryz.prog ops Q rest (a.put o.dst v') w') :
    wpList Tryz.prog ops Q (o :: rest) a w := by
  obtain ⟨cells, h1, h2, h3⟩ := id hown
  have hcl := h1.1
  refine wpList_append_src _ hgd sx x 43 ho 63 _ 5 56 Tryz.underlying43 infoNode rfl (by decide) v nds.length cells hs h1 A m c us hx hl hsrc hone (by omega) (by decide) ?_
  intro v' w' hown' hgr hat
  have hrow : ∀ g, v.ownBlock = some g → B ≤ g ∧ ∃ cur fr, w.heap[g]? = some (.cells cur 63 fr) := fun g hg => hown.row g hg
  refine h v' w' ⟨cells ++ us, by rw [List.length_append, hm]; exact hown', ?_, ?_⟩ hgr hat ?_
  · intro k y hy
    rcases Nat.lt_or_ge k nds.length with hk | hk
    · rw [List.getElem?_append_left hk] at hy
      have e : ((cells ++ us).drop (k * 5)).take 5 = (cells.drop (k * 5)).take 5 := by
        rw [List.drop_append_of_le_length (by omega), List.take_append_of_le_length (by rw [List.length_drop]; omega)]
      rw [e]
      exact (h2 k y hy).grown hgr hrow
    · rw [List.getElem?_append_right hk] at hy
      have e : ((cells ++ us).drop (k * 5)).take 5 = (us.drop ((k - nds.length) * 5)).take 5 := by
        rw [List.drop_append, List.drop_of_length_le (by omega), List.nil_append, hcl, show k * 5 - nds.length * 5 = (k - nds.length) * 5 by omega]
      rw [e]
      exact (hnd _ y hy).grown hgr hrow
  · intro g hg
    rcases hat with e | e
    · exact h3 g (by rw [← e]; exact hg)
    · rw [e] at hg
      injection hg with hg
      omega
  · intro w0 hw0
    exact hw0.grown hgr hB h3

/-- 'append(out, x)' of one node: the translation lays x in a new block first -/
theorem wpList_append_node {w : World} {ops : Array Oper} {rest : List Oper} {o : Oper} {a : Act} {Q : Exit → Act → World → Prop} (hgd : o.guard = none) (sx x : Operand)
    (ho : o.op = .call { callee := .builtin .append, args := #[sx, x], argTypes := #[43, 43] })
    (B : Nat) (v : Value) (nds : List T.Nd) (hs : a.eval sx = v) (hown : OwnNd B w v nds) (us : List Value) (nd : T.Nd) (hnd : NdO B w us nd) (p : Nat) (hp : p = w.heap.size)
    (hx : a.eval x = .slice (some ⟨p, 0, none⟩) 1 1) (hn : nds.length ≤ 900000) (hB : B ≤ w.heap.size)
    (h : ∀ v' w', OwnNd B w' v' (nds ++ [nd]) → (w.alloc (.cells us.toArray 63)).grownBy w' v.ownBlock → (∀ w0, Below B w0 w → Below B w0 w') → wpList Tryz.prog ops Q rest (a.put o.dst v') w') :
    wpList Tryz.prog ops Q (o :: rest) a (w.alloc (.cells us.toArray 63)) := by
  subst hp
  have hl : us.length = 5 := by obtain ⟨A, c, rfl, _⟩ := hnd; rfl
  have h1' : ∀ u ∈ us, u.oneCell' = true := by obtain ⟨A, c, rfl, _⟩ := hnd; exact ndC_one _ _ _
  have hba : Below w.heap.size w (w.alloc (.cells us.toArray 63)) := (Below.refl _ _).alloc (Nat.le_refl _) _
  refine wpList_append_nodes hgd sx x ho B v nds hs (hown.below hba) 1 us [nd] rfl (by rw [hl]) ?_ h1' _ 1 hx ?_ (by omega) (by simp; omega) ?_
  · intro k y hy
    cases k with
    | zero =>
      simp at hy
      subst hy
      rw [Nat.zero_mul, List.drop_zero, List.take_of_length_le (by omega)]
      exact hnd.below hba
    | succ k => simp at hy
  · intro j u hu
    refine ⟨_, rfl, ?_⟩
    have hj : j < us.length := (List.getElem?_eq_some_iff.1 hu).1
    unfold Addr.add
    split
    · rename_i e
      subst e
      rw [cell_of_row _ _ _ _ _ (0, 0) (heap_alloc_new w _)]
      simpa using hu
    · simp only [Nat.zero_add]
      rw [cell_of_row _ _ _ _ _ (0, 0) (heap_alloc_new w _)]
      simpa using hu
  · intro v' w' h1 h2 _ h4
    exact h v' w' h1 h2 fun w0 hw0 => h4 w0 (hw0.alloc hB _)
end Go.Proofs.YtcmlmjbpdaecbaaGreat
end
section
namespace Go.Proofs.YtcmlmjbpdaecbaaGreat
open Go.RowKit
set_option linter.unusedVariables false
set_option linter.unusedSimpArgs false

/-- a function value answers p x at x, and turns nothing -/
def Answers (f : FuncId) (caps : Array Value) (p : Int → Bool) (w : World) : Prop := (∀ args W', (callFunc f args).run Tryz.prog W' = .ok (.enter f args) W') ∧ ∀ x, Calls Tryz.prog f (#[.int .i64 x] ++ caps) w fun e w' => e = .returned (.bool (p x)) ∧ w = w'

set_option maxHeartbeats 400000 in
theorem idxF_any (f : FuncId) (caps : Array Value) (p : Int → Bool) (A : Option Addr) (m c : Nat) (xs : List Int) (w : World) (hA : SlAt (IntR .i64) w A m xs) (hf : Answers f caps p w) :
    Calls Tryz.prog 176 #[.slice A m c, .func (.func f) #[] caps] w fun e w' => ∃ r : Int, e = .returned (.int .i64 r) ∧ decide (0 ≤ r) = xs.any p ∧ -1 ≤ r ∧ w = w' := by
  have hl := hA.le
  have HA := Lib.hid hA; clear hA
  have HP := Lib.hid hf.2
  have hen := hf.1
  clear hf
  go_enter Tryz.func176, Tryz.ntmps176
  go_wp2
  go_loop [8] (fun i => ∃ k : Nat, k ≤ m ∧ i = .int .i64 k ∧ Hid ((xs.take k).any p = false)) (fun i => m - (intOf i).toNat)
  case atStart => exact ⟨0, Nat.zero_le _, rfl, rfl⟩
  case round =>
    obtain ⟨k, hk, rfl, HT⟩ := hrel
    by_cases hlt : k < m
    · obtain ⟨x, b, off, u, hx, rfl, _, h1, rfl⟩ := HA.out.at_ hlt
      have con := HP.out x
      have Hx := Lib.hid hx; clear hx
      cases hpx : p x
      · rw [hpx] at con
        have Hcon := Lib.hid con; clear con
        have Hpx := Lib.hid hpx; clear hpx
        go_wp2_with fail
        (with_reducible refine Hcon.out.mono ?_)
        rintro e w' ⟨rfl, rfl⟩
        go_wp2
        go_round
        case rel => exact ⟨k + 1, by omega, by go_num, any_take_step Hx.out HT.out Hpx.out⟩
        case measure => simp [intOf]; omega
      · rw [hpx] at con
        have Hcon := Lib.hid con; clear con
        have Hpx := Lib.hid hpx; clear hpx
        go_wp2_with fail
        (with_reducible refine Hcon.out.mono ?_)
        rintro e w' ⟨rfl, rfl⟩
        go_wp2
        go_ret
        exact ⟨_, rfl, by rw [any_true_at Hx.out Hpx.out]; simp, by omega, rfl⟩
    · go_wp2
      go_ret
      have h3 := HT.out
      rw [take_all HA.out.len (by omega)] at h3
      exact ⟨_, rfl, by rw [h3]; rfl, by omega, rfl⟩

set_option maxHeartbeats 400000 in
theorem hasF_any (f : FuncId) (caps : Array Value) (p : Int → Bool) (A : Option Addr) (m c : Nat) (xs : List Int) (w : World) (hA : SlAt (IntR .i64) w A m xs) (hf : Answers f caps p w) :
    Calls Tryz.prog 158 #[.slice A m c, .func (.func f) #[] caps] w fun e w' => e = .returned (.bool (xs.any p)) ∧ w = w' := by
  have Hcon := Lib.hid (idxF_any f caps p A m c xs w hA hf); clear hA hf
  go_enter Tryz.func158, Tryz.ntmps158
  go_wp2_with fail
  (with_reducible refine Hcon.out.mono ?_)
  rintro e w' ⟨r, rfl, hr, hr1, rfl⟩
  have Hr := Lib.hid hr; clear hr
  go_wp2
  go_ret
  exact ⟨ret_bool (by rw [← Hr.out]), rfl⟩

theorem shapedClo_any (k : Nat) (g : Nat) (w : World) (hc : w.cell? ⟨g, 0, none⟩ = some (.int .i64 (k : Int))) :
    Answers 168 #[.pointer (some ⟨g, 0, none⟩)] (fun a => !(decide (0 ≤ a) && decide (a < k))) w := by
  refine ⟨enters_of Tryz.func168 (by kernel_rfl) rfl, fun x => ?_⟩
  dsimp only
  by_cases h0 : x < 0
  · have q0 : decide (x < 0) = true := by simpa using h0
    have e : (!(decide (0 ≤ x) && decide (x < k))) = true := by simp; omega
    rw [e]
    clear e h0
    simp only [List.append_toArray, List.nil_append, List.cons_append]
    go_enter Tryz.func168, Tryz.ntmps168
    go_wp2
    go_ret
    exact ⟨rfl, rfl⟩
  · have q0 : decide (x < 0) = false := by simpa using h0
    have e : (!(decide (0 ≤ x) && decide (x < k))) = decide ((k : Int) ≤ x) := by
      by_cases h : (k : Int) ≤ x <;> simp [h] <;> omega
    rw [e]
    clear e h0
    simp only [List.append_toArray, List.nil_append, List.cons_append]
    go_enter Tryz.func168, Tryz.ntmps168
    go_wp2
    go_ret
    exact ⟨rfl, rfl⟩
end Go.Proofs.YtcmlmjbpdaecbaaGreat
end
section
namespace Go.Proofs.YtcmlmjbpdaecbaaGreat
open Go.RowKit
set_option linter.unusedVariables false
set_option linter.unusedSimpArgs false

theorem argsOk_any (k : Nat) (l : List Int) : T.argsOk k l = !(l.any fun a => !(decide (0 ≤ a) && decide (a < k))) := by
  unfold T.argsOk
  rw [List.not_any_eq_all_not]
  congr 1
  funext a
  simp

/-- how the shape of a node may be wrong: the first test that fails -/
theorem shape_cases (k : Nat) (x : T.Nd) :
    (T.shaped true k x = false ∧ decide (0 ≤ T.ar x.op) = false) ∨
    (T.shaped true k x = false ∧ decide (0 ≤ T.ar x.op) = true ∧ decide (x.w < 1) = true) ∨
    (T.shaped true k x = false ∧ decide (0 ≤ T.ar x.op) = true ∧ decide (x.w < 1) = false ∧ decide (32 < x.w) = true) ∨
    (T.shaped true k x = false ∧ decide (0 ≤ T.ar x.op) = true ∧ decide (x.w < 1) = false ∧ decide (32 < x.w) = false ∧ (x.fl != 0) = true) ∨
    (T.shaped true k x = false ∧ decide (0 ≤ T.ar x.op) = true ∧ decide (x.w < 1) = false ∧ decide (32 < x.w) = false ∧ (x.fl != 0) = false ∧ ((x.args.length : Int) != T.ar x.op) = true) ∨
    (T.shaped true k x = false ∧ decide (0 ≤ T.ar x.op) = true ∧ decide (x.w < 1) = false ∧ decide (32 < x.w) = false ∧ (x.fl != 0) = false ∧ ((x.args.length : Int) != T.ar x.op) = false ∧ T.immOk x = false) ∨
    (T.shaped true k x = false ∧ decide (0 ≤ T.ar x.op) = true ∧ decide (x.w < 1) = false ∧ decide (32 < x.w) = false ∧ (x.fl != 0) = false ∧ ((x.args.length : Int) != T.ar x.op) = false ∧ T.immOk x = true ∧ (x.op == 14) = true ∧ (x.w != 1) = true) ∨
    (T.shaped true k x = T.argsOk k x.args ∧ decide (0 ≤ T.ar x.op) = true ∧ decide (x.w < 1) = false ∧ decide (32 < x.w) = false ∧ (x.fl != 0) = false ∧ ((x.args.length : Int) != T.ar x.op) = false ∧ T.immOk x = true ∧ (x.op == 14) = true ∧ (x.w != 1) = false) ∨
    (T.shaped true k x = T.argsOk k x.args ∧ decide (0 ≤ T.ar x.op) = true ∧ decide (x.w < 1) = false ∧ decide (32 < x.w) = false ∧ (x.fl != 0) = false ∧ ((x.args.length : Int) != T.ar x.op) = false ∧ T.immOk x = true ∧ (x.op == 14) = false) := by
  have hw1 : decide (1 ≤ x.w) = !decide (x.w < 1) := by by_cases h : x.w < 1 <;> simp [h] <;> omega
  have hw2 : decide (x.w ≤ 32) = !decide (32 < x.w) := by by_cases h : 32 < x.w <;> simp [h] <;> omega
  have hf : decide (x.fl = 0) = !(x.fl != 0) := by by_cases h : x.fl = 0 <;> simp [h]
  have hl : decide ((x.args.length : Int) = T.ar x.op) = !((x.args.length : Int) != T.ar x.op) := by by_cases h : (x.args.length : Int) = T.ar x.op <;> simp [h]
  have ho : decide (x.op = 14) = (x.op == 14) := by by_cases h : x.op = 14 <;> simp [h]
  have hw : decide (x.w = 1) = !(x.w != 1) := by by_cases h : x.w = 1 <;> simp [h]
  unfold T.shaped
  rw [hw1, hw2, hf, hl, ho, hw]
  generalize decide (0 ≤ T.ar x.op) = a
  generalize decide (x.w < 1) = b
  generalize decide (32 < x.w) = c
  generalize (x.fl != 0) = d
  generalize ((x.args.length : Int) != T.ar x.op) = e
  generalize T.immOk x = f
  generalize (x.op == 14) = g
  generalize (x.w != 1) = h
  generalize T.argsOk k x.args = i
  cases a <;> cases b <;> cases c <;> cases d <;> cases e <;> cases f <;> cases g <;> cases h <;> simp

set_option maxRecDepth 100000 in
set_option maxHeartbeats 4000000 in
theorem pisShaped_any (k : Nat) (x : T.Nd) (A : Option Addr) (c : Nat) (W : World) (hA : SlAt (IntR .i64) W A x.args.length x.args) :
    Calls Tryz.prog 147 #[.int .i64 k, ndV x A c] W fun e w' => e = .returned (.bool (T.shaped true k x)) ∧ Below W.heap.size W w' := by
  obtain ⟨op, w, fl, args, imm⟩ := x
  have Hc := Lib.hid (shape_cases k ⟨op, w, fl, args, imm⟩)
  have HI := Lib.hid (fun n W' => pisImm_any op w fl imm n A c args W')
  have HP := Lib.hid (fun W' => parity_any op W')
  have hle := hA.le
  obtain ⟨W1, hW1⟩ : ∃ W1, W1 = (W.alloc (.cells #[.int .i64 (k : Int)] 3)).alloc (.cells #[.int .i64 op, .int .i64 w, .int .i64 fl, .slice A args.length c, .int .u32 imm] 63) := ⟨_, rfl⟩
  have hB1 : Below W.heap.size W W1 := by rw [hW1]; exact ((Below.refl _ _).alloc (Nat.le_refl _) _).alloc (by simp) _
  have hs1 : W1.heap.size = W.heap.size + 1 + 1 := by rw [hW1]; simp
  have hr0 : W1.heap[W.heap.size]? = some (.cells #[.int .i64 (k : Int)] 3 (0, 0)) := by rw [hW1]; exact row_alloc (heap_alloc_new W _) _
  have hr1 : W1.heap[W.heap.size + 1]? = some (.cells #[.int .i64 op, .int .i64 w, .int .i64 fl, .slice A args.length c, .int .u32 imm] 63 (0, 0)) := by rw [hW1]; exact new_two W _ _
  have HX := Lib.hid (show ∀ Y : World, Below W1.heap.size W1 Y → Y.cell? ⟨W.heap.size, 0, none⟩ = some (.int .i64 (k : Int)) ∧ Y.cell? ⟨W.heap.size + 1, 0, none⟩ = some (.int .i64 op) ∧ Y.cell? ⟨W.heap.size + 1, 1, none⟩ = some (.int .i64 w) ∧ Y.cell? ⟨W.heap.size + 1, 2, none⟩ = some (.int .i64 fl) ∧ Y.cell? ⟨W.heap.size + 1, 3, none⟩ = some (.slice A args.length c) ∧ Y.cell? ⟨W.heap.size + 1, 4, none⟩ = some (.int .u32 imm) from fun Y hY => by
    have h0 := row_step (Lib.hid hY) hr0
    have h1 := row_step (Lib.hid hY) hr1
    refine ⟨?_, ?_, ?_, ?_, ?_, ?_⟩
    · rw [cell_of_row _ _ _ _ _ (0, 0) h0]; rfl
    all_goals rw [cell_of_row _ _ _ _ _ (0, 0) h1]; rfl)
  have HS := Lib.hid (fun (Y : World) (h : Below W1.heap.size W1 Y) => hasF_any 168 #[.pointer (some ⟨W.heap.size, 0, none⟩)] (fun a => !(decide (0 ≤ a) && decide (a < k))) A args.length c args Y ((hA.below (monoInt _) hB1).below (monoInt _) h) (shapedClo_any k _ Y (by
    have h0 := row_step (Lib.hid h) hr0
    rw [cell_of_row _ _ _ _ _ (0, 0) h0]; rfl)))
  have HB1 := Lib.hid hB1
  have Hs1 := Lib.hid hs1
  have HW1 := Lib.hid hW1
  clear hA hB1 hs1 hr0 hr1
  obtain ⟨x0, x1, x2, x3, x4, x5⟩ := HX.out W1 (Below.refl _ _)
  simp only at Hc HI HP
  rw [show ndV ⟨op, w, fl, args, imm⟩ A c = .agg #[.int .i64 op, .int .i64 w, .int .i64 fl, .slice A args.length c, .int .u32 imm] from rfl]
  obtain ⟨ok, hok⟩ : ∃ ok, ok = decide (0 ≤ T.ar op) := ⟨_, rfl⟩
  obtain ⟨sh, hsh⟩ : ∃ sh, sh = T.shaped true k ⟨op, w, fl, args, imm⟩ := ⟨_, rfl⟩
  rw [← hsh]
  have Hsh := Lib.hid hsh
  have Hok := Lib.hid hok
  clear hsh hok
  rcases Hc.out with ⟨hr, h1⟩ | ⟨hr, h1, h2⟩ | ⟨hr, h1, h2, h3⟩ | ⟨hr, h1, h2, h3, h4⟩ | ⟨hr, h1, h2, h3, h4, h5⟩ | ⟨hr, h1, h2, h3, h4, h5, h6⟩ | ⟨hr, h1, h2, h3, h4, h5, h6, h7, h8⟩ | ⟨hr, h1, h2, h3, h4, h5, h6, h7, h8⟩ | ⟨hr, h1, h2, h3, h4, h5, h6, h7⟩
  all_goals
    rw [← Hsh.out] at hr
    rw [h1] at HP
  · have hn : ¬ 0 ≤ T.ar op := by simpa using h1
    rw [if_neg hn] at HP
    subst hr
    clear h1 hn Hc
    go_enter Tryz.func147, Tryz.ntmps147
    rw [hW1] at x0 x1 x2 x3 x4 x5
    go_wp2_with fail
    rw [← hW1] at x0 x1 x2 x3 x4 x5 ⊢
    refine (HP.out _).mono ?_
    rintro e w' ⟨rfl, rfl⟩
    clear hW1
    go_wp2
    go_ret
    exact ⟨rfl, HB1.out⟩
  · have hn : 0 ≤ T.ar op := by simpa using h1
    rw [if_pos hn] at HP
    obtain ⟨n, hnn⟩ : ∃ n, n = T.ar op := ⟨_, rfl⟩
    simp only [← hnn] at *
    clear h1 hn Hc hnn
    subst hr
    go_enter Tryz.func147, Tryz.ntmps147
    rw [hW1] at x0 x1 x2 x3 x4 x5
    go_wp2_with fail
    rw [← hW1] at x0 x1 x2 x3 x4 x5 ⊢
    refine (HP.out _).mono ?_
    rintro e w' ⟨rfl, rfl⟩
    clear hW1
    go_wp2
    go_ret
    exact ⟨rfl, HB1.out⟩
  · have hn : 0 ≤ T.ar op := by simpa using h1
    rw [if_pos hn] at HP
    obtain ⟨n, hnn⟩ : ∃ n, n = T.ar op := ⟨_, rfl⟩
    simp only [← hnn] at *
    clear h1 hn Hc hnn
    subst hr
    go_enter Tryz.func147, Tryz.ntmps147
    rw [hW1] at x0 x1 x2 x3 x4 x5
    go_wp2_with fail
    rw [← hW1] at x0 x1 x2 x3 x4 x5 ⊢
    refine (HP.out _).mono ?_
    rintro e w' ⟨rfl, rfl⟩
    clear hW1
    go_wp2
    go_ret
    exact ⟨rfl, HB1.out⟩
  · have hn : 0 ≤ T.ar op := by simpa using h1
    rw [if_pos hn] at HP
    obtain ⟨n, hnn⟩ : ∃ n, n = T.ar op := ⟨_, rfl⟩
    simp only [← hnn] at *
    clear h1 hn Hc hnn
    subst hr
    go_enter Tryz.func147, Tryz.ntmps147
    rw [hW1] at x0 x1 x2 x3 x4 x5
    go_wp2_with fail
    rw [← hW1] at x0 x1 x2 x3 x4 x5 ⊢
    refine (HP.out _).mono ?_
    rintro e w' ⟨rfl, rfl⟩
    clear hW1
    go_wp2
    go_ret
    exact ⟨rfl, HB1.out⟩
  · have hn : 0 ≤ T.ar op := by simpa using h1
    rw [if_pos hn] at HP
    obtain ⟨n, hnn⟩ : ∃ n, n = T.ar op := ⟨_, rfl⟩
    simp only [← hnn] at *
    clear h1 hn Hc hnn
    subst hr
    go_enter Tryz.func147, Tryz.ntmps147
    rw [hW1] at x0 x1 x2 x3 x4 x5
    go_wp2_with fail
    rw [← hW1] at x0 x1 x2 x3 x4 x5 ⊢
    refine (HP.out _).mono ?_
    rintro e w' ⟨rfl, rfl⟩
    clear hW1
    go_wp2
    go_ret
    exact ⟨rfl, HB1.out⟩
  · have hn : 0 ≤ T.ar op := by simpa using h1
    rw [if_pos hn] at HP
    obtain ⟨n, hnn⟩ : ∃ n, n = T.ar op := ⟨_, rfl⟩
    simp only [← hnn] at *
    clear h1 hn Hc hnn
    subst hr
    rw [h6] at HI
    clear h6
    go_enter Tryz.func147, Tryz.ntmps147
    rw [hW1] at x0 x1 x2 x3 x4 x5
    go_wp2_with fail
    rw [← hW1] at x0 x1 x2 x3 x4 x5 ⊢
    refine (HP.out _).mono ?_
    rintro e w' ⟨rfl, rfl⟩
    clear hW1
    go_wp2_with fail
    refine (HI.out _ _).mono ?_
    rintro e w2 ⟨rfl, hb2⟩
    obtain ⟨y0, y1, y2, y3, y4, y5⟩ := HX.out w2 hb2
    have HS2 := Lib.hid (HS.out w2 hb2)
    have Hb2 := Lib.hid (HB1.out.trans (hb2.mono (by have := Hs1.out; omega)))
    clear hb2 x0 x1 x2 x3 x4 x5
    go_wp2
    go_ret
    exact ⟨rfl, Hb2.out⟩
  · have hn : 0 ≤ T.ar op := by simpa using h1
    rw [if_pos hn] at HP
    obtain ⟨n, hnn⟩ : ∃ n, n = T.ar op := ⟨_, rfl⟩
    simp only [← hnn] at *
    clear h1 hn Hc hnn
    subst hr
    rw [h6] at HI
    clear h6
    go_enter Tryz.func147, Tryz.ntmps147
    rw [hW1] at x0 x1 x2 x3 x4 x5
    go_wp2_with fail
    rw [← hW1] at x0 x1 x2 x3 x4 x5 ⊢
    refine (HP.out _).mono ?_
    rintro e w' ⟨rfl, rfl⟩
    clear hW1
    go_wp2_with fail
    refine (HI.out _ _).mono ?_
    rintro e w2 ⟨rfl, hb2⟩
    obtain ⟨y0, y1, y2, y3, y4, y5⟩ := HX.out w2 hb2
    have HS2 := Lib.hid (HS.out w2 hb2)
    have Hb2 := Lib.hid (HB1.out.trans (hb2.mono (by have := Hs1.out; omega)))
    clear hb2 x0 x1 x2 x3 x4 x5
    go_wp2
    go_ret
    exact ⟨rfl, Hb2.out⟩
  · have hn : 0 ≤ T.ar op := by simpa using h1
    rw [if_pos hn] at HP
    obtain ⟨n, hnn⟩ : ∃ n, n = T.ar op := ⟨_, rfl⟩
    simp only [← hnn] at *
    clear h1 hn Hc hnn
    have Hr := Lib.hid hr; clear hr
    rw [h6] at HI
    clear h6
    go_enter Tryz.func147, Tryz.ntmps147
    rw [hW1] at x0 x1 x2 x3 x4 x5
    go_wp2_with fail
    rw [← hW1] at x0 x1 x2 x3 x4 x5 ⊢
    refine (HP.out _).mono ?_
    rintro e w' ⟨rfl, rfl⟩
    clear hW1
    go_wp2_with fail
    refine (HI.out _ _).mono ?_
    rintro e w2 ⟨rfl, hb2⟩
    obtain ⟨y0, y1, y2, y3, y4, y5⟩ := HX.out w2 hb2
    have HS2 := Lib.hid (HS.out w2 hb2)
    have Hb2 := Lib.hid (HB1.out.trans (hb2.mono (by have := Hs1.out; omega)))
    clear hb2 x0 x1 x2 x3 x4 x5
    go_wp2_with fail
    refine HS2.out.mono ?_
    rintro e w' ⟨rfl, rfl⟩
    go_wp2
    go_ret
    exact ⟨ret_bool (by rw [Hr.out, argsOk_any]; simp only [Bool.not_and]), Hb2.out⟩
  · have hn : 0 ≤ T.ar op := by simpa using h1
    rw [if_pos hn] at HP
    obtain ⟨n, hnn⟩ : ∃ n, n = T.ar op := ⟨_, rfl⟩
    simp only [← hnn] at *
    clear h1 hn Hc hnn
    have Hr := Lib.hid hr; clear hr
    rw [h6] at HI
    clear h6
    go_enter Tryz.func147, Tryz.ntmps147
    rw [hW1] at x0 x1 x2 x3 x4 x5
    go_wp2_with fail
    rw [← hW1] at x0 x1 x2 x3 x4 x5 ⊢
    refine (HP.out _).mono ?_
    rintro e w' ⟨rfl, rfl⟩
    clear hW1
    go_wp2_with fail
    refine (HI.out _ _).mono ?_
    rintro e w2 ⟨rfl, hb2⟩
    obtain ⟨y0, y1, y2, y3, y4, y5⟩ := HX.out w2 hb2
    have HS2 := Lib.hid (HS.out w2 hb2)
    have Hb2 := Lib.hid (HB1.out.trans (hb2.mono (by have := Hs1.out; omega)))
    clear hb2 x0 x1 x2 x3 x4 x5
    go_wp2_with fail
    refine HS2.out.mono ?_
    rintro e w' ⟨rfl, rfl⟩
    go_wp2
    go_ret
    exact ⟨ret_bool (by rw [Hr.out, argsOk_any]; simp only [Bool.not_and]), Hb2.out⟩
end Go.Proofs.YtcmlmjbpdaecbaaGreat
end
