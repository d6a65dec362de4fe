/- Merged: RU3, RU5. -/
import Derived.Test.YtbiopedpceddeaaGreatDoorL08
set_option linter.unusedVariables false
set_option linter.unusedSimpArgs false
section
namespace Go.Proofs.YtbiopedpceddeaaGreatDoor
open Go.RowKit
set_option linter.unusedVariables false
set_option linter.unusedSimpArgs false

namespace R
def tnode (k : Nat) (x : T.Nd) : Bool := flOk x.op x.fl && T.shaped false k x
theorem rar_T {op : Int} (h1 : op ≠ 34) (h2 : op ≠ 35) : rar op = T.ar op := by unfold rar; rw [if_neg h1, if_neg h2]
theorem ar_34 : T.ar 34 = -1 := by decide
theorem ar_35 : T.ar 35 = -1 := by decide
theorem tnode_bad {k : Nat} {x : T.Nd} (h : built k x = false ∨ x.w < 1 ∨ 32 < x.w ∨ x.op = 34 ∨ x.op = 35) : tnode k x = false := by
  by_cases h34 : x.op = 34
  · unfold tnode T.shaped; rw [h34, ar_34]; simp
  by_cases h35 : x.op = 35
  · unfold tnode T.shaped; rw [h35, ar_35]; simp
  rcases h with h | h | h | h | h
  · unfold built at h
    rw [rar_T h34 h35] at h
    unfold tnode T.shaped
    rw [Bool.eq_false_iff] at h ⊢
    intro h'
    apply h
    simp only [Bool.and_eq_true, Bool.or_eq_true, decide_eq_true_eq] at h' ⊢
    obtain ⟨h1, ⟨⟨⟨⟨⟨⟨h2, h3⟩, h4⟩, h5⟩, h6⟩, h7⟩, h8⟩, h9⟩ := h'
    exact ⟨⟨⟨h2, h6⟩, h1⟩, h9⟩
  · unfold tnode T.shaped
    have : decide (1 ≤ x.w) = false := by simp; omega
    rw [this]; simp
  · unfold tnode T.shaped
    have : decide (x.w ≤ 32) = false := by simp; omega
    rw [this]; simp
  · exact absurd h h34
  · exact absurd h h35
theorem tnode_good {k : Nat} {x : T.Nd} (h : built k x = true) (h1 : ¬ x.w < 1) (h2 : ¬ 32 < x.w) (h34 : x.op ≠ 34) (h35 : x.op ≠ 35) : tnode k x = (T.immOk x && (!decide (x.op = 14) || decide (x.w = 1))) := by
  unfold built at h
  rw [rar_T h34 h35] at h
  simp only [Bool.and_eq_true, decide_eq_true_eq] at h
  obtain ⟨⟨⟨a1, a2⟩, a3⟩, a4⟩ := h
  unfold tnode T.shaped
  have e1 : decide (1 ≤ x.w) = true := by simp; omega
  have e2 : decide (x.w ≤ 32) = true := by simp; omega
  rw [e1, e2, a3, a4]
  simp [a1, a2]
end R

set_option maxRecDepth 100000 in
set_option maxHeartbeats 4000000 in
theorem gTermNode_any (k : Nat) (x : T.Nd) (A : Option Addr) (c : Nat) (W : World) (hA : SlAt (IntR .i64) W A x.args.length x.args) (hf : -9223372036854775808 ≤ x.fl ∧ x.fl ≤ 9223372036854775807) (hi : 0 ≤ x.imm ∧ x.imm < 4294967296) :
    Calls Tryz.prog 98 #[.int .i64 k, ndV x A c] W fun e w' => e = .returned (.bool (R.tnode k x)) ∧ Below W.heap.size W w' := by
  obtain ⟨W1, hW1⟩ : ∃ W1, W1 = W.alloc (.cells #[.int .i64 x.op, .int .i64 x.w, .int .i64 x.fl, .slice A x.args.length c, .int .u32 x.imm] 62) := ⟨_, rfl⟩
  have hB1 : Below W.heap.size W W1 := by rw [hW1]; exact (Below.refl _ _).alloc (Nat.le_refl _) _
  have hr1 : W1.heap[W.heap.size]? = some (.cells #[.int .i64 x.op, .int .i64 x.w, .int .i64 x.fl, .slice A x.args.length c, .int .u32 x.imm] 62 (0, 0)) := by rw [hW1]; exact heap_alloc_new W _
  have Hx := Lib.hid (show ∀ X, Below W1.heap.size W1 X → X.cell? ⟨W.heap.size, 0, none⟩ = some (.int .i64 x.op) ∧ X.cell? ⟨W.heap.size, 1, none⟩ = some (.int .i64 x.w) ∧ X.cell? ⟨W.heap.size, 2, none⟩ = some (.int .i64 x.fl) ∧ X.cell? ⟨W.heap.size, 3, none⟩ = some (.slice A x.args.length c) ∧ X.cell? ⟨W.heap.size, 4, none⟩ = some (.int .u32 x.imm) from fun X hX => by
    have hr := row_step (Lib.hid hX) hr1
    refine ⟨?_, ?_, ?_, ?_, ?_⟩
    all_goals rw [cell_of_row _ _ _ _ _ (0, 0) hr]; rfl)
  have HBt := Lib.hid (gisBuilt_any k x A c W1 (hA.below (monoInt _) hB1) hf)
  have HW := Lib.hid (fun W' => gisWord_any x.w x.imm W' hi.1)
  obtain ⟨r, hr⟩ : ∃ r, r = R.tnode k x := ⟨_, rfl⟩
  rw [← hr]
  have hcase : (R.built k x = false ∧ r = false) ∨ (R.built k x = true ∧ x.w < 1 ∧ r = false) ∨ (R.built k x = true ∧ ¬ x.w < 1 ∧ 32 < x.w ∧ r = false) ∨ (R.built k x = true ∧ ¬ x.w < 1 ∧ ¬ 32 < x.w ∧ ((x.op = 34 ∧ r = false) ∨ (x.op = 35 ∧ r = false) ∨ (x.op = 0 ∧ r = B.isW x.w x.imm) ∨ (x.op = 33 ∧ r = decide (x.imm < 4)) ∨ (x.op = 14 ∧ x.w = 1 ∧ r = decide (x.imm ≤ 9)) ∨ (x.op = 14 ∧ x.w ≠ 1 ∧ r = false) ∨ (x.op ≠ 34 ∧ x.op ≠ 35 ∧ x.op ≠ 0 ∧ x.op ≠ 33 ∧ x.op ≠ 14 ∧ r = decide (x.imm = 0)))) := by
    cases hb : R.built k x
    · exact .inl ⟨rfl, by rw [hr]; exact R.tnode_bad (.inl hb)⟩
    by_cases h1 : x.w < 1
    · exact .inr (.inl ⟨rfl, h1, by rw [hr]; exact R.tnode_bad (.inr (.inl h1))⟩)
    by_cases h2 : 32 < x.w
    · exact .inr (.inr (.inl ⟨rfl, h1, h2, by rw [hr]; exact R.tnode_bad (.inr (.inr (.inl h2)))⟩))
    refine .inr (.inr (.inr ⟨rfl, h1, h2, ?_⟩))
    by_cases h34 : x.op = 34
    · exact .inl ⟨h34, by rw [hr]; exact R.tnode_bad (.inr (.inr (.inr (.inl h34))))⟩
    by_cases h35 : x.op = 35
    · exact .inr (.inl ⟨h35, by rw [hr]; exact R.tnode_bad (.inr (.inr (.inr (.inr h35))))⟩)
    have hg := hr.trans (R.tnode_good hb h1 h2 h34 h35)
    unfold T.immOk at hg
    by_cases h0 : x.op = 0
    · rw [if_pos h0, h0] at hg
      exact .inr (.inr (.inl ⟨h0, by simpa using hg⟩))
    by_cases h33 : x.op = 33
    · rw [if_neg h0, if_pos h33, h33] at hg
      exact .inr (.inr (.inr (.inl ⟨h33, by simpa using hg⟩)))
    by_cases h14 : x.op = 14
    · rw [if_neg h0, if_neg h33, if_pos h14, h14] at hg
      by_cases hw1 : x.w = 1
      · exact .inr (.inr (.inr (.inr (.inl ⟨h14, hw1, by simpa [hw1] using hg⟩))))
      · exact .inr (.inr (.inr (.inr (.inr (.inl ⟨h14, hw1, by simpa [hw1] using hg⟩)))))
    · rw [if_neg h0, if_neg h33, if_neg h14] at hg
      exact .inr (.inr (.inr (.inr (.inr (.inr ⟨h34, h35, h0, h33, h14, by simpa [h14] using hg⟩)))))
  have HB1 := Lib.hid hB1
  have hie : (x.imm == 0) = decide (x.imm = 0) := rfl
  generalize R.built k x = b at HBt hcase
  clear hA hr1 hB1 hf hr
  obtain ⟨op, w, fl, args, imm⟩ := x
  unfold ndV at *
  dsimp only at *
  rcases hcase with ⟨rfl, rfl⟩ | ⟨rfl, h1, rfl⟩ | ⟨rfl, h1, h2, rfl⟩ | ⟨rfl, h1, h2, hcase⟩
  · clear hi hie HW
    go_enter Tryz.func98, Tryz.ntmps98
    go_wp2_with fail
    rw [← hW1]
    clear hW1
    (with_reducible refine HBt.out.mono ?_)
    rintro e w2 ⟨rfl, hb2⟩
    have Hb2 := Lib.hid (HB1.out.trans (hb2.mono HB1.out.size))
    clear hb2
    go_wp2
    go_ret
    exact ⟨rfl, Hb2.out⟩
  · clear hi hie HW
    go_enter Tryz.func98, Tryz.ntmps98
    go_wp2_with fail
    rw [← hW1]
    clear hW1
    (with_reducible refine HBt.out.mono ?_)
    rintro e w2 ⟨rfl, hb2⟩
    have Hb2 := Lib.hid (HB1.out.trans (hb2.mono HB1.out.size))
    obtain ⟨x0, x1, x2, x3, x4⟩ := Hx.out w2 hb2
    clear hb2
    go_wp2
    go_ret
    exact ⟨rfl, Hb2.out⟩
  · clear hi hie HW
    go_enter Tryz.func98, Tryz.ntmps98
    go_wp2_with fail
    rw [← hW1]
    clear hW1
    (with_reducible refine HBt.out.mono ?_)
    rintro e w2 ⟨rfl, hb2⟩
    have Hb2 := Lib.hid (HB1.out.trans (hb2.mono HB1.out.size))
    obtain ⟨x0, x1, x2, x3, x4⟩ := Hx.out w2 hb2
    clear hb2
    go_wp2
    go_ret
    exact ⟨rfl, Hb2.out⟩
  · have qa : decide (w < 1) = false := by simpa using h1
    have qb : decide (32 < w) = false := by simpa using h2
    clear h1 h2
    rcases hcase with ⟨rfl, rfl⟩ | ⟨rfl, rfl⟩ | ⟨rfl, hr⟩ | ⟨rfl, hr⟩ | ⟨rfl, rfl, hr⟩ | ⟨rfl, h3, rfl⟩ | ⟨n34, n35, n0, n33, n14, hr⟩
    · skip
      clear hie hi HW
      go_enter Tryz.func98, Tryz.ntmps98
      go_wp2_with fail
      rw [← hW1]
      clear hW1
      (with_reducible refine HBt.out.mono ?_)
      rintro e w2 ⟨rfl, hb2⟩
      have Hb2 := Lib.hid (HB1.out.trans (hb2.mono HB1.out.size))
      obtain ⟨x0, x1, x2, x3, x4⟩ := Hx.out w2 hb2
      clear hb2
      go_wp2
      go_ret
      exact ⟨rfl, Hb2.out⟩
    · skip
      clear hie hi HW
      go_enter Tryz.func98, Tryz.ntmps98
      go_wp2_with fail
      rw [← hW1]
      clear hW1
      (with_reducible refine HBt.out.mono ?_)
      rintro e w2 ⟨rfl, hb2⟩
      have Hb2 := Lib.hid (HB1.out.trans (hb2.mono HB1.out.size))
      obtain ⟨x0, x1, x2, x3, x4⟩ := Hx.out w2 hb2
      clear hb2
      go_wp2
      go_ret
      exact ⟨rfl, Hb2.out⟩
    · have Hr := Lib.hid hr
      rw [← hr] at HW
      clear hie hi hr
      go_enter Tryz.func98, Tryz.ntmps98
      go_wp2_with fail
      rw [← hW1]
      clear hW1
      (with_reducible refine HBt.out.mono ?_)
      rintro e w2 ⟨rfl, hb2⟩
      have Hb2 := Lib.hid (HB1.out.trans (hb2.mono HB1.out.size))
      obtain ⟨x0, x1, x2, x3, x4⟩ := Hx.out w2 hb2
      clear hb2
      go_wp2_with fail
      (with_reducible refine (HW.out _).mono ?_)
      rintro e w' ⟨rfl, rfl⟩
      go_wp2
      go_ret
      exact ⟨rfl, Hb2.out⟩
    · subst hr
      clear hie hi HW
      go_enter Tryz.func98, Tryz.ntmps98
      go_wp2_with fail
      rw [← hW1]
      clear hW1
      (with_reducible refine HBt.out.mono ?_)
      rintro e w2 ⟨rfl, hb2⟩
      have Hb2 := Lib.hid (HB1.out.trans (hb2.mono HB1.out.size))
      obtain ⟨x0, x1, x2, x3, x4⟩ := Hx.out w2 hb2
      clear hb2
      go_wp2
      go_ret
      exact ⟨rfl, Hb2.out⟩
    · subst hr
      clear hie hi HW
      go_enter Tryz.func98, Tryz.ntmps98
      go_wp2_with fail
      rw [← hW1]
      clear hW1
      (with_reducible refine HBt.out.mono ?_)
      rintro e w2 ⟨rfl, hb2⟩
      have Hb2 := Lib.hid (HB1.out.trans (hb2.mono HB1.out.size))
      obtain ⟨x0, x1, x2, x3, x4⟩ := Hx.out w2 hb2
      clear hb2
      go_wp2
      go_ret
      exact ⟨rfl, Hb2.out⟩
    · have q1 : (w == 1) = false := by simpa using h3
      clear hie HW hi h3
      go_enter Tryz.func98, Tryz.ntmps98
      go_wp2_with fail
      rw [← hW1]
      clear hW1
      (with_reducible refine HBt.out.mono ?_)
      rintro e w2 ⟨rfl, hb2⟩
      have Hb2 := Lib.hid (HB1.out.trans (hb2.mono HB1.out.size))
      obtain ⟨x0, x1, x2, x3, x4⟩ := Hx.out w2 hb2
      clear hb2
      go_wp2
      go_ret
      exact ⟨rfl, Hb2.out⟩
    · have q34 : (op == 34) = false := by simpa using n34
      have q35 : (op == 35) = false := by simpa using n35
      have q0 : (op == 0) = false := by simpa using n0
      have q33 : (op == 33) = false := by simpa using n33
      have q14 : (op == 14) = false := by simpa using n14
      rw [← hie] at hr
      subst hr
      clear n34 n35 n0 n33 n14 hie HW hi
      go_enter Tryz.func98, Tryz.ntmps98
      go_wp2_with fail
      rw [← hW1]
      clear hW1
      (with_reducible refine HBt.out.mono ?_)
      rintro e w2 ⟨rfl, hb2⟩
      have Hb2 := Lib.hid (HB1.out.trans (hb2.mono HB1.out.size))
      obtain ⟨x0, x1, x2, x3, x4⟩ := Hx.out w2 hb2
      clear hb2
      go_wp2
      go_ret
      exact ⟨rfl, Hb2.out⟩
end Go.Proofs.YtbiopedpceddeaaGreatDoor
end
section
namespace Go.Proofs.YtbiopedpceddeaaGreatDoor
open Go.RowKit
set_option linter.unusedVariables false
set_option linter.unusedSimpArgs false

def cdC (x : R.Cd) : List Value := [.int .i64 x.kind, .int .i64 x.hole, .int .u32 x.imm]
def cdV (x : R.Cd) : Value := .agg #[.int .i64 x.kind, .int .i64 x.hole, .int .u32 x.imm]
def CdR (_ : World) (us : List Value) (x : R.Cd) : Prop := us = cdC x ∧ 0 ≤ x.imm ∧ x.imm < 4294967296
theorem monoCd : MonoL CdR := fun _ _ _ _ _ h => h
theorem cd_cells {W : World} {A : Option Addr} {n : Nat} {l : List R.Cd} (h : StAt 3 CdR W A n l) {j : Nat} (hj : j < n) :
    ∃ x b off, l[j]? = some x ∧ A = some ⟨b, off, none⟩ ∧ b < W.heap.size ∧ W.cell? ⟨b, off + j * 3, none⟩ = some (.int .i64 x.kind) ∧ W.cell? ⟨b, off + j * 3 + 1, none⟩ = some (.int .i64 x.hole) ∧ W.cell? ⟨b, off + j * 3 + 2, none⟩ = some (.int .u32 x.imm) ∧ 0 ≤ x.imm ∧ x.imm < 4294967296 := by
  obtain ⟨x, b, off, us, hx, hA, hb, hl, hc, rfl, h0, h1⟩ := h.at_ hj
  exact ⟨x, b, off, hx, hA, hb, hc 0 _ rfl, hc 1 _ rfl, hc 2 _ rfl, h0, h1⟩

set_option maxRecDepth 100000 in
set_option maxHeartbeats 1000000 in
/-- IndexFunc: the closure answers each element -/
theorem idxNd_any (f : FuncId) (caps : Array Value) (p : T.Nd → Bool) (A : Option Addr) (m c : Nat) (xs : List T.Nd) (w : World) (hA : StAt 5 NdR w A m xs) (hen : ∀ args W', (callFunc f args).run Tryz.prog W' = .ok (.enter f args) W')
    (hf : ∀ X, Below w.heap.size w X → ∀ (j : Nat) (x : T.Nd) (A' : Option Addr) (c' : Nat), xs[j]? = some x → SlAt (IntR .i64) X A' x.args.length x.args → 0 ≤ x.imm → x.imm < 4294967296 → Calls Tryz.prog f (#[ndV x A' c'] ++ caps) X fun e w' => e = .returned (.bool (p x)) ∧ Below X.heap.size X w') :
    Calls Tryz.prog 196 #[.slice A m c, .func (.func f) #[] caps] w fun e w' => ∃ r : Int, e = .returned (.int .i64 r) ∧ decide (0 ≤ r) = xs.any p ∧ -1 ≤ r ∧ Below w.heap.size w w' := by
  have hl := hA.le
  have HA := Lib.hid hA; clear hA
  have HP := Lib.hid hf; clear hf
  go_enter Tryz.func196, Tryz.ntmps196
  go_wp2
  go_loopg [8] (m + 1) (fun g i wr => ∃ k : Nat, k ≤ m ∧ i = .int .i64 k ∧ g + k = m + 1 ∧ Hid ((xs.take k).any p = false) ∧ Hid (Below w.heap.size w wr))
  case atStart => exact ⟨0, Nat.zero_le _, rfl, rfl, Lib.hid rfl, Lib.hid (Below.refl _ _)⟩
  case round =>
    obtain ⟨k, hk, rfl, hgk, HT, HB⟩ := hrel
    have Hgk := Lib.hid hgk; clear hgk
    by_cases hlt : k < m
    · obtain ⟨x, b, off, A', c', hx, rfl, hb, h0, h1, h2, h3, h4, hs, i0, i1⟩ := nd_cells (HA.out.below monoNd HB.out) hlt
      have con := HP.out wr HB.out k x A' c' hx hs i0 i1
      have Hx := Lib.hid hx
      unfold ndV at con
      clear hx hs hb i0 i1
      cases hpx : p x
      · rw [hpx] at con
        have Hcon := Lib.hid con; clear con
        have Hpx := Lib.hid hpx; clear hpx
        go_wp2_with fail
        (with_reducible refine Hcon.out.mono ?_)
        rintro e w' ⟨rfl, hb'⟩
        have HB' := Lib.hid (HB.out.trans (hb'.mono HB.out.size))
        clear hb'
        go_wp2
        go_roundg (gk - 1)
        case measure => have := Hgk.out; omega
        case rel => have := Hgk.out; exact ⟨k + 1, by omega, by go_num, by omega, Lib.hid (any_take_step Hx.out HT.out Hpx.out), HB'⟩
      · rw [hpx] at con
        have Hcon := Lib.hid con; clear con
        have Hpx := Lib.hid hpx; clear hpx
        go_wp2_with fail
        (with_reducible refine Hcon.out.mono ?_)
        rintro e w' ⟨rfl, hb'⟩
        have HB' := Lib.hid (HB.out.trans (hb'.mono HB.out.size))
        clear hb'
        go_wp2
        go_ret
        exact ⟨_, rfl, by rw [any_true_at Hx.out Hpx.out]; simp, by omega, HB'.out⟩
    · go_wp2
      go_ret
      have h3 := HT.out
      rw [take_all HA.out.len (by omega)] at h3
      exact ⟨_, rfl, by rw [h3]; rfl, by omega, HB.out⟩

set_option maxHeartbeats 400000 in
theorem hasNd_any (f : FuncId) (caps : Array Value) (p : T.Nd → Bool) (A : Option Addr) (m c : Nat) (xs : List T.Nd) (w : World) (hA : StAt 5 NdR w A m xs) (hen : ∀ args W', (callFunc f args).run Tryz.prog W' = .ok (.enter f args) W')
    (hf : ∀ X, Below w.heap.size w X → ∀ (j : Nat) (x : T.Nd) (A' : Option Addr) (c' : Nat), xs[j]? = some x → SlAt (IntR .i64) X A' x.args.length x.args → 0 ≤ x.imm → x.imm < 4294967296 → Calls Tryz.prog f (#[ndV x A' c'] ++ caps) X fun e w' => e = .returned (.bool (p x)) ∧ Below X.heap.size X w') :
    Calls Tryz.prog 156 #[.slice A m c, .func (.func f) #[] caps] w fun e w' => e = .returned (.bool (xs.any p)) ∧ Below w.heap.size w w' := by
  have Hcon := Lib.hid (idxNd_any f caps p A m c xs w hA hen hf); clear hA hf hen
  go_enter Tryz.func156, Tryz.ntmps156
  go_wp2_with fail
  (with_reducible refine Hcon.out.mono ?_)
  rintro e w' ⟨r, rfl, hr, hr1, hb⟩
  have Hr := Lib.hid hr
  have Hb := Lib.hid hb
  clear hr hb
  go_wp2
  go_ret
  exact ⟨ret_bool (by rw [← Hr.out]), Hb.out⟩

set_option maxRecDepth 100000 in
set_option maxHeartbeats 1000000 in
/-- IndexFunc: the closure answers each element -/
theorem idxCd_any (f : FuncId) (caps : Array Value) (p : R.Cd → Bool) (A : Option Addr) (m c : Nat) (xs : List R.Cd) (w : World) (hA : StAt 3 CdR w A m xs) (hen : ∀ args W', (callFunc f args).run Tryz.prog W' = .ok (.enter f args) W')
    (hf : ∀ X, Below w.heap.size w X → ∀ (j : Nat) (x : R.Cd), xs[j]? = some x → 0 ≤ x.imm → x.imm < 4294967296 → Calls Tryz.prog f (#[cdV x] ++ caps) X fun e w' => e = .returned (.bool (p x)) ∧ Below X.heap.size X w') :
    Calls Tryz.prog 166 #[.slice A m c, .func (.func f) #[] caps] w fun e w' => ∃ r : Int, e = .returned (.int .i64 r) ∧ decide (0 ≤ r) = xs.any p ∧ -1 ≤ r ∧ Below w.heap.size w w' := by
  have hl := hA.le
  have HA := Lib.hid hA; clear hA
  have HP := Lib.hid hf; clear hf
  go_enter Tryz.func166, Tryz.ntmps166
  go_wp2
  go_loopg [8] (m + 1) (fun g i wr => ∃ k : Nat, k ≤ m ∧ i = .int .i64 k ∧ g + k = m + 1 ∧ Hid ((xs.take k).any p = false) ∧ Hid (Below w.heap.size w wr))
  case atStart => exact ⟨0, Nat.zero_le _, rfl, rfl, Lib.hid rfl, Lib.hid (Below.refl _ _)⟩
  case round =>
    obtain ⟨k, hk, rfl, hgk, HT, HB⟩ := hrel
    have Hgk := Lib.hid hgk; clear hgk
    by_cases hlt : k < m
    · obtain ⟨x, b, off, hx, rfl, hb, h0, h1, h2, i0, i1⟩ := cd_cells (HA.out.below monoCd HB.out) hlt
      have con := HP.out wr HB.out k x hx i0 i1
      have Hx := Lib.hid hx
      unfold cdV at con
      clear hx hb i0 i1
      cases hpx : p x
      · rw [hpx] at con
        have Hcon := Lib.hid con; clear con
        have Hpx := Lib.hid hpx; clear hpx
        go_wp2_with fail
        (with_reducible refine Hcon.out.mono ?_)
        rintro e w' ⟨rfl, hb'⟩
        have HB' := Lib.hid (HB.out.trans (hb'.mono HB.out.size))
        clear hb'
        go_wp2
        go_roundg (gk - 1)
        case measure => have := Hgk.out; omega
        case rel => have := Hgk.out; exact ⟨k + 1, by omega, by go_num, by omega, Lib.hid (any_take_step Hx.out HT.out Hpx.out), HB'⟩
      · rw [hpx] at con
        have Hcon := Lib.hid con; clear con
        have Hpx := Lib.hid hpx; clear hpx
        go_wp2_with fail
        (with_reducible refine Hcon.out.mono ?_)
        rintro e w' ⟨rfl, hb'⟩
        have HB' := Lib.hid (HB.out.trans (hb'.mono HB.out.size))
        clear hb'
        go_wp2
        go_ret
        exact ⟨_, rfl, by rw [any_true_at Hx.out Hpx.out]; simp, by omega, HB'.out⟩
    · go_wp2
      go_ret
      have h3 := HT.out
      rw [take_all HA.out.len (by omega)] at h3
      exact ⟨_, rfl, by rw [h3]; rfl, by omega, HB.out⟩

set_option maxHeartbeats 400000 in
theorem hasCd_any (f : FuncId) (caps : Array Value) (p : R.Cd → Bool) (A : Option Addr) (m c : Nat) (xs : List R.Cd) (w : World) (hA : StAt 3 CdR w A m xs) (hen : ∀ args W', (callFunc f args).run Tryz.prog W' = .ok (.enter f args) W')
    (hf : ∀ X, Below w.heap.size w X → ∀ (j : Nat) (x : R.Cd), xs[j]? = some x → 0 ≤ x.imm → x.imm < 4294967296 → Calls Tryz.prog f (#[cdV x] ++ caps) X fun e w' => e = .returned (.bool (p x)) ∧ Below X.heap.size X w') :
    Calls Tryz.prog 122 #[.slice A m c, .func (.func f) #[] caps] w fun e w' => e = .returned (.bool (xs.any p)) ∧ Below w.heap.size w w' := by
  have Hcon := Lib.hid (idxCd_any f caps p A m c xs w hA hen hf); clear hA hf hen
  go_enter Tryz.func122, Tryz.ntmps122
  go_wp2_with fail
  (with_reducible refine Hcon.out.mono ?_)
  rintro e w' ⟨r, rfl, hr, hr1, hb⟩
  have Hr := Lib.hid hr
  have Hb := Lib.hid hb
  clear hr hb
  go_wp2
  go_ret
  exact ⟨ret_bool (by rw [← Hr.out]), Hb.out⟩

theorem typedClo1_any (t : List T.Nd) (n ct g : Nat) (At : Option Addr) (x : T.Nd) (A : Option Addr) (c : Nat) (W : World) (hT : StAt 5 NdR W At n t) (hg : W.cell? ⟨g, 0, none⟩ = some (.slice At n ct)) (hA : SlAt (IntR .i64) W A x.args.length x.args) (hlen : 1 ≤ x.op → x.op ≤ 18 → (x.args.length : Int) = T.ar x.op) (harg : ∀ a ∈ x.args, 0 ≤ a ∧ a < (n : Int)) :
    Calls Tryz.prog 157 #[ndV x A c, .pointer (some ⟨g, 0, none⟩)] W fun e w' => e = .returned (.bool (!T.typed t x)) ∧ Below W.heap.size W w' := by
  have hb1 : Below W.heap.size W (W.alloc (.cells #[.int .i64 x.op, .int .i64 x.w, .int .i64 x.fl, .slice A x.args.length c, .int .u32 x.imm] 62)) := (Below.refl _ _).alloc (Nat.le_refl _) _
  have HT := Lib.hid (pisTyped_any t x n ct At A c _ (hT.below monoNd hb1) (hA.below (monoInt _) hb1) hlen harg)
  have Hb1 := Lib.hid hb1
  have hg1 := (hb1.cell (p := ⟨g, 0, none⟩) (cell_below hg)).trans hg
  generalize T.typed t x = b at *
  clear hT hA hb1 hlen harg hg
  unfold ndV at *
  go_enter Tryz.func157, Tryz.ntmps157
  go_wp2_with fail
  (with_reducible refine HT.out.mono ?_)
  rintro e w2 ⟨rfl, hb2⟩
  have Hb2 := Lib.hid (Hb1.out.trans (hb2.mono Hb1.out.size))
  clear hb2
  go_wp2
  go_ret
  exact ⟨rfl, Hb2.out⟩

theorem all_any {α : Type} (p : α → Bool) (l : List α) : (!l.any fun x => !p x) = l.all p := by
  induction l with
  | nil => rfl
  | cons x l ih => rw [List.any_cons, List.all_cons, ← ih]; cases p x <;> simp

/-- a list of which each node has its operands, below its length -/
theorem gallTyped_any (t : List T.Nd) (n ct : Nat) (At : Option Addr) (W : World) (hT : StAt 5 NdR W At n t) (hlen : ∀ x ∈ t, 1 ≤ x.op → x.op ≤ 18 → (x.args.length : Int) = T.ar x.op) (harg : ∀ x ∈ t, ∀ a ∈ x.args, 0 ≤ a ∧ a < (n : Int)) :
    Calls Tryz.prog 99 #[.slice At n ct] W fun e w' => e = .returned (.bool (t.all (T.typed t))) ∧ Below W.heap.size W w' := by
  obtain ⟨W1, hW1⟩ : ∃ W1, W1 = W.alloc (.cells #[.slice At n ct] 22) := ⟨_, rfl⟩
  have hb1 : Below W.heap.size W W1 := by rw [hW1]; exact (Below.refl _ _).alloc (Nat.le_refl _) _
  have hr1 : W1.heap[W.heap.size]? = some (.cells #[.slice At n ct] 22 (0, 0)) := by rw [hW1]; exact heap_alloc_new W _
  have H := Lib.hid (hasNd_any 157 #[.pointer (some ⟨W.heap.size, 0, none⟩)] (fun x => !T.typed t x) At n ct t W1 (hT.below monoNd hb1) (enters_of Tryz.func157 (by kernel_rfl) rfl) (fun X hX j x A' c' hx hs i0 i1 => by
    have hm := List.mem_of_getElem? hx
    have hc : X.cell? ⟨W.heap.size, 0, none⟩ = some (.slice At n ct) := by rw [cell_of_row _ _ _ _ _ (0, 0) (row_step (Lib.hid hX) hr1)]; rfl
    have := typedClo1_any t n ct W.heap.size At x A' c' X ((hT.below monoNd hb1).below monoNd hX) hc hs (hlen x hm) (harg x hm)
    simpa using this))
  have Hb1 := Lib.hid hb1
  have He := Lib.hid (all_any (T.typed t) t)
  generalize (t.any fun x => !T.typed t x) = b at H He
  generalize t.all (T.typed t) = r at He ⊢
  have hc1 : W1.cell? ⟨W.heap.size, 0, none⟩ = some (.slice At n ct) := by rw [cell_of_row _ _ _ _ _ (0, 0) hr1]; rfl
  clear hT hlen harg hb1 hr1
  go_enter Tryz.func99, Tryz.ntmps99
  rw [hW1] at hc1
  go_wp2_with fail
  rw [← hW1] at hc1 ⊢
  clear hW1
  (with_reducible refine H.out.mono ?_)
  rintro e w2 ⟨rfl, hb2⟩
  have Hb2 := Lib.hid (Hb1.out.trans (hb2.mono Hb1.out.size))
  clear hb2
  go_wp2
  go_ret
  exact ⟨by rw [← He.out]; rfl, Hb2.out⟩
end Go.Proofs.YtbiopedpceddeaaGreatDoor
end
