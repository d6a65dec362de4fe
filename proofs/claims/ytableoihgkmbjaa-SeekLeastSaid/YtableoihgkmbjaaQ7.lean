/- The walk through all rows of a length: at a row of that length. -/
import Derived.Test.YtableoihgkmbjaaQ6
namespace Go.Proofs.Ytableoihgkmbjaa
open Go.RowKit
set_option linter.unusedVariables false

/-- what the walk hands to yield -/
def RowArg (k w : Nat) (A : World) (r : List K.Stp) (args : Array Value) : Prop :=
  ∃ Ar cr Al cl, args = #[.slice Ar r.length cr, .slice Al (K.size k w) cl] ∧ StAt 3 StepR A Ar r.length r ∧ SlAt (IntR .u32) A Al (K.size k w) (K.meaning k w r)

theorem own_row {A : World} {Ar : Option Addr} {cr : Nat} {r : List K.Stp} (h : OwnAt A 42 3 (.slice Ar r.length cr) r.length (flatS r)) : StAt 3 StepR A Ar r.length r :=
  OwnAt.stAt h rfl (fun j x hx => by show _ = cellsS x; exact flatS_at r hx)

/-- what yield leaves behind, and what the walk tells of it -/
def Told (B0 : Nat) (A : World) (J Jx : World → Prop) (e : Ending) (A' : World) : Prop :=
  (e = .returned (.bool true) ∧ J A' ∧ Kpt B0 A A') ∨ (e = .returned (.bool false) ∧ Jx A' ∧ Kpt B0 A A')

/-- each block from B on stays, but for those of the four types in which the walk stores -/
structure Frm (B : Nat) (A A' : World) : Prop where
  size : A.heap.size ≤ A'.heap.size
  keep : ∀ g cs T z, B ≤ g → A.heap[g]? = some (.cells cs T z) → T ≠ 42 → T ≠ 26 → T ≠ 24 → T ≠ 50 → A'.heap[g]? = some (.cells cs T z)
theorem Frm.refl (B : Nat) (A : World) : Frm B A A := ⟨Nat.le_refl _, fun _ _ _ _ _ h _ _ _ _ => h⟩
theorem Frm.trans {B : Nat} {X Y Z : World} (h : Frm B X Y) (k : Frm B Y Z) : Frm B X Z := ⟨Nat.le_trans h.size k.size, fun g cs T z hg hc a b c d => k.keep g cs T z hg (h.keep g cs T z hg hc a b c d) a b c d⟩
theorem Kpt.frm {B : Nat} {A A' : World} (h : Kpt B A A') : Frm B A A' := ⟨h.size, fun g cs T z hg hc _ _ _ _ => (h.block g hg (Array.getElem?_eq_some_iff.1 hc).1).trans hc⟩
theorem one_cell {A : World} {g : Nat} {v : Value} {T : TypeId} (h : A.heap[g]? = some (.cells #[v] T (0, 0))) : A.cell? ⟨g, 0, none⟩ = some v := by
  rw [cell_of_row A g 0 _ T (0, 0) h]; rfl

set_option maxRecDepth 100000 in
set_option maxHeartbeats 400000 in
theorem walk0_any {k w n : Nat} {b : Bk} {l B0 : Nat} {r : List K.Stp} (hk : k = 1 ∨ k = 2) (hsz : K.size k w ≤ 64) (hb : BkAt b B0) (hr : r.length = n) (hn : n ≤ 3) (J Jx : World → Prop)
    (hJ : ∀ A, J A ∨ Jx A → A.heap[b.S]? = some (.cells #[.int .i64 k, .int .i64 w] 44 (0, 0)) ∧ A.heap[b.L]? = some (.cells #[.int .i64 n] 3 (0, 0)))
    (A : World) (hS : SInv k w n b l B0 r A) (hY : ∀ args, RowArg k w A r args → YieldAt Fence.wide 0 Try.prog l args A (Told B0 A J Jx)) :
    Calls Try.prog 37 b.caps A fun e A' => SInv k w n b l B0 r A' ∧ Frm B0 A A' ∧ ((e = .returned (.bool true) ∧ J A') ∨ (e = .returned (.bool false) ∧ Jx A')) := by
  obtain ⟨hf, ⟨Ar, cr, h1, h2, h3⟩, ⟨Ac, cc, us, c1, c2, c3, c4⟩⟩ := id hS
  have hclen : ∀ x ∈ K.cols k w r, x.length = K.size k w := fun x hx => by
    obtain ⟨j, hj, rfl⟩ := List.mem_iff_getElem.1 hx
    have hj' : j < k + 2 + r.length := by rw [K.cols_len] at hj; exact hj
    have := K.cols_at (w := w) hj'
    rw [List.getElem?_eq_getElem hj] at this
    rw [Option.some.inj this, K.col_len]
  obtain ⟨b1, off, q0, hA, hb1, hcell0, hq0, hjunk⟩ := colC_at c2 c3 (i := 0) (by omega) hclen
  subst hA
  obtain ⟨Ac', cc', q, c1', ⟨b1', off', hA', _, hcell⟩, hsl⟩ := SInv.meaning hk hsz hS
  rw [c1] at c1'
  simp only [Option.some.injEq, Obj.cells.injEq, Array.mk.injEq, List.cons.injEq, Value.slice.injEq, and_true, true_and] at c1'
  rw [hA'] at c1'
  obtain ⟨e1, _⟩ := c1'
  injection e1 with e1
  injection e1 with e2 e3
  subst e2
  subst e3
  have HS := Lib.hid hS
  have HArg := Lib.hid (hY _ ⟨Ar, cr, some ⟨q, 0, none⟩, K.size k w, rfl, own_row h2, hsl⟩)
  have HJ := Lib.hid hJ
  have Hb := Lib.hid hb
  have hcR := one_cell h1
  have hcC := one_cell c1
  have hcL := one_cell hf.le
  have hcY := one_cell hf.yd
  obtain ⟨M, hM⟩ : ∃ M, k + 2 + r.length = M + 1 := ⟨k + 1 + r.length, by omega⟩
  rw [hM] at hcC hcell
  have hM9 : M ≤ 100 := by omega
  subst hr
  clear hS hY hJ hb hf h1 h2 h3 c1 c2 c3 c4 hclen hsl hq0 hk hsz hjunk
  obtain ⟨fn, tmps, assign, body, hy, hR⟩ := HArg.out
  obtain ⟨Z, hZ⟩ : ∃ Z, Z = K.size k w := ⟨_, rfl⟩
  rw [← hZ] at hcell hcell0 hy
  clear hZ
  simp only [Bk.caps]
  rcases Nat.eq_zero_or_pos r.length with h0 | h0
  · rw [h0] at hcR hcL hcell hy hn
    simp only [if_true, Nat.add_zero] at hcell
    clear hcell0 hM
    have Hy := Lib.hid hy; clear hy
    refine (callsIn_wide (n := 1)).1 (callsIn_of_wp Try.func37 rfl trivial ?_)
    simp only [Try.ntmps37, List.size_toArray, List.length_cons, List.length_nil, Nat.reduceAdd, Nat.reduceSub, Array.replicate_succ, Array.replicate_zero, List.push_toArray, List.append_toArray, List.nil_append, List.cons_append]
    have hy := Hy.out
    gi_wp2
    refine hR.mono ?_
    rintro e W2 (⟨rfl, hj, hK⟩ | ⟨rfl, hj, hK⟩)
    · have HK := Lib.hid hK; clear hK
      gi_wp2
      go_ret
      exact ⟨SInv.kpt Hb.out HS.out HK.out (HJ.out _ (.inl hj)).1 (HJ.out _ (.inl hj)).2, HK.out.frm, .inl ⟨rfl, hj⟩⟩
    · have HK := Lib.hid hK; clear hK
      gi_wp2
      go_ret
      exact ⟨SInv.kpt Hb.out HS.out HK.out (HJ.out _ (.inr hj)).1 (HJ.out _ (.inr hj)).2, HK.out.frm, .inr ⟨rfl, hj⟩⟩
  · have e1 : ¬ r.length = 0 := by omega
    have hpos : decide (0 < (r.length : Int)) = true := by simpa using h0
    have hM2 : k + 2 + r.length - 1 = M := by omega
    rw [if_neg e1, Nat.add_sub_cancel] at hcell
    clear hM hM2 e1
    rw [Nat.add_zero] at hcell0
    obtain ⟨N, hN⟩ : ∃ N : Nat, N = r.length := ⟨_, rfl⟩
    rw [← hN] at hcR hcL hy hn hpos h0
    have h0i : 0 < (N : Int) := by omega
    have HN := Lib.hid hN; clear hN
    have Hy := Lib.hid hy; clear hy
    refine (callsIn_wide (n := 1)).1 (callsIn_of_wp Try.func37 rfl trivial ?_)
    simp only [Try.ntmps37, List.size_toArray, List.length_cons, List.length_nil, Nat.reduceAdd, Nat.reduceSub, Array.replicate_succ, Array.replicate_zero, List.push_toArray, List.append_toArray, List.nil_append, List.cons_append]
    have hy := Hy.out
    gi_wp2
    refine hR.mono ?_
    rintro e W2 (⟨rfl, hj, hK⟩ | ⟨rfl, hj, hK⟩)
    · have HK := Lib.hid hK; clear hK
      gi_wp2
      go_ret
      exact ⟨SInv.kpt Hb.out HS.out HK.out (HJ.out _ (.inl hj)).1 (HJ.out _ (.inl hj)).2, HK.out.frm, .inl ⟨rfl, hj⟩⟩
    · have HK := Lib.hid hK; clear hK
      gi_wp2
      go_ret
      exact ⟨SInv.kpt Hb.out HS.out HK.out (HJ.out _ (.inr hj)).1 (HJ.out _ (.inr hj)).2, HK.out.frm, .inr ⟨rfl, hj⟩⟩
end Go.Proofs.Ytableoihgkmbjaa
