/- Merged: QT9, QT10. -/
import Derived.Test.YtbiopedpceddeaaGreatDoorN07
set_option linter.unusedVariables false
set_option linter.unusedSimpArgs false
section
namespace Go.Proofs.YtbiopedpceddeaaGreatDoor
open Go.RowKit
set_option linter.unusedVariables false
set_option linter.unusedSimpArgs false

/-- the widths of the operands -/
def wdL (t : List T.Nd) (l : List Int) : List Int := l.map fun a => (t.getD a.toNat default).w
theorem wdL_at {t : List T.Nd} {x : T.Nd} {i : Nat} (h : i < x.args.length) : (wdL t x.args)[i]? = some (T.wd t x i) := by
  unfold wdL T.wd
  rw [List.getElem?_map, List.getElem?_eq_getElem h, show x.args.getD i 0 = x.args[i] from getD_of (List.getElem?_eq_getElem h)]; rfl

set_option maxRecDepth 100000 in
set_option maxHeartbeats 8000000 in
theorem rTyped_any (t : List T.Nd) (x : T.Nd) (n ct : Nat) (At A : Option Addr) (c : Nat) (W : World) (hT : StAt 5 NdR W At n t) (hA : SlAt (IntR .i64) W A x.args.length x.args) (hlen : (x.args.length : Int) = T.ar x.op) (har : 0 ≤ T.ar x.op) (harg : ∀ a ∈ x.args, 0 ≤ a ∧ a < (n : Int)) :
    Calls Tryz.prog 132 #[.slice At n ct, ndV x A c] W fun e w' => e = .returned (.bool (T.typed t x)) ∧ Below W.heap.size W w' := by
  obtain ⟨W1, hW1⟩ : ∃ W1, W1 = W.alloc (.cells #[.int .i64 x.op, .int .i64 x.w, .int .i64 x.fl, .slice A x.args.length c, .int .u32 x.imm] 62) := ⟨_, rfl⟩
  have hB1 : Below W.heap.size W W1 := by rw [hW1]; exact (Below.refl _ _).alloc (Nat.le_refl _) _
  have hr1 : W1.heap[W.heap.size]? = some (.cells #[.int .i64 x.op, .int .i64 x.w, .int .i64 x.fl, .slice A x.args.length c, .int .u32 x.imm] 62 (0, 0)) := by rw [hW1]; exact heap_alloc_new W _
  have hs1 : W1.heap.size = W.heap.size + 1 := by rw [hW1]; simp
  have HX := Lib.hid (show ∀ Y : World, Below W1.heap.size W1 Y → Y.cell? ⟨W.heap.size, 0, none⟩ = some (.int .i64 x.op) ∧ Y.cell? ⟨W.heap.size, 1, none⟩ = some (.int .i64 x.w) ∧ Y.cell? ⟨W.heap.size, 3, none⟩ = some (.slice A x.args.length c) from fun Y hY => by
    have h1 := row_step (Lib.hid hY) hr1
    refine ⟨?_, ?_, ?_⟩
    all_goals rw [cell_of_row _ _ _ _ _ (0, 0) h1]; rfl)
  have HT := Lib.hid (hT.below monoNd hB1)
  have HA := Lib.hid (hA.below (monoInt _) hB1)
  have HB1 := Lib.hid hB1
  have Hs1 := Lib.hid hs1
  have Harg := Lib.hid harg
  have hle := hT.le
  have hle2 := hA.le
  have hm3 : x.args.length ≤ 3 := by
    rcases ar_cases x.op with h | h | h | h | h | h <;> omega
  have HF : Hid (∀ s, s = T.typed t x → s = T.typed t x) := fun s h => h
  obtain ⟨sh, hsh⟩ : ∃ sh, sh = T.typed t x := ⟨_, rfl⟩
  rw [← hsh]
  have Hsh := Lib.hid hsh
  have Hlen := Lib.hid hlen
  have Har := Lib.hid har
  have HWd := Lib.hid (fun i (h : i < x.args.length) => wdL_at (t := t) h)
  obtain ⟨Wd, hWd⟩ : ∃ Wd : Nat → Int, Wd = T.wd t x := ⟨_, rfl⟩
  have HWde := Lib.hid hWd
  rw [← hWd] at HWd
  clear hT hA hB1 hr1 hs1 hsh HF hlen har harg hWd
  rw [show ndV x A c = .agg #[.int .i64 x.op, .int .i64 x.w, .int .i64 x.fl, .slice A x.args.length c, .int .u32 x.imm] from rfl]
  obtain ⟨x0, x1, x3⟩ := HX.out W1 (Below.refl _ _)
  obtain ⟨xs, hxs⟩ : ∃ xs, xs = x.args := ⟨_, rfl⟩
  rw [← hxs] at HX HA Harg HWd hle2 hm3 Hlen hW1 x3 ⊢
  have Hxs := Lib.hid hxs
  clear hxs
  generalize hm : xs.length = m at HX HA HWd hle2 hm3 Hlen hW1 x3 ⊢
  have Hm := Lib.hid hm
  clear hm
  go_enter Tryz.func132, Tryz.ntmps132
  rw [hW1] at x0 x1 x3
  go_wp2
  rw [← hW1] at x0 x1 x3 ⊢
  clear hW1 x0 x1 x3
  go_loopg [5, 6] (m + 1) (fun g v i wr => ∃ (j : Nat), j ≤ m ∧ i = .int .i64 (j : Int) ∧ g + j = m + 1 ∧ OwnAt wr 3 1 v j (((wdL t xs).take j).map (Value.int .i64)) ∧ Below W1.heap.size W1 wr ∧ (∀ g, v.ownBlock = some g → W1.heap.size ≤ g))
  case atStart => exact ⟨0, Nat.zero_le _, rfl, rfl, OwnAt.nil_ _ _ _, Below.refl _ _, fun g hg => by simp [Value.ownBlock] at hg⟩
  case round =>
    obtain ⟨j, hj, rfl, hgk, hown, hbw, hob⟩ := hrel
    have Hgk := Lib.hid hgk; clear hgk
    have Hown := Lib.hid hown; clear hown
    have Hob := Lib.hid hob; clear hob
    obtain ⟨x0, x1, x3⟩ := HX.out wr hbw
    by_cases hlt : j < m
    · obtain ⟨y, b, off, u, hy, rfl, hb, hc, hu⟩ := (HA.out.below (monoInt _) hbw).at_ hlt
      have hu' : u = .int .i64 y := hu
      subst hu'
      have hay := Harg.out y (List.mem_of_getElem? hy)
      obtain ⟨p, rfl⟩ : ∃ p : Nat, y = p := ⟨y.toNat, by omega⟩
      have hp : p < n := by omega
      obtain ⟨z, b2, off2, A2, c2, hz, rfl, _, _, hw2, _⟩ := nd_cells (HT.out.below monoNd hbw) (j := p) hp
      have Hz := Lib.hid (show (wdL t xs)[j]? = some z.w from by unfold wdL; rw [List.getElem?_map, hy]; simp only [Option.map_some, Int.toNat_natCast]; rw [getD_of hz])
      obtain ⟨zw, hzw⟩ : ∃ zw, zw = z.w := ⟨_, rfl⟩
      rw [← hzw] at Hz hw2
      have Hbw := Lib.hid hbw
      clear hy hu hz hzw hay hbw hb
      go_wp2_with (at_builtin; refine wpList_append_one' rfl (.tmp 14) (.tmp 24) 60 rfl 3 (.int .i64 0) 8 Tryz.underlying60 infoInt rfl _ j _ rfl Hown.out (.int .i64 zw) rfl 3 wr.heap.size rfl rfl (by omega) (by omega) ?_; intro v' w3 hown' hgr hat)
      have Hown' := Lib.hid (show OwnAt w3 3 1 v' (j + 1) (((wdL t xs).take (j + 1)).map (Value.int .i64)) from by rw [K.take_succ_at Hz.out, List.map_append]; exact hown')
      obtain ⟨hb3, hv3⟩ := below_append Hbw.out Hbw.out.size Hob.out hgr hat
      have Hv3 := Lib.hid hv3
      have Hb3 := Lib.hid hb3
      clear hown' hgr hat hb3 hv3 x0 x1 x3
      go_wp2
      go_roundg (gk - 1)
      case measure => have := Hgk.out; omega
      case rel => have := Hgk.out; exact ⟨j + 1, by omega, by go_num, by omega, Hown'.out, Hb3.out, Hv3.out⟩
    · obtain rfl : j = m := by omega
      have hwl : (wdL t xs).length = j := by unfold wdL; rw [List.length_map]; exact Hm.out
      have hown := Hown.out
      rw [List.take_of_length_le (by omega)] at hown
      have Hb9 := Lib.hid (HB1.out.trans (hbw.mono (by have := Hs1.out; omega)))
      obtain ⟨Av, cv, hv⟩ := hown.form
      subst hv
      have HL := Lib.hid (show ∀ i, i < j → ∃ g off, Av = some ⟨g, off, none⟩ ∧ wr.cell? ⟨g, off + i, none⟩ = some (.int .i64 (Wd i)) from fun i hi => by
        obtain ⟨y, g, off, u, hy, hA, _, hc, hu⟩ := hown.slInts.at_ hi
        have hu' : u = .int .i64 y := hu
        subst hu'
        rw [HWd.out i hi] at hy
        cases hy
        exact ⟨g, off, hA, hc⟩)
      clear hown hwl hbw Hown Hob
      rcases typed_cases x.op with h | h | h | h | h | h | h
      · have hj2 : (j : Int) = 2 := by rw [Hlen.out]; unfold T.ar; rw [if_neg (by omega), if_pos (by omega)]
        have hjn : j = 2 := by omega
        subst hjn
        clear hj2
        have hop0 : (x.op == 0) = false := by simp; omega
        have hop1 : (x.op == 33) = false := by simp; omega
        have hop14 : (x.op == 14) = false := by simp; omega
        have hop15 : (x.op == 15) = false := by simp; omega
        have hop16 : (x.op == 16) = false := by simp; omega
        have hop17 : (x.op == 17) = false := by simp; omega
        have hop18 : (x.op == 18) = false := by simp; omega
        obtain ⟨g, off, hAv, l0⟩ := HL.out 0 (by omega)
        rw [Nat.add_zero] at l0
        obtain ⟨g1, off1, hA1, l1⟩ := HL.out 1 (by omega)
        rw [hAv] at hA1
        injection hA1 with hA1
        injection hA1 with e1 e2
        subst e1 e2
        subst hAv
        obtain ⟨a0, ha0⟩ : ∃ a0, a0 = Wd 0 := ⟨_, rfl⟩
        rw [← ha0] at l0
        obtain ⟨a1, ha1⟩ : ∃ a1, a1 = Wd 1 := ⟨_, rfl⟩
        rw [← ha1] at l1
        have h9 := Hsh.out
        rw [typed_13 h, ← HWde.out, ← ha0, ← ha1] at h9
        clear ha0 ha1
        clear h
        by_cases e0 : a0 = x.w
        · have z0 : (a0 == x.w) = true := by simpa using e0
          have Hf := Lib.hid (show sh = (a1 == x.w) from by rw [h9, decide_eq_true e0, Bool.true_and]; by_cases h : a1 = x.w <;> simp [h])
          clear e0 h9
          go_wp2
          go_quiet (fail)
          go_wp2
          go_ret
          exact ⟨ret_bool Hf.out.symm, Hb9.out.dr ⟨_, rfl⟩⟩
        · have z0 : (a0 == x.w) = false := by simpa using e0
          have Hf := Lib.hid (show sh = false from by rw [h9, decide_eq_false e0, Bool.false_and])
          clear e0 h9
          go_wp2
          go_quiet (fail)
          go_wp2
          go_ret
          exact ⟨ret_bool Hf.out.symm, Hb9.out.dr ⟨_, rfl⟩⟩
      · have hj2 : (j : Int) = 2 := by rw [Hlen.out]; unfold T.ar; rw [if_neg (by omega), if_pos (by omega)]
        have hjn : j = 2 := by omega
        subst hjn
        clear hj2
        have hop0 : (x.op == 0) = false := by simp; omega
        have hop1 : (x.op == 33) = false := by simp; omega
        have hop14 : (x.op == 14) = true := by simp; omega
        obtain ⟨g, off, hAv, l0⟩ := HL.out 0 (by omega)
        rw [Nat.add_zero] at l0
        obtain ⟨g1, off1, hA1, l1⟩ := HL.out 1 (by omega)
        rw [hAv] at hA1
        injection hA1 with hA1
        injection hA1 with e1 e2
        subst e1 e2
        subst hAv
        obtain ⟨a0, ha0⟩ : ∃ a0, a0 = Wd 0 := ⟨_, rfl⟩
        rw [← ha0] at l0
        obtain ⟨a1, ha1⟩ : ∃ a1, a1 = Wd 1 := ⟨_, rfl⟩
        rw [← ha1] at l1
        have h9 := Hsh.out
        rw [typed_14 h, ← HWde.out, ← ha0, ← ha1] at h9
        clear ha0 ha1
        have Hf := Lib.hid (show sh = (a0 == a1) from by rw [h9]; by_cases h : a0 = a1 <;> simp [h])
        clear h h9
        go_wp2
        go_quiet (fail)
        go_wp2
        go_ret
        exact ⟨ret_bool Hf.out.symm, Hb9.out.dr ⟨_, rfl⟩⟩
      · have hj3 : (j : Int) = 3 := by rw [Hlen.out]; unfold T.ar; rw [if_neg (by omega), if_neg (by omega), if_pos (by omega)]
        have hjn : j = 3 := by omega
        subst hjn
        clear hj3
        have hop0 : (x.op == 0) = false := by simp; omega
        have hop1 : (x.op == 33) = false := by simp; omega
        have hop14 : (x.op == 14) = false := by simp; omega
        have hop15 : (x.op == 15) = true := by simp; omega
        obtain ⟨g, off, hAv, l0⟩ := HL.out 0 (by omega)
        rw [Nat.add_zero] at l0
        obtain ⟨g1, off1, hA1, l1⟩ := HL.out 1 (by omega)
        rw [hAv] at hA1
        injection hA1 with hA1
        injection hA1 with e1 e2
        subst e1 e2
        obtain ⟨g2, off2, hA2, l2⟩ := HL.out 2 (by omega)
        rw [hAv] at hA2
        injection hA2 with hA2
        injection hA2 with e1 e2
        subst e1 e2
        subst hAv
        obtain ⟨a0, ha0⟩ : ∃ a0, a0 = Wd 0 := ⟨_, rfl⟩
        rw [← ha0] at l0
        obtain ⟨a1, ha1⟩ : ∃ a1, a1 = Wd 1 := ⟨_, rfl⟩
        rw [← ha1] at l1
        obtain ⟨a2, ha2⟩ : ∃ a2, a2 = Wd 2 := ⟨_, rfl⟩
        rw [← ha2] at l2
        have h9 := Hsh.out
        rw [typed_15 h, ← HWde.out, ← ha0, ← ha1, ← ha2] at h9
        clear ha0 ha1 ha2
        clear h
        by_cases e0 : a0 = 1
        · have z0 : (a0 == 1) = true := by simpa using e0
          by_cases e1 : a1 = x.w
          · have z1 : (a1 == x.w) = true := by simpa using e1
            have Hf := Lib.hid (show sh = (a2 == x.w) from by rw [h9, decide_eq_true e0, decide_eq_true e1, Bool.true_and, Bool.true_and]; by_cases h : a2 = x.w <;> simp [h])
            clear e0 e1 h9
            go_wp2
            go_quiet (fail)
            go_wp2
            go_ret
            exact ⟨ret_bool Hf.out.symm, Hb9.out.dr ⟨_, rfl⟩⟩
          · have z1 : (a1 == x.w) = false := by simpa using e1
            have Hf := Lib.hid (show sh = false from by rw [h9, decide_eq_false e1, Bool.and_false, Bool.false_and])
            clear e0 e1 h9
            go_wp2
            go_quiet (fail)
            go_wp2
            go_ret
            exact ⟨ret_bool Hf.out.symm, Hb9.out.dr ⟨_, rfl⟩⟩
        · have z0 : (a0 == 1) = false := by simpa using e0
          have Hf := Lib.hid (show sh = false from by rw [h9, decide_eq_false e0, Bool.false_and, Bool.false_and])
          clear e0 h9
          go_wp2
          go_quiet (fail)
          go_wp2
          go_ret
          exact ⟨ret_bool Hf.out.symm, Hb9.out.dr ⟨_, rfl⟩⟩
      · have hj1 : (j : Int) = 1 := by rw [Hlen.out]; unfold T.ar; rw [if_neg (by omega), if_neg (by omega), if_neg (by omega), if_pos (by omega)]
        have hjn : j = 1 := by omega
        subst hjn
        clear hj1
        have hop0 : (x.op == 0) = false := by simp; omega
        have hop1 : (x.op == 33) = false := by simp; omega
        have hop14 : (x.op == 14) = false := by simp; omega
        have hop15 : (x.op == 15) = false := by simp; omega
        have hop16 : (x.op == 16) = true := by simp; omega
        obtain ⟨g, off, hAv, l0⟩ := HL.out 0 (by omega)
        rw [Nat.add_zero] at l0
        subst hAv
        obtain ⟨a0, ha0⟩ : ∃ a0, a0 = Wd 0 := ⟨_, rfl⟩
        rw [← ha0] at l0
        have h9 := Hsh.out
        rw [typed_16 (.inl h), ← HWde.out, ← ha0] at h9
        clear ha0
        have Hf := Lib.hid (show sh = decide (a0 < x.w) from h9)
        clear h h9
        go_wp2
        go_quiet (fail)
        go_wp2
        go_ret
        exact ⟨ret_bool Hf.out.symm, Hb9.out.dr ⟨_, rfl⟩⟩
      · have hj1 : (j : Int) = 1 := by rw [Hlen.out]; unfold T.ar; rw [if_neg (by omega), if_neg (by omega), if_neg (by omega), if_pos (by omega)]
        have hjn : j = 1 := by omega
        subst hjn
        clear hj1
        have hop0 : (x.op == 0) = false := by simp; omega
        have hop1 : (x.op == 33) = false := by simp; omega
        have hop14 : (x.op == 14) = false := by simp; omega
        have hop15 : (x.op == 15) = false := by simp; omega
        have hop16 : (x.op == 16) = false := by simp; omega
        have hop17 : (x.op == 17) = true := by simp; omega
        obtain ⟨g, off, hAv, l0⟩ := HL.out 0 (by omega)
        rw [Nat.add_zero] at l0
        subst hAv
        obtain ⟨a0, ha0⟩ : ∃ a0, a0 = Wd 0 := ⟨_, rfl⟩
        rw [← ha0] at l0
        have h9 := Hsh.out
        rw [typed_16 (.inr h), ← HWde.out, ← ha0] at h9
        clear ha0
        have Hf := Lib.hid (show sh = decide (a0 < x.w) from h9)
        clear h h9
        go_wp2
        go_quiet (fail)
        go_wp2
        go_ret
        exact ⟨ret_bool Hf.out.symm, Hb9.out.dr ⟨_, rfl⟩⟩
      · have hj1 : (j : Int) = 1 := by rw [Hlen.out]; unfold T.ar; rw [if_neg (by omega), if_neg (by omega), if_neg (by omega), if_pos (by omega)]
        have hjn : j = 1 := by omega
        subst hjn
        clear hj1
        have hop0 : (x.op == 0) = false := by simp; omega
        have hop1 : (x.op == 33) = false := by simp; omega
        have hop14 : (x.op == 14) = false := by simp; omega
        have hop15 : (x.op == 15) = false := by simp; omega
        have hop16 : (x.op == 16) = false := by simp; omega
        have hop17 : (x.op == 17) = false := by simp; omega
        have hop18 : (x.op == 18) = true := by simp; omega
        obtain ⟨g, off, hAv, l0⟩ := HL.out 0 (by omega)
        rw [Nat.add_zero] at l0
        subst hAv
        obtain ⟨a0, ha0⟩ : ∃ a0, a0 = Wd 0 := ⟨_, rfl⟩
        rw [← ha0] at l0
        have h9 := Hsh.out
        rw [typed_18 h, ← HWde.out, ← ha0] at h9
        clear ha0
        have Hf := Lib.hid (show sh = decide (x.w < a0) from h9)
        clear h h9
        go_wp2
        go_quiet (fail)
        go_wp2
        go_ret
        exact ⟨ret_bool Hf.out.symm, Hb9.out.dr ⟨_, rfl⟩⟩
      · have Hf := Lib.hid (show sh = true from by rw [Hsh.out, typed_else h])
        have h033 : x.op = 0 ∨ x.op = 33 := by
          have := Har.out
          rcases ar_cases x.op with h1 | h1 | h1 | h1 | h1 | h1 <;> omega
        clear h
        rcases h033 with h | h
        · have hop0 : (x.op == 0) = true := by simpa using h
          clear h
          go_wp2
          go_ret
          exact ⟨ret_bool Hf.out.symm, Hb9.out⟩
        · have hop0 : (x.op == 0) = false := by simp; omega
          have hop1 : (x.op == 33) = true := by simpa using h
          clear h
          go_wp2
          go_ret
          exact ⟨ret_bool Hf.out.symm, Hb9.out⟩
end Go.Proofs.YtbiopedpceddeaaGreatDoor
end
section
namespace Go.Proofs.YtbiopedpceddeaaGreatDoor
open Go.RowKit
set_option linter.unusedVariables false
set_option linter.unusedSimpArgs false

/-- no two nodes clash, the second before k, or k itself and the first before i -/
def NoCl (t : List T.Nd) (k i : Nat) : Prop := ∀ (p q : Nat) (x y : T.Nd), p < q → (q < k ∨ (q = k ∧ p < i)) → t[p]? = some x → t[q]? = some y → T.clash x y = false
theorem NoCl.zero (t : List T.Nd) : NoCl t 0 0 := fun p q x y h1 h2 => by omega
theorem NoCl.row {t : List T.Nd} {k : Nat} (h : NoCl t k k) : NoCl t (k + 1) 0 := fun p q x y h1 h2 hx hy => h p q x y h1 (by omega) hx hy
theorem NoCl.next {t : List T.Nd} {k i : Nat} {x y : T.Nd} (h : NoCl t k i) (hx : t[i]? = some x) (hy : t[k]? = some y) (hc : T.clash x y = false) : NoCl t k (i + 1) := fun p q a b h1 h2 ha hb => by
  by_cases e : q = k ∧ p = i
  · obtain ⟨rfl, rfl⟩ := e
    rw [hx] at ha
    rw [hy] at hb
    cases ha
    cases hb
    exact hc
  · exact h p q a b h1 (by omega) ha hb
theorem NoCl.all {t : List T.Nd} {k : Nat} (h : NoCl t k 0) (hk : t.length ≤ k) : T.clashes t = false := T.clashes_iff.2 fun i j x y hij hx hy => h i j x y hij (.inl (by have := (List.getElem?_eq_some_iff.1 hy).1; omega)) hx hy
theorem clash_found {t : List T.Nd} {i k : Nat} {x y : T.Nd} (hik : i < k) (hx : t[i]? = some x) (hy : t[k]? = some y) (hc : T.clash x y = true) : T.clashes t = true := by
  cases e : T.clashes t
  · have := T.clashes_iff.1 e i k x y hik hx hy
    rw [hc] at this
    cases this
  · rfl
theorem clash_cases (x y : T.Nd) : (T.clash x y = false ∧ (x.op == 33) = false) ∨ (T.clash x y = false ∧ (x.op == 33) = true ∧ (y.op == 33) = false) ∨ (T.clash x y = false ∧ (x.op == 33) = true ∧ (y.op == 33) = true ∧ (x.imm == y.imm) = false) ∨
    (T.clash x y = false ∧ (x.op == 33) = true ∧ (y.op == 33) = true ∧ (x.imm == y.imm) = true ∧ (x.w != y.w) = false) ∨ (T.clash x y = true ∧ (x.op == 33) = true ∧ (y.op == 33) = true ∧ (x.imm == y.imm) = true ∧ (x.w != y.w) = true) := by
  unfold T.clash
  by_cases h1 : x.op = 33 <;> by_cases h2 : y.op = 33 <;> by_cases h3 : x.imm = y.imm <;> by_cases h4 : x.w = y.w <;> simp [h1, h2, h3, h4]

set_option maxRecDepth 100000 in
set_option maxHeartbeats 8000000 in
theorem rChecked_any (z : Bool) (t : List T.Nd) (n ct : Nat) (At : Option Addr) (W : World) (hT : StAt 5 NdR W At n t) :
    Calls Tryz.prog 110 #[.slice At n ct, .bool z] W fun e w' => e = .returned (.int .i64 (T.valid z t)) ∧ Below W.heap.size W w' := by
  have HT := Lib.hid hT
  have hle := hT.le
  have hlen := hT.len
  clear hT
  by_cases hsz : t.length < 1 ∨ 300 < t.length
  · have hv : T.valid z t = 3 := by unfold T.valid; rw [if_pos hsz]
    rw [hv]
    rw [hlen] at hsz
    clear hv hlen
    by_cases h0 : n < 1
    · have q0 : decide ((n : Int) < 1) = true := by simp; omega
      clear hsz
      go_enter Tryz.func110, Tryz.ntmps110
      go_wp2
      go_ret
      exact ⟨rfl, Below.refl _ _⟩
    · have q0 : decide ((n : Int) < 1) = false := by simp; omega
      have q1 : decide (300 < (n : Int)) = true := by simp; omega
      clear hsz
      go_enter Tryz.func110, Tryz.ntmps110
      go_wp2
      go_ret
      exact ⟨rfl, Below.refl _ _⟩
  · have Hv := Lib.hid (show T.valid z t = if (t.zipIdx.all fun p => T.shaped z p.2 p.1) = false then 1 else if (t.all (T.typed t)) = false then 6 else if T.clashes t = true then 7 else 0 from by unfold T.valid; rw [if_neg hsz])
    rw [hlen] at hsz
    have q0 : decide ((n : Int) < 1) = false := by simp; omega
    have q1 : decide (300 < (n : Int)) = false := by simp; omega
    have hn : n ≤ 300 := by omega
    have Hlen := Lib.hid hlen
    clear hsz hlen
    go_enter Tryz.func110, Tryz.ntmps110
    go_wp2
    try simp only [q0, q1]
    clear q0 q1
    go_loopg [5] (n + 1) (fun g i wr => ∃ (j : Nat), j ≤ n ∧ i = .int .i64 (j : Int) ∧ g + j = n + 1 ∧ Below W.heap.size W wr ∧ Hid (T.shapedTo z t j))
    case atStart => exact ⟨0, Nat.zero_le _, rfl, rfl, Below.refl _ _, fun i x hi => by omega⟩
    case round =>
      obtain ⟨j, hj, rfl, hgk, hbw, HS⟩ := hrel
      have Hgk := Lib.hid hgk; clear hgk
      by_cases hlt : j < n
      · obtain ⟨x, hx⟩ : ∃ x, t[j]? = some x := ⟨_, List.getElem?_eq_getElem (by rw [Hlen.out]; exact hlt)⟩
        have Hx := Lib.hid hx
        have Hc := Lib.hid (rargument_any z t j n ct At wr (HT.out.below monoNd hbw) hlt x hx)
        have Hbw := Lib.hid hbw
        clear hx hbw
        cases hsh : T.shaped z j x
        · rw [hsh] at Hc
          have Hsh := Lib.hid hsh
          clear hsh
          go_wp2_with fail
          refine Hc.out.mono ?_
          rintro e w2 ⟨rfl, hb2⟩
          have Hb2 := Lib.hid (Hbw.out.trans (hb2.mono Hbw.out.size))
          clear hb2
          go_wp2
          go_ret
          exact ⟨ret_int (by rw [Hv.out, T.shaped_bad Hx.out Hsh.out]; rfl), Hb2.out⟩
        · rw [hsh] at Hc
          have Hsh := Lib.hid hsh
          clear hsh
          go_wp2_with fail
          refine Hc.out.mono ?_
          rintro e w2 ⟨rfl, hb2⟩
          have Hb2 := Lib.hid (Hbw.out.trans (hb2.mono Hbw.out.size))
          clear hb2
          go_wp2
          go_roundg (gk - 1)
          case measure => have := Hgk.out; omega
          case rel => have := Hgk.out; exact ⟨j + 1, by omega, by go_num, by omega, Hb2.out, HS.out.next Hx.out Hsh.out⟩
      · obtain rfl : j = n := by omega
        have hall := HS.out.all (by rw [Hlen.out]; exact Nat.le_refl _)
        have Hall := Lib.hid (T.shaped_all.1 hall)
        have Hv2 := Lib.hid (show T.valid z t = if (t.all (T.typed t)) = false then 6 else if T.clashes t = true then 7 else 0 from by rw [Hv.out, hall]; rfl)
        have Hbw := Lib.hid hbw
        clear hall hbw HS
        go_wp2
        go_loopg [6] (j + 1) (fun g i wr => ∃ (p : Nat), p ≤ j ∧ i = .int .i64 (p : Int) ∧ g + p = j + 1 ∧ Below W.heap.size W wr ∧ Hid (T.typedTo t p))
        case atStart => exact ⟨0, Nat.zero_le _, rfl, rfl, Hbw.out, fun i x hi => by omega⟩
        case round =>
          clear Hbw
          obtain ⟨p, hp, rfl, hgk, hbw, HS⟩ := hrel
          have Hgk2 := Lib.hid hgk; clear hgk
          by_cases hlt : p < j
          · obtain ⟨x, b, off, A, c, hx, rfl, hb, h0, h1, h2, h3, h4, hs, i0, i1⟩ := nd_cells HT.out hlt
            have k0 := (hbw.cell (p := ⟨b, off + p * 5, none⟩) hb).trans h0
            have k1 := (hbw.cell (p := ⟨b, off + p * 5 + 1, none⟩) hb).trans h1
            have k2 := (hbw.cell (p := ⟨b, off + p * 5 + 2, none⟩) hb).trans h2
            have k3 := (hbw.cell (p := ⟨b, off + p * 5 + 3, none⟩) hb).trans h3
            have k4 := (hbw.cell (p := ⟨b, off + p * 5 + 4, none⟩) hb).trans h4
            have Hx := Lib.hid hx
            obtain ⟨g1, g2, _, _, _, g3⟩ := T.shaped_args (Hall.out p x hx)
            have Hbw := Lib.hid hbw
            have Hc := Lib.hid (rTyped_any t x j ct (some ⟨b, off, none⟩) A c wr (HT.out.below monoNd Hbw.out) (hs.below (monoInt _) Hbw.out) g1 g2 (fun a ha => by have := g3 a ha; omega))
            unfold ndV at Hc
            clear h0 h1 h2 h3 h4 hs hx hb hbw g1 g2 g3
            cases hsh : T.typed t x
            · rw [hsh] at Hc
              have Hsh := Lib.hid hsh
              clear hsh
              go_wp2_with fail
              refine Hc.out.mono ?_
              rintro e w2 ⟨rfl, hb2⟩
              have Hb2 := Lib.hid (Hbw.out.trans (hb2.mono Hbw.out.size))
              clear hb2 k0 k1 k2 k3 k4
              go_wp2
              go_ret
              exact ⟨ret_int (by rw [Hv2.out, T.typed_bad Hx.out Hsh.out]; rfl), Hb2.out⟩
            · rw [hsh] at Hc
              have Hsh := Lib.hid hsh
              clear hsh
              go_wp2_with fail
              refine Hc.out.mono ?_
              rintro e w2 ⟨rfl, hb2⟩
              have Hb2 := Lib.hid (Hbw.out.trans (hb2.mono Hbw.out.size))
              clear hb2 k0 k1 k2 k3 k4
              go_wp2
              go_roundg (gk - 1)
              case measure => have := Hgk2.out; omega
              case rel => have := Hgk2.out; exact ⟨p + 1, by omega, by go_num, by omega, Hb2.out, HS.out.next Hx.out Hsh.out⟩
          · obtain rfl : p = j := by omega
            have hall := HS.out.all (by rw [Hlen.out]; exact Nat.le_refl _)
            have Hv3 := Lib.hid (show T.valid z t = if T.clashes t = true then 7 else 0 from by rw [Hv2.out, hall]; rfl)
            have Hbw := Lib.hid hbw
            clear hall hbw HS
            go_wp2
            go_loopg [7] (p + 1) (fun g i wr => ∃ (k : Nat), k ≤ p ∧ i = .int .i64 (k : Int) ∧ g + k = p + 1 ∧ Below W.heap.size W wr ∧ Hid (NoCl t k 0))
            case atStart => exact ⟨0, Nat.zero_le _, rfl, rfl, Hbw.out, NoCl.zero t⟩
            case round =>
              clear Hbw
              obtain ⟨k, hk, rfl, hgk, hbw, HN⟩ := hrel
              have Hgk3 := Lib.hid hgk; clear hgk
              obtain ⟨gO, hgO⟩ : ∃ g, g = gk := ⟨_, rfl⟩
              subst hgO
              by_cases hlk : k < p
              · have Hbw := Lib.hid hbw
                clear hbw
                go_wp2
                go_loopg [8] (k + 1) (fun g i wr => ∃ (q : Nat), q ≤ k ∧ i = .int .i64 (q : Int) ∧ g + q = k + 1 ∧ Below W.heap.size W wr ∧ Hid (NoCl t k q))
                case atStart => exact ⟨0, Nat.zero_le _, rfl, rfl, Hbw.out, HN.out⟩
                case round =>
                  clear HN Hbw
                  obtain ⟨q, hq, rfl, hgk, hbw, HN⟩ := hrel
                  have Hgk4 := Lib.hid hgk; clear hgk
                  by_cases hlq : q < k
                  · obtain ⟨y, b, off, A, c, hy, hAt, hb, h0, h1, h2, h3, h4, _, _, _⟩ := nd_cells HT.out hlk
                    obtain ⟨x, b', off', A', c', hx, hAt', _, g0, g1, g2, g3, g4, _, _, _⟩ := nd_cells HT.out (j := q) (by omega)
                    rw [hAt] at hAt'
                    injection hAt' with hAt'
                    injection hAt' with e1 e2
                    subst e1 e2 hAt
                    have k0 := (hbw.cell (p := ⟨b, off + k * 5, none⟩) hb).trans h0
                    have k1 := (hbw.cell (p := ⟨b, off + k * 5 + 1, none⟩) hb).trans h1
                    have k4 := (hbw.cell (p := ⟨b, off + k * 5 + 4, none⟩) hb).trans h4
                    have m0 := (hbw.cell (p := ⟨b, off + q * 5, none⟩) hb).trans g0
                    have m1 := (hbw.cell (p := ⟨b, off + q * 5 + 1, none⟩) hb).trans g1
                    have m4 := (hbw.cell (p := ⟨b, off + q * 5 + 4, none⟩) hb).trans g4
                    have Hx := Lib.hid hx
                    have Hy := Lib.hid hy
                    have Hbw := Lib.hid hbw
                    have Hcs := Lib.hid (clash_cases x y)
                    obtain ⟨xo, xw, xf, xa, xi⟩ := x
                    obtain ⟨yo, yw, yf, ya, yi⟩ := y
                    dsimp only at k0 k1 k4 m0 m1 m4 Hcs
                    have hq2 : q < p := by omega
                    clear hx hy hbw h0 h1 h2 h3 h4 g0 g1 g2 g3 g4 hb
                    rcases Hcs.out with ⟨hr, c1⟩ | ⟨hr, c1, c2⟩ | ⟨hr, c1, c2, c3⟩ | ⟨hr, c1, c2, c3, c4⟩ | ⟨hr, c1, c2, c3, c4⟩
                    · have Hr := Lib.hid hr
                      clear hr Hcs
                      go_wp2
                      go_quiet (fail)
                      go_wp2
                      go_roundg (gk - 1)
                      case measure => have := Hgk4.out; omega
                      case rel => have := Hgk4.out; exact ⟨q + 1, by omega, by go_num, by omega, Hbw.out.dr ⟨_, rfl⟩, HN.out.next Hx.out Hy.out Hr.out⟩
                    · have Hr := Lib.hid hr
                      clear hr Hcs
                      go_wp2
                      go_quiet (fail)
                      go_wp2
                      go_roundg (gk - 1)
                      case measure => have := Hgk4.out; omega
                      case rel => have := Hgk4.out; exact ⟨q + 1, by omega, by go_num, by omega, Hbw.out.dr ⟨_, rfl⟩, HN.out.next Hx.out Hy.out Hr.out⟩
                    · have Hr := Lib.hid hr
                      clear hr Hcs
                      go_wp2
                      go_quiet (fail)
                      go_wp2
                      go_roundg (gk - 1)
                      case measure => have := Hgk4.out; omega
                      case rel => have := Hgk4.out; exact ⟨q + 1, by omega, by go_num, by omega, Hbw.out.dr ⟨_, rfl⟩, HN.out.next Hx.out Hy.out Hr.out⟩
                    · have Hr := Lib.hid hr
                      clear hr Hcs
                      go_wp2
                      go_quiet (fail)
                      go_wp2
                      go_roundg (gk - 1)
                      case measure => have := Hgk4.out; omega
                      case rel => have := Hgk4.out; exact ⟨q + 1, by omega, by go_num, by omega, Hbw.out.dr ⟨_, rfl⟩, HN.out.next Hx.out Hy.out Hr.out⟩
                    · have Hr := Lib.hid hr
                      clear hr Hcs
                      go_wp2
                      go_quiet (fail)
                      go_wp2
                      go_ret
                      exact ⟨ret_int (by rw [Hv3.out, clash_found hlq Hx.out Hy.out Hr.out]; rfl), Hbw.out.dr ⟨_, rfl⟩⟩
                  · obtain rfl : q = k := by omega
                    have Hbw := Lib.hid hbw
                    clear hbw
                    go_wp2
                    go_roundg (gO - 1)
                    case measure => have := Hgk3.out; omega
                    case rel => have := Hgk3.out; exact ⟨q + 1, by omega, by go_num, by omega, Hbw.out, HN.out.row⟩
              · obtain rfl : k = p := by omega
                have Hbw := Lib.hid hbw
                clear hbw
                go_wp2
                go_ret
                exact ⟨ret_int (by rw [Hv3.out, HN.out.all (by rw [Hlen.out]; exact Nat.le_refl _)]; rfl), Hbw.out⟩
end Go.Proofs.YtbiopedpceddeaaGreatDoor
end
