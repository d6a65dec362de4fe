/- Walks of the reference's layer of terms: the widths of a node's operands. -/
import Derived.Test.YtableoihgkmbjaaGreatT8
namespace Go.Proofs.YtableoihgkmbjaaGreat
open Go.RowKit
set_option linter.unusedVariables false
set_option linter.unusedSimpArgs false

/-- the widths of the operands -/
def wdL (t : List T.Nd) (l : List Int) : List Int := l.map fun a => (t.getD a.toNat default).w
theorem wdL_at {t : List T.Nd} {x : T.Nd} {i : Nat} (h : i < x.args.length) : (wdL t x.args)[i]? = some (T.wd t x i) := by
  unfold wdL T.wd
  rw [List.getElem?_map, List.getElem?_eq_getElem h, show x.args.getD i 0 = x.args[i] from getD_of (List.getElem?_eq_getElem h)]; rfl

set_option maxRecDepth 100000 in
set_option maxHeartbeats 8000000 in
theorem rTyped_any (t : List T.Nd) (x : T.Nd) (n ct : Nat) (At A : Option Addr) (c : Nat) (W : World) (hT : StAt 5 NdR W At n t) (hA : SlAt (IntR .i64) W A x.args.length x.args) (hlen : (x.args.length : Int) = T.ar x.op) (har : 0 ≤ T.ar x.op) (harg : ∀ a ∈ x.args, 0 ≤ a ∧ a < (n : Int)) :
    Calls Tryz.prog 93 #[.slice At n ct, ndV x A c] W fun e w' => e = .returned (.bool (T.typed t x)) ∧ Below W.heap.size W w' := by
  obtain ⟨W1, hW1⟩ : ∃ W1, W1 = W.alloc (.cells #[.int .i64 x.op, .int .i64 x.w, .int .i64 x.fl, .slice A x.args.length c, .int .u32 x.imm] 61) := ⟨_, rfl⟩
  have hB1 : Below W.heap.size W W1 := by rw [hW1]; exact (Below.refl _ _).alloc (Nat.le_refl _) _
  have hr1 : W1.heap[W.heap.size]? = some (.cells #[.int .i64 x.op, .int .i64 x.w, .int .i64 x.fl, .slice A x.args.length c, .int .u32 x.imm] 61 (0, 0)) := by rw [hW1]; exact heap_alloc_new W _
  have hs1 : W1.heap.size = W.heap.size + 1 := by rw [hW1]; simp
  have HX := Lib.hid (show ∀ Y : World, Below W1.heap.size W1 Y → Y.cell? ⟨W.heap.size, 0, none⟩ = some (.int .i64 x.op) ∧ Y.cell? ⟨W.heap.size, 1, none⟩ = some (.int .i64 x.w) ∧ Y.cell? ⟨W.heap.size, 3, none⟩ = some (.slice A x.args.length c) from fun Y hY => by
    have h1 := row_step (Lib.hid hY) hr1
    refine ⟨?_, ?_, ?_⟩
    all_goals rw [cell_of_row _ _ _ _ _ (0, 0) h1]; rfl)
  have HT := Lib.hid (hT.below monoNd hB1)
  have HA := Lib.hid (hA.below (monoInt _) hB1)
  have HB1 := Lib.hid hB1
  have Hs1 := Lib.hid hs1
  have Harg := Lib.hid harg
  have hle := hT.le
  have hle2 := hA.le
  have hm3 : x.args.length ≤ 3 := by
    rcases ar_cases x.op with h | h | h | h | h | h <;> omega
  have HF : Hid (∀ s, s = T.typed t x → s = T.typed t x) := fun s h => h
  obtain ⟨sh, hsh⟩ : ∃ sh, sh = T.typed t x := ⟨_, rfl⟩
  rw [← hsh]
  have Hsh := Lib.hid hsh
  have Hlen := Lib.hid hlen
  have Har := Lib.hid har
  have HWd := Lib.hid (fun i (h : i < x.args.length) => wdL_at (t := t) h)
  obtain ⟨Wd, hWd⟩ : ∃ Wd : Nat → Int, Wd = T.wd t x := ⟨_, rfl⟩
  have HWde := Lib.hid hWd
  rw [← hWd] at HWd
  clear hT hA hB1 hr1 hs1 hsh HF hlen har harg hWd
  rw [show ndV x A c = .agg #[.int .i64 x.op, .int .i64 x.w, .int .i64 x.fl, .slice A x.args.length c, .int .u32 x.imm] from rfl]
  obtain ⟨x0, x1, x3⟩ := HX.out W1 (Below.refl _ _)
  obtain ⟨xs, hxs⟩ : ∃ xs, xs = x.args := ⟨_, rfl⟩
  rw [← hxs] at HX HA Harg HWd hle2 hm3 Hlen hW1 x3 ⊢
  have Hxs := Lib.hid hxs
  clear hxs
  generalize hm : xs.length = m at HX HA HWd hle2 hm3 Hlen hW1 x3 ⊢
  have Hm := Lib.hid hm
  clear hm
  go_enter Tryz.func93, Tryz.ntmps93
  rw [hW1] at x0 x1 x3
  go_wp2
  rw [← hW1] at x0 x1 x3 ⊢
  clear hW1 x0 x1 x3
  go_loopg [5, 6] (m + 1) (fun g v i wr => ∃ (j : Nat), j ≤ m ∧ i = .int .i64 (j : Int) ∧ g + j = m + 1 ∧ OwnAt wr 3 1 v j (((wdL t xs).take j).map (Value.int .i64)) ∧ Below W1.heap.size W1 wr ∧ (∀ g, v.ownBlock = some g → W1.heap.size ≤ g))
  case atStart => exact ⟨0, Nat.zero_le _, rfl, rfl, OwnAt.nil_ _ _ _, Below.refl _ _, fun g hg => by simp [Value.ownBlock] at hg⟩
  case round =>
    obtain ⟨j, hj, rfl, hgk, hown, hbw, hob⟩ := hrel
    have Hgk := Lib.hid hgk; clear hgk
    have Hown := Lib.hid hown; clear hown
    have Hob := Lib.hid hob; clear hob
    obtain ⟨x0, x1, x3⟩ := HX.out wr hbw
    by_cases hlt : j < m
    · obtain ⟨y, b, off, u, hy, rfl, hb, hc, hu⟩ := (HA.out.below (monoInt _) hbw).at_ hlt
      have hu' : u = .int .i64 y := hu
      subst hu'
      have hay := Harg.out y (List.mem_of_getElem? hy)
      obtain ⟨p, rfl⟩ : ∃ p : Nat, y = p := ⟨y.toNat, by omega⟩
      have hp : p < n := by omega
      obtain ⟨z, b2, off2, A2, c2, hz, rfl, _, _, hw2, _⟩ := nd_cells (HT.out.below monoNd hbw) (j := p) hp
      have Hz := Lib.hid (show (wdL t xs)[j]? = some z.w from by unfold wdL; rw [List.getElem?_map, hy]; simp only [Option.map_some, Int.toNat_natCast]; rw [getD_of hz])
      obtain ⟨zw, hzw⟩ : ∃ zw, zw = z.w := ⟨_, rfl⟩
      rw [← hzw] at Hz hw2
      have Hbw := Lib.hid hbw
      clear hy hu hz hzw hay hbw hb
      go_wp2_with (at_builtin; refine wpList_append_one' rfl (.tmp 14) (.tmp 24) 59 rfl 3 (.int .i64 0) 8 Tryz.underlying59 infoInt rfl _ j _ rfl Hown.out (.int .i64 zw) rfl 3 wr.heap.size rfl rfl (by omega) (by omega) ?_; intro v' w3 hown' hgr hat)
      have Hown' := Lib.hid (show OwnAt w3 3 1 v' (j + 1) (((wdL t xs).take (j + 1)).map (Value.int .i64)) from by rw [K.take_succ_at Hz.out, List.map_append]; exact hown')
      obtain ⟨hb3, hv3⟩ := below_append Hbw.out Hbw.out.size Hob.out hgr hat
      have Hv3 := Lib.hid hv3
      have Hb3 := Lib.hid hb3
      clear hown' hgr hat hb3 hv3 x0 x1 x3
      go_wp2
      go_roundg (gk - 1)
      case measure => have := Hgk.out; omega
      case rel => have := Hgk.out; exact ⟨j + 1, by omega, by go_num, by omega, Hown'.out, Hb3.out, Hv3.out⟩
    · obtain rfl : j = m := by omega
      have hwl : (wdL t xs).length = j := by unfold wdL; rw [List.length_map]; exact Hm.out
      have hown := Hown.out
      rw [List.take_of_length_le (by omega)] at hown
      have Hb9 := Lib.hid (HB1.out.trans (hbw.mono (by have := Hs1.out; omega)))
      obtain ⟨Av, cv, hv⟩ := hown.form
      subst hv
      have HL := Lib.hid (show ∀ i, i < j → ∃ g off, Av = some ⟨g, off, none⟩ ∧ wr.cell? ⟨g, off + i, none⟩ = some (.int .i64 (Wd i)) from fun i hi => by
        obtain ⟨y, g, off, u, hy, hA, _, hc, hu⟩ := hown.slInts.at_ hi
        have hu' : u = .int .i64 y := hu
        subst hu'
        rw [HWd.out i hi] at hy
        cases hy
        exact ⟨g, off, hA, hc⟩)
      clear hown hwl hbw Hown Hob
      rcases typed_cases x.op with h | h | h | h | h | h | h
      · have hj2 : (j : Int) = 2 := by rw [Hlen.out]; unfold T.ar; rw [if_neg (by omega), if_pos (by omega)]
        have hjn : j = 2 := by omega
        subst hjn
        clear hj2
        have hop0 : (x.op == 0) = false := by simp; omega
        have hop1 : (x.op == 33) = false := by simp; omega
        have hop14 : (x.op == 14) = false := by simp; omega
        have hop15 : (x.op == 15) = false := by simp; omega
        have hop16 : (x.op == 16) = false := by simp; omega
        have hop17 : (x.op == 17) = false := by simp; omega
        have hop18 : (x.op == 18) = false := by simp; omega
        obtain ⟨g, off, hAv, l0⟩ := HL.out 0 (by omega)
        rw [Nat.add_zero] at l0
        obtain ⟨g1, off1, hA1, l1⟩ := HL.out 1 (by omega)
        rw [hAv] at hA1
        injection hA1 with hA1
        injection hA1 with e1 e2
        subst e1 e2
        subst hAv
        obtain ⟨a0, ha0⟩ : ∃ a0, a0 = Wd 0 := ⟨_, rfl⟩
        rw [← ha0] at l0
        obtain ⟨a1, ha1⟩ : ∃ a1, a1 = Wd 1 := ⟨_, rfl⟩
        rw [← ha1] at l1
        have h9 := Hsh.out
        rw [typed_13 h, ← HWde.out, ← ha0, ← ha1] at h9
        clear ha0 ha1
        clear h
        by_cases e0 : a0 = x.w
        · have z0 : (a0 == x.w) = true := by simpa using e0
          have Hf := Lib.hid (show sh = (a1 == x.w) from by rw [h9, decide_eq_true e0, Bool.true_and]; by_cases h : a1 = x.w <;> simp [h])
          clear e0 h9
          go_wp2
          go_quiet (fail)
          go_wp2
          go_ret
          exact ⟨ret_bool Hf.out.symm, Hb9.out.dr ⟨_, rfl⟩⟩
        · have z0 : (a0 == x.w) = false := by simpa using e0
          have Hf := Lib.hid (show sh = false from by rw [h9, decide_eq_false e0, Bool.false_and])
          clear e0 h9
          go_wp2
          go_quiet (fail)
          go_wp2
          go_ret
          exact ⟨ret_bool Hf.out.symm, Hb9.out.dr ⟨_, rfl⟩⟩
      · have hj2 : (j : Int) = 2 := by rw [Hlen.out]; unfold T.ar; rw [if_neg (by omega), if_pos (by omega)]
        have hjn : j = 2 := by omega
        subst hjn
        clear hj2
        have hop0 : (x.op == 0) = false := by simp; omega
        have hop1 : (x.op == 33) = false := by simp; omega
        have hop14 : (x.op == 14) = true := by simp; omega
        obtain ⟨g, off, hAv, l0⟩ := HL.out 0 (by omega)
        rw [Nat.add_zero] at l0
        obtain ⟨g1, off1, hA1, l1⟩ := HL.out 1 (by omega)
        rw [hAv] at hA1
        injection hA1 with hA1
        injection hA1 with e1 e2
        subst e1 e2
        subst hAv
        obtain ⟨a0, ha0⟩ : ∃ a0, a0 = Wd 0 := ⟨_, rfl⟩
        rw [← ha0] at l0
        obtain ⟨a1, ha1⟩ : ∃ a1, a1 = Wd 1 := ⟨_, rfl⟩
        rw [← ha1] at l1
        have h9 := Hsh.out
        rw [typed_14 h, ← HWde.out, ← ha0, ← ha1] at h9
        clear ha0 ha1
        have Hf := Lib.hid (show sh = (a0 == a1) from by rw [h9]; by_cases h : a0 = a1 <;> simp [h])
        clear h h9
        go_wp2
        go_quiet (fail)
        go_wp2
        go_ret
        exact ⟨ret_bool Hf.out.symm, Hb9.out.dr ⟨_, rfl⟩⟩
      · have hj3 : (j : Int) = 3 := by rw [Hlen.out]; unfold T.ar; rw [if_neg (by omega), if_neg (by omega), if_pos (by omega)]
        have hjn : j = 3 := by omega
        subst hjn
        clear hj3
        have hop0 : (x.op == 0) = false := by simp; omega
        have hop1 : (x.op == 33) = false := by simp; omega
        have hop14 : (x.op == 14) = false := by simp; omega
        have hop15 : (x.op == 15) = true := by simp; omega
        obtain ⟨g, off, hAv, l0⟩ := HL.out 0 (by omega)
        rw [Nat.add_zero] at l0
        obtain ⟨g1, off1, hA1, l1⟩ := HL.out 1 (by omega)
        rw [hAv] at hA1
        injection hA1 with hA1
        injection hA1 with e1 e2
        subst e1 e2
        obtain ⟨g2, off2, hA2, l2⟩ := HL.out 2 (by omega)
        rw [hAv] at hA2
        injection hA2 with hA2
        injection hA2 with e1 e2
        subst e1 e2
        subst hAv
        obtain ⟨a0, ha0⟩ : ∃ a0, a0 = Wd 0 := ⟨_, rfl⟩
        rw [← ha0] at l0
        obtain ⟨a1, ha1⟩ : ∃ a1, a1 = Wd 1 := ⟨_, rfl⟩
        rw [← ha1] at l1
        obtain ⟨a2, ha2⟩ : ∃ a2, a2 = Wd 2 := ⟨_, rfl⟩
        rw [← ha2] at l2
        have h9 := Hsh.out
        rw [typed_15 h, ← HWde.out, ← ha0, ← ha1, ← ha2] at h9
        clear ha0 ha1 ha2
        clear h
        by_cases e0 : a0 = 1
        · have z0 : (a0 == 1) = true := by simpa using e0
          by_cases e1 : a1 = x.w
          · have z1 : (a1 == x.w) = true := by simpa using e1
            have Hf := Lib.hid (show sh = (a2 == x.w) from by rw [h9, decide_eq_true e0, decide_eq_true e1, Bool.true_and, Bool.true_and]; by_cases h : a2 = x.w <;> simp [h])
            clear e0 e1 h9
            go_wp2
            go_quiet (fail)
            go_wp2
            go_ret
            exact ⟨ret_bool Hf.out.symm, Hb9.out.dr ⟨_, rfl⟩⟩
          · have z1 : (a1 == x.w) = false := by simpa using e1
            have Hf := Lib.hid (show sh = false from by rw [h9, decide_eq_false e1, Bool.and_false, Bool.false_and])
            clear e0 e1 h9
            go_wp2
            go_quiet (fail)
            go_wp2
            go_ret
            exact ⟨ret_bool Hf.out.symm, Hb9.out.dr ⟨_, rfl⟩⟩
        · have z0 : (a0 == 1) = false := by simpa using e0
          have Hf := Lib.hid (show sh = false from by rw [h9, decide_eq_false e0, Bool.false_and, Bool.false_and])
          clear e0 h9
          go_wp2
          go_quiet (fail)
          go_wp2
          go_ret
          exact ⟨ret_bool Hf.out.symm, Hb9.out.dr ⟨_, rfl⟩⟩
      · have hj1 : (j : Int) = 1 := by rw [Hlen.out]; unfold T.ar; rw [if_neg (by omega), if_neg (by omega), if_neg (by omega), if_pos (by omega)]
        have hjn : j = 1 := by omega
        subst hjn
        clear hj1
        have hop0 : (x.op == 0) = false := by simp; omega
        have hop1 : (x.op == 33) = false := by simp; omega
        have hop14 : (x.op == 14) = false := by simp; omega
        have hop15 : (x.op == 15) = false := by simp; omega
        have hop16 : (x.op == 16) = true := by simp; omega
        obtain ⟨g, off, hAv, l0⟩ := HL.out 0 (by omega)
        rw [Nat.add_zero] at l0
        subst hAv
        obtain ⟨a0, ha0⟩ : ∃ a0, a0 = Wd 0 := ⟨_, rfl⟩
        rw [← ha0] at l0
        have h9 := Hsh.out
        rw [typed_16 (.inl h), ← HWde.out, ← ha0] at h9
        clear ha0
        have Hf := Lib.hid (show sh = decide (a0 < x.w) from h9)
        clear h h9
        go_wp2
        go_quiet (fail)
        go_wp2
        go_ret
        exact ⟨ret_bool Hf.out.symm, Hb9.out.dr ⟨_, rfl⟩⟩
      · have hj1 : (j : Int) = 1 := by rw [Hlen.out]; unfold T.ar; rw [if_neg (by omega), if_neg (by omega), if_neg (by omega), if_pos (by omega)]
        have hjn : j = 1 := by omega
        subst hjn
        clear hj1
        have hop0 : (x.op == 0) = false := by simp; omega
        have hop1 : (x.op == 33) = false := by simp; omega
        have hop14 : (x.op == 14) = false := by simp; omega
        have hop15 : (x.op == 15) = false := by simp; omega
        have hop16 : (x.op == 16) = false := by simp; omega
        have hop17 : (x.op == 17) = true := by simp; omega
        obtain ⟨g, off, hAv, l0⟩ := HL.out 0 (by omega)
        rw [Nat.add_zero] at l0
        subst hAv
        obtain ⟨a0, ha0⟩ : ∃ a0, a0 = Wd 0 := ⟨_, rfl⟩
        rw [← ha0] at l0
        have h9 := Hsh.out
        rw [typed_16 (.inr h), ← HWde.out, ← ha0] at h9
        clear ha0
        have Hf := Lib.hid (show sh = decide (a0 < x.w) from h9)
        clear h h9
        go_wp2
        go_quiet (fail)
        go_wp2
        go_ret
        exact ⟨ret_bool Hf.out.symm, Hb9.out.dr ⟨_, rfl⟩⟩
      · have hj1 : (j : Int) = 1 := by rw [Hlen.out]; unfold T.ar; rw [if_neg (by omega), if_neg (by omega), if_neg (by omega), if_pos (by omega)]
        have hjn : j = 1 := by omega
        subst hjn
        clear hj1
        have hop0 : (x.op == 0) = false := by simp; omega
        have hop1 : (x.op == 33) = false := by simp; omega
        have hop14 : (x.op == 14) = false := by simp; omega
        have hop15 : (x.op == 15) = false := by simp; omega
        have hop16 : (x.op == 16) = false := by simp; omega
        have hop17 : (x.op == 17) = false := by simp; omega
        have hop18 : (x.op == 18) = true := by simp; omega
        obtain ⟨g, off, hAv, l0⟩ := HL.out 0 (by omega)
        rw [Nat.add_zero] at l0
        subst hAv
        obtain ⟨a0, ha0⟩ : ∃ a0, a0 = Wd 0 := ⟨_, rfl⟩
        rw [← ha0] at l0
        have h9 := Hsh.out
        rw [typed_18 h, ← HWde.out, ← ha0] at h9
        clear ha0
        have Hf := Lib.hid (show sh = decide (x.w < a0) from h9)
        clear h h9
        go_wp2
        go_quiet (fail)
        go_wp2
        go_ret
        exact ⟨ret_bool Hf.out.symm, Hb9.out.dr ⟨_, rfl⟩⟩
      · have Hf := Lib.hid (show sh = true from by rw [Hsh.out, typed_else h])
        have h033 : x.op = 0 ∨ x.op = 33 := by
          have := Har.out
          rcases ar_cases x.op with h1 | h1 | h1 | h1 | h1 | h1 <;> omega
        clear h
        rcases h033 with h | h
        · have hop0 : (x.op == 0) = true := by simpa using h
          clear h
          go_wp2
          go_ret
          exact ⟨ret_bool Hf.out.symm, Hb9.out⟩
        · have hop0 : (x.op == 0) = false := by simp; omega
          have hop1 : (x.op == 33) = true := by simpa using h
          clear h
          go_wp2
          go_ret
          exact ⟨ret_bool Hf.out.symm, Hb9.out⟩
end Go.Proofs.YtableoihgkmbjaaGreat
