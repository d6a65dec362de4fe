/- Walks of the reference's layer of terms: the shape of a node. -/
import Derived.Test.YtbiopedpceddeaaGreatDoorN06
import Derived.BigGuardPart
set_option linter.unusedVariables false
set_option linter.unusedSimpArgs false
namespace Go.Proofs.YtbiopedpceddeaaGreatDoor
open Go.RowKit
set_option linter.unusedVariables false
set_option linter.unusedSimpArgs false

/-- how the shape of a node may be wrong, in the reference's order: the first test that fails -/
theorem rshape_cases (z : Bool) (k : Nat) (x : T.Nd) :
    (T.shaped z k x = false ∧ (T.ar x.op != (x.args.length : Int)) = true) ∨
    (T.shaped z k x = false ∧ (T.ar x.op != (x.args.length : Int)) = false ∧ decide (T.ar x.op < 0) = true) ∨
    (T.shaped z k x = false ∧ (T.ar x.op != (x.args.length : Int)) = false ∧ decide (T.ar x.op < 0) = false ∧ B.isWd x.w = false) ∨
    (T.shaped z k x = false ∧ (T.ar x.op != (x.args.length : Int)) = false ∧ decide (T.ar x.op < 0) = false ∧ B.isWd x.w = true ∧ z = true ∧ (x.fl != 0) = true) ∨
    (T.shaped z k x = (T.argsOk k x.args && (T.immOk x && (!decide (x.op = 14) || decide (x.w = 1)))) ∧ (T.ar x.op != (x.args.length : Int)) = false ∧ decide (T.ar x.op < 0) = false ∧ B.isWd x.w = true ∧ z = true ∧ (x.fl != 0) = false) ∨
    (T.shaped z k x = (T.argsOk k x.args && (T.immOk x && (!decide (x.op = 14) || decide (x.w = 1)))) ∧ (T.ar x.op != (x.args.length : Int)) = false ∧ decide (T.ar x.op < 0) = false ∧ B.isWd x.w = true ∧ z = false) := by
  have hw : (decide (1 ≤ x.w) && decide (x.w ≤ 32)) = B.isWd x.w := rfl
  have hf : decide (x.fl = 0) = !(x.fl != 0) := by by_cases h : x.fl = 0 <;> simp [h]
  have hl : decide ((x.args.length : Int) = T.ar x.op) = !(T.ar x.op != (x.args.length : Int)) := by
    by_cases h : T.ar x.op = (x.args.length : Int)
    · simp [h]
    · have h' : ¬ (x.args.length : Int) = T.ar x.op := fun e => h e.symm
      simp [h, h']
  have hn : decide (0 ≤ T.ar x.op) = !decide (T.ar x.op < 0) := by by_cases h : T.ar x.op < 0 <;> simp [h] <;> omega
  unfold T.shaped
  rw [hf, hl, hn]
  have e : ∀ a b c d e f g i : Bool, (!a && b && c && (!z || d) && e && f && g && i) = (!a && (b && c) && (!z || d) && e && f && g && i) := by intros; simp [Bool.and_assoc]
  rw [e, hw]
  generalize decide (T.ar x.op < 0) = a
  generalize B.isWd x.w = b
  generalize (x.fl != 0) = d
  generalize (T.ar x.op != (x.args.length : Int)) = f
  generalize T.immOk x = g
  generalize T.argsOk k x.args = i
  generalize (!decide (x.op = 14) || decide (x.w = 1)) = h
  cases z <;> cases a <;> cases b <;> cases d <;> cases f <;> cases g <;> cases h <;> cases i <;> simp

theorem argsOk_next {k j : Nat} {l : List Int} {a : Int} (h : T.argsOk k (l.take j) = true) (ha : l[j]? = some a) (h1 : 0 ≤ a) (h2 : a < k) : T.argsOk k (l.take (j + 1)) = true := by
  rw [K.take_succ_at ha]
  unfold T.argsOk at *
  rw [List.all_append, h]
  simp [h1, h2]
theorem argsOk_bad {k j : Nat} {l : List Int} {a : Int} (ha : l[j]? = some a) (h : ¬ (0 ≤ a ∧ a < k)) : T.argsOk k l = false := by
  cases e : T.argsOk k l
  · rfl
  · have := List.all_eq_true.1 e a (List.mem_of_getElem? ha)
    simp at this
    exact absurd this h

set_option maxRecDepth 100000 in
set_option maxHeartbeats 8000000 in
theorem rargument_any (z : Bool) (t : List T.Nd) (k n ct : Nat) (At : Option Addr) (W : World) (hT : StAt 5 NdR W At n t) (hk : k < n) (x : T.Nd) (hx : t[k]? = some x) :
    Calls Tryz.prog 160 #[.slice At n ct, .int .i64 k, .bool z] W fun e w' => e = .returned (.bool (T.shaped z k x)) ∧ Below W.heap.size W w' := by
  obtain ⟨x', b, off, A, c, hx', rfl, hb, h0, h1, h2, h3, h4, hs, i0, i1⟩ := nd_cells hT hk
  rw [hx] at hx'
  cases hx'
  obtain ⟨op, w, fl, args, imm⟩ := x
  dsimp only at h0 h1 h2 h3 h4 hs i0 i1
  have hle := hT.le
  have hle2 := hs.le
  have Hc := Lib.hid (rshape_cases z k ⟨op, w, fl, args, imm⟩)
  obtain ⟨W1, hW1⟩ : ∃ W1, W1 = W.alloc (.cells #[.int .i64 op, .int .i64 w, .int .i64 fl, .slice A args.length c, .int .u32 imm] 62) := ⟨_, rfl⟩
  have HB1 := Lib.hid (show Below W.heap.size W W1 from by rw [hW1]; exact (Below.refl _ _).alloc (Nat.le_refl _) _)
  have hr1 : W1.heap[W.heap.size]? = some (.cells #[.int .i64 op, .int .i64 w, .int .i64 fl, .slice A args.length c, .int .u32 imm] 62 (0, 0)) := by rw [hW1]; exact heap_alloc_new W _
  have HX := Lib.hid (show ∀ Y : World, Below W1.heap.size W1 Y → Y.cell? ⟨W.heap.size, 0, none⟩ = some (.int .i64 op) ∧ Y.cell? ⟨W.heap.size, 1, none⟩ = some (.int .i64 w) ∧ Y.cell? ⟨W.heap.size, 2, none⟩ = some (.int .i64 fl) ∧ Y.cell? ⟨W.heap.size, 3, none⟩ = some (.slice A args.length c) ∧ Y.cell? ⟨W.heap.size, 4, none⟩ = some (.int .u32 imm) from fun Y hY => by
    have h1 := row_step (Lib.hid hY) hr1
    refine ⟨?_, ?_, ?_, ?_, ?_⟩
    all_goals rw [cell_of_row _ _ _ _ _ (0, 0) h1]; rfl)
  obtain ⟨x0, x1, x2, x3, x4⟩ := HX.out W1 (Below.refl _ _)
  have HA := Lib.hid (fun nn => show Calls Tryz.prog 224 #[.int .i64 op] (W1.drewN nn) (fun e w'' => e = .returned (.int .i64 (T.ar op)) ∧ ∃ m, w'' = W1.drewN m) from Calls.quiet_of_same ((rarity_any op _).mono fun e w' ⟨h1, h2⟩ => ⟨h1, h2.symm⟩))
  have HI := Lib.hid (fun nn => show Calls Tryz.prog 225 #[.int .i64 w] (W1.drewN nn) (fun e w'' => e = .returned (.bool (B.isWd w)) ∧ ∃ m, w'' = W1.drewN m) from Calls.quiet_of_same ((r7isWidth_any w _).mono fun e w' ⟨h1, h2⟩ => ⟨h1, h2.symm⟩))
  obtain ⟨sh, hsh⟩ : ∃ sh, sh = T.shaped z k ⟨op, w, fl, args, imm⟩ := ⟨_, rfl⟩
  rw [← hsh]
  have Hsh := Lib.hid hsh
  dsimp only at Hc
  rw [← hsh] at Hc
  obtain ⟨a, ha⟩ : ∃ a, a = T.ar op := ⟨_, rfl⟩
  rw [← ha] at HA Hc
  have hs1 := Lib.hid (hs.below (monoInt _) HB1.out)
  have Hb := Lib.hid hb
  clear hsh ha hT hx hr1 hs hb
  rcases Hc.out with ⟨hr, c1⟩ | ⟨hr, c1, c2⟩ | ⟨hr, c1, c2, c3⟩ | ⟨hr, c1, c2, c3, rfl, c4⟩ | ⟨hr, c1, c2, c3, rfl, c4⟩ | ⟨hr, c1, c2, c3, rfl⟩
  · subst hr
    clear Hc
    go_enter Tryz.func160, Tryz.ntmps160
    go_wp2
    rw [← hW1]
    clear hW1 h0 h1 h2 h3 h4
    go_quiet ((first | (go_at_call 224; with_reducible exact HA.out _) | (go_at_call 225; with_reducible exact HI.out _) | fail))
    go_wp2
    go_ret
    exact ⟨rfl, HB1.out.dr ⟨_, rfl⟩⟩
  · subst hr
    clear Hc
    go_enter Tryz.func160, Tryz.ntmps160
    go_wp2
    rw [← hW1]
    clear hW1 h0 h1 h2 h3 h4
    go_quiet ((first | (go_at_call 224; with_reducible exact HA.out _) | (go_at_call 225; with_reducible exact HI.out _) | fail))
    go_wp2
    go_ret
    exact ⟨rfl, HB1.out.dr ⟨_, rfl⟩⟩
  · rw [c3] at HI
    subst hr
    clear Hc
    go_enter Tryz.func160, Tryz.ntmps160
    go_wp2
    rw [← hW1]
    clear hW1 h0 h1 h2 h3 h4
    go_quiet ((first | (go_at_call 224; with_reducible exact HA.out _) | (go_at_call 225; with_reducible exact HI.out _) | fail))
    go_wp2
    go_ret
    exact ⟨rfl, HB1.out.dr ⟨_, rfl⟩⟩
  · rw [c3] at HI
    subst hr
    clear Hc
    go_enter Tryz.func160, Tryz.ntmps160
    go_wp2
    rw [← hW1]
    clear hW1 h0 h1 h2 h3 h4
    go_quiet ((first | (go_at_call 224; with_reducible exact HA.out _) | (go_at_call 225; with_reducible exact HI.out _) | fail))
    go_wp2
    go_ret
    exact ⟨rfl, HB1.out.dr ⟨_, rfl⟩⟩
  · rw [c3] at HI
    have Hr := Lib.hid hr
    clear hr Hc
    go_enter Tryz.func160, Tryz.ntmps160
    go_wp2
    rw [← hW1]
    clear hW1 h0 h1 h2 h3 h4
    go_quiet ((first | (go_at_call 224; with_reducible exact HA.out _) | (go_at_call 225; with_reducible exact HI.out _) | fail))
    clear HA HI c1 c2 c3 c4
    generalize hW2 : W1.drewN _ = W2
    have hd2 : Dr W1 W2 := ⟨_, hW2.symm⟩
    obtain ⟨y0, y1, y2, y3, y4⟩ := HX.out W2 (hd2.below _)
    have HA2 := Lib.hid (hs1.out.dr (monoInt _) hd2)
    have Hb2 := Lib.hid (HB1.out.dr hd2)
    clear hd2 x0 x1 x2 x3 x4 hW2
    go_wp2
    go_loop [8] (fun i => ∃ j : Nat, j ≤ args.length ∧ i = .int .i64 j ∧ Hid (T.argsOk k (args.take j) = true)) (fun i => args.length - (intOf i).toNat)
    case atStart => exact ⟨0, Nat.zero_le _, rfl, rfl⟩
    case round =>
      obtain ⟨j, hj, rfl, HG⟩ := hrel
      by_cases hlt : j < args.length
      · obtain ⟨y, b9, off9, u9, hy, hA9, _, hc9, hu9⟩ := HA2.out.at_ hlt
        have hu9' : u9 = .int .i64 y := hu9
        subst hu9' hA9
        have Hy := Lib.hid hy
        clear hy hu9
        by_cases hg : 0 ≤ y ∧ y < k
        · have Hg := Lib.hid hg
          have p0 : decide (y < 0) = false := by simp; omega
          have p1 : decide ((k : Int) ≤ y) = false := by simp; omega
          clear hg
          go_wp2
          go_round
          case rel => exact ⟨j + 1, by omega, by go_num, argsOk_next HG.out Hy.out Hg.out.1 Hg.out.2⟩
          case measure => simp [intOf]; omega
        · have Hbad := Lib.hid (show sh = false from by rw [Hr.out, argsOk_bad Hy.out hg, Bool.false_and])
          by_cases h0 : y < 0
          · have p0 : decide (y < 0) = true := by simp; omega
            clear hg
            go_wp2
            go_ret
            exact ⟨ret_bool Hbad.out.symm, Hb2.out⟩
          · have p0 : decide (y < 0) = false := by simp; omega
            have p1 : decide ((k : Int) ≤ y) = true := by simp; omega
            clear hg
            go_wp2
            go_ret
            exact ⟨ret_bool Hbad.out.symm, Hb2.out⟩
      · obtain rfl : j = args.length := by omega
        have hall := HG.out
        rw [List.take_length] at hall
        have Hr2 := Lib.hid (show sh = (T.immOk ⟨op, w, fl, args, imm⟩ && (!decide (op = 14) || decide (w = 1))) from by rw [Hr.out, hall, Bool.true_and])
        clear hall
        by_cases o0 : op = 0
        · have HIw := Lib.hid (fun W' => isWord_any w imm W' i0 i1)
          have Hf := Lib.hid (show sh = B.isW w imm from by rw [Hr2.out, o0]; simp [T.immOk])
          subst o0
          go_wp2_with fail
          refine (HIw.out _).mono ?_
          rintro e w3 ⟨rfl, rfl⟩
          go_wp2
          go_ret
          exact ⟨ret_bool Hf.out.symm, Hb2.out⟩
        · have p0 : (op == 0) = false := by simpa using o0
          by_cases o1 : op = 33
          · have Hf := Lib.hid (show sh = decide (imm < 4) from by rw [Hr2.out, o1]; simp [T.immOk])
            subst o1
            go_wp2
            go_ret
            exact ⟨ret_bool Hf.out.symm, Hb2.out⟩
          · have p1 : (op == 33) = false := by simpa using o1
            by_cases o2 : op = 14
            · have Hf := Lib.hid (show sh = (decide (imm ≤ 9) && decide (w = 1)) from by rw [Hr2.out, o2]; simp [T.immOk])
              subst o2
              by_cases w1 : w = 1
              · have p2 : (w == 1) = true := by simpa using w1
                have Hf2 := Lib.hid (show sh = decide (imm ≤ 9) from by rw [Hf.out, decide_eq_true w1, Bool.and_true])
                clear w1
                go_wp2
                go_ret
                exact ⟨ret_bool Hf2.out.symm, Hb2.out⟩
              · have p2 : (w == 1) = false := by simpa using w1
                have Hf2 := Lib.hid (show sh = false from by rw [Hf.out, decide_eq_false w1, Bool.and_false])
                clear w1
                go_wp2
                go_ret
                exact ⟨ret_bool Hf2.out.symm, Hb2.out⟩
            · have p2 : (op == 14) = false := by simpa using o2
              have Hf := Lib.hid (show sh = (imm == 0) from by
                rw [Hr2.out]
                unfold T.immOk
                dsimp only
                rw [if_neg o0, if_neg o1, if_neg o2, decide_eq_false o2]
                by_cases h : imm = 0 <;> simp [h])
              clear o0 o1 o2
              go_wp2
              go_ret
              exact ⟨ret_bool Hf.out.symm, Hb2.out⟩
  · rw [c3] at HI
    have Hr := Lib.hid hr
    clear hr Hc
    go_enter Tryz.func160, Tryz.ntmps160
    go_wp2
    rw [← hW1]
    clear hW1 h0 h1 h2 h3 h4
    go_quiet ((first | (go_at_call 224; with_reducible exact HA.out _) | (go_at_call 225; with_reducible exact HI.out _) | fail))
    clear HA HI c1 c2 c3
    generalize hW2 : W1.drewN _ = W2
    have hd2 : Dr W1 W2 := ⟨_, hW2.symm⟩
    obtain ⟨y0, y1, y2, y3, y4⟩ := HX.out W2 (hd2.below _)
    have HA2 := Lib.hid (hs1.out.dr (monoInt _) hd2)
    have Hb2 := Lib.hid (HB1.out.dr hd2)
    clear hd2 x0 x1 x2 x3 x4 hW2
    go_wp2
    go_loop [8] (fun i => ∃ j : Nat, j ≤ args.length ∧ i = .int .i64 j ∧ Hid (T.argsOk k (args.take j) = true)) (fun i => args.length - (intOf i).toNat)
    case atStart => exact ⟨0, Nat.zero_le _, rfl, rfl⟩
    case round =>
      obtain ⟨j, hj, rfl, HG⟩ := hrel
      by_cases hlt : j < args.length
      · obtain ⟨y, b9, off9, u9, hy, hA9, _, hc9, hu9⟩ := HA2.out.at_ hlt
        have hu9' : u9 = .int .i64 y := hu9
        subst hu9' hA9
        have Hy := Lib.hid hy
        clear hy hu9
        by_cases hg : 0 ≤ y ∧ y < k
        · have Hg := Lib.hid hg
          have p0 : decide (y < 0) = false := by simp; omega
          have p1 : decide ((k : Int) ≤ y) = false := by simp; omega
          clear hg
          go_wp2
          go_round
          case rel => exact ⟨j + 1, by omega, by go_num, argsOk_next HG.out Hy.out Hg.out.1 Hg.out.2⟩
          case measure => simp [intOf]; omega
        · have Hbad := Lib.hid (show sh = false from by rw [Hr.out, argsOk_bad Hy.out hg, Bool.false_and])
          by_cases h0 : y < 0
          · have p0 : decide (y < 0) = true := by simp; omega
            clear hg
            go_wp2
            go_ret
            exact ⟨ret_bool Hbad.out.symm, Hb2.out⟩
          · have p0 : decide (y < 0) = false := by simp; omega
            have p1 : decide ((k : Int) ≤ y) = true := by simp; omega
            clear hg
            go_wp2
            go_ret
            exact ⟨ret_bool Hbad.out.symm, Hb2.out⟩
      · obtain rfl : j = args.length := by omega
        have hall := HG.out
        rw [List.take_length] at hall
        have Hr2 := Lib.hid (show sh = (T.immOk ⟨op, w, fl, args, imm⟩ && (!decide (op = 14) || decide (w = 1))) from by rw [Hr.out, hall, Bool.true_and])
        clear hall
        by_cases o0 : op = 0
        · have HIw := Lib.hid (fun W' => isWord_any w imm W' i0 i1)
          have Hf := Lib.hid (show sh = B.isW w imm from by rw [Hr2.out, o0]; simp [T.immOk])
          subst o0
          go_wp2_with fail
          refine (HIw.out _).mono ?_
          rintro e w3 ⟨rfl, rfl⟩
          go_wp2
          go_ret
          exact ⟨ret_bool Hf.out.symm, Hb2.out⟩
        · have p0 : (op == 0) = false := by simpa using o0
          by_cases o1 : op = 33
          · have Hf := Lib.hid (show sh = decide (imm < 4) from by rw [Hr2.out, o1]; simp [T.immOk])
            subst o1
            go_wp2
            go_ret
            exact ⟨ret_bool Hf.out.symm, Hb2.out⟩
          · have p1 : (op == 33) = false := by simpa using o1
            by_cases o2 : op = 14
            · have Hf := Lib.hid (show sh = (decide (imm ≤ 9) && decide (w = 1)) from by rw [Hr2.out, o2]; simp [T.immOk])
              subst o2
              by_cases w1 : w = 1
              · have p2 : (w == 1) = true := by simpa using w1
                have Hf2 := Lib.hid (show sh = decide (imm ≤ 9) from by rw [Hf.out, decide_eq_true w1, Bool.and_true])
                clear w1
                go_wp2
                go_ret
                exact ⟨ret_bool Hf2.out.symm, Hb2.out⟩
              · have p2 : (w == 1) = false := by simpa using w1
                have Hf2 := Lib.hid (show sh = false from by rw [Hf.out, decide_eq_false w1, Bool.and_false])
                clear w1
                go_wp2
                go_ret
                exact ⟨ret_bool Hf2.out.symm, Hb2.out⟩
            · have p2 : (op == 14) = false := by simpa using o2
              have Hf := Lib.hid (show sh = (imm == 0) from by
                rw [Hr2.out]
                unfold T.immOk
                dsimp only
                rw [if_neg o0, if_neg o1, if_neg o2, decide_eq_false o2]
                by_cases h : imm = 0 <;> simp [h])
              clear o0 o1 o2
              go_wp2
              go_ret
              exact ⟨ret_bool Hf.out.symm, Hb2.out⟩
end Go.Proofs.YtbiopedpceddeaaGreatDoor
