/- Merged: QT7, QT8, QT9. -/
import Derived.Test.YtcmlmjbpdaecbaaGreatA09
import Derived.BigGuardPart
set_option linter.unusedVariables false
set_option linter.unusedSimpArgs false
section
namespace Go.Proofs.YtcmlmjbpdaecbaaGreat
open Go.RowKit
set_option linter.unusedVariables false
set_option linter.unusedSimpArgs false

/-- what Widths gives back -/
def WsR (t : List T.Nd) (W : World) (e : Ending) (w' : World) : Prop := Below W.heap.size W w' ∧
  ((T.valid true t ≠ 0 ∧ e = .returned (.tuple #[.slice none 0 0, .int .i64 (T.valid true t)])) ∨
   (T.valid true t = 0 ∧ ∃ g, e = .returned (.tuple #[.slice (some ⟨g, 0, none⟩) 4 4, .int .i64 0]) ∧ W.heap.size ≤ g ∧ w'.heap[g]? = some (.cells ((T.widths t).map (Value.int .i64)).toArray 3 (0, 0))))

theorem valid_ok {z : Bool} {t : List T.Nd} (h : T.valid z t = 0) : 1 ≤ t.length ∧ t.length ≤ 300 ∧ (∀ i x, t[i]? = some x → T.shaped z i x = true) ∧ (∀ x ∈ t, T.typed t x = true) ∧ T.clashes t = false := by
  unfold T.valid at h
  split at h
  · cases h
  · rename_i h1
    split at h
    · cases h
    · rename_i h2
      split at h
      · cases h
      · rename_i h3
        split at h
        · cases h
        · rename_i h4
          exact ⟨by omega, by omega, T.shaped_all.1 (by simpa using h2), List.all_eq_true.1 (by simpa using h3), by simpa using h4⟩

set_option maxHeartbeats 1000000 in
theorem rarity_any (op : Int) (W : World) : Calls Tryz.prog 145 #[.int .i64 op] W fun e w' => e = .returned (.int .i64 (T.ar op)) ∧ W = w' := by
  rcases ar_cases op with ⟨rfl, h⟩ | ⟨rfl, h⟩ | ⟨h1, h2, h⟩ | ⟨rfl, h⟩ | ⟨h1, h2, h⟩ | ⟨a, b, c, d, e, h⟩
  · go_enter Tryz.func145, Tryz.ntmps145
    go_wp2
    go_ret
    exact ⟨rfl, rfl⟩
  · go_enter Tryz.func145, Tryz.ntmps145
    go_wp2
    go_ret
    exact ⟨rfl, rfl⟩
  · rw [h]; clear h
    have q0 : (op == 0) = false := by simp; omega
    have q1 : (op == 33) = false := by simp; omega
    have q2 : decide (1 ≤ op) = true := by simp; omega
    have q3 : decide (op ≤ 14) = true := by simp; omega
    go_enter Tryz.func145, Tryz.ntmps145
    go_wp2
    go_ret
    exact ⟨rfl, rfl⟩
  · go_enter Tryz.func145, Tryz.ntmps145
    go_wp2
    go_ret
    exact ⟨rfl, rfl⟩
  · rw [h]; clear h
    have hop : op = 16 ∨ op = 17 ∨ op = 18 := by omega
    clear h1 h2
    rcases hop with rfl | rfl | rfl
    all_goals
      go_enter Tryz.func145, Tryz.ntmps145
      go_wp2
      go_ret
      exact ⟨rfl, rfl⟩
  · rw [h]; clear h
    have q0 : (op == 0) = false := by simp; omega
    have q1 : (op == 33) = false := by simp; omega
    have q4 : (op == 15) = false := by simp; omega
    by_cases hn : op < 1
    · have q2 : decide (1 ≤ op) = false := by simp; omega
      have q5 : decide (16 ≤ op) = false := by simp; omega
      clear a b c d e hn
      go_enter Tryz.func145, Tryz.ntmps145
      go_wp2
      go_ret
      exact ⟨rfl, rfl⟩
    · have q2 : decide (1 ≤ op) = true := by simp; omega
      have q3 : decide (op ≤ 14) = false := by simp; omega
      have q5 : decide (16 ≤ op) = true := by simp; omega
      have q6 : decide (op ≤ 18) = false := by simp; omega
      clear a b c d e hn
      go_enter Tryz.func145, Tryz.ntmps145
      go_wp2
      go_ret
      exact ⟨rfl, rfl⟩

theorem r7isWidth_any (n : Int) (W : World) : Calls Tryz.prog 146 #[.int .i64 n] W fun e w' => e = .returned (.bool (B.isWd n)) ∧ W = w' := by
  by_cases h1 : 1 ≤ n
  · by_cases h2 : n ≤ 32
    · rw [show B.isWd n = true from B.isWd_iff.2 ⟨h1, h2⟩]
      go_enter Tryz.func146, Tryz.ntmps146
      go_wp2
      go_ret
      exact ⟨rfl, rfl⟩
    · rw [show B.isWd n = false from by cases h : B.isWd n; rfl; exact absurd (B.isWd_iff.1 h).2 h2]
      have q : decide (n ≤ 32) = false := by simpa using h2
      clear h2
      go_enter Tryz.func146, Tryz.ntmps146
      go_wp2
      go_ret
      exact ⟨rfl, rfl⟩
  · rw [show B.isWd n = false from by cases h : B.isWd n; rfl; exact absurd (B.isWd_iff.1 h).1 h1]
    have q : decide (1 ≤ n) = false := by simpa using h1
    clear h1
    go_enter Tryz.func146, Tryz.ntmps146
    go_wp2
    go_ret
    exact ⟨rfl, rfl⟩
end Go.Proofs.YtcmlmjbpdaecbaaGreat
end
section
namespace Go.Proofs.YtcmlmjbpdaecbaaGreat
open Go.RowKit
set_option linter.unusedVariables false
set_option linter.unusedSimpArgs false

/-- how the shape of a node may be wrong, in the reference's order: the first test that fails -/
theorem rshape_cases (z : Bool) (k : Nat) (x : T.Nd) :
    (T.shaped z k x = false ∧ (T.ar x.op != (x.args.length : Int)) = true) ∨
    (T.shaped z k x = false ∧ (T.ar x.op != (x.args.length : Int)) = false ∧ decide (T.ar x.op < 0) = true) ∨
    (T.shaped z k x = false ∧ (T.ar x.op != (x.args.length : Int)) = false ∧ decide (T.ar x.op < 0) = false ∧ B.isWd x.w = false) ∨
    (T.shaped z k x = false ∧ (T.ar x.op != (x.args.length : Int)) = false ∧ decide (T.ar x.op < 0) = false ∧ B.isWd x.w = true ∧ z = true ∧ (x.fl != 0) = true) ∨
    (T.shaped z k x = (T.argsOk k x.args && (T.immOk x && (!decide (x.op = 14) || decide (x.w = 1)))) ∧ (T.ar x.op != (x.args.length : Int)) = false ∧ decide (T.ar x.op < 0) = false ∧ B.isWd x.w = true ∧ z = true ∧ (x.fl != 0) = false) ∨
    (T.shaped z k x = (T.argsOk k x.args && (T.immOk x && (!decide (x.op = 14) || decide (x.w = 1)))) ∧ (T.ar x.op != (x.args.length : Int)) = false ∧ decide (T.ar x.op < 0) = false ∧ B.isWd x.w = true ∧ z = false) := by
  have hw : (decide (1 ≤ x.w) && decide (x.w ≤ 32)) = B.isWd x.w := rfl
  have hf : decide (x.fl = 0) = !(x.fl != 0) := by by_cases h : x.fl = 0 <;> simp [h]
  have hl : decide ((x.args.length : Int) = T.ar x.op) = !(T.ar x.op != (x.args.length : Int)) := by
    by_cases h : T.ar x.op = (x.args.length : Int)
    · simp [h]
    · have h' : ¬ (x.args.length : Int) = T.ar x.op := fun e => h e.symm
      simp [h, h']
  have hn : decide (0 ≤ T.ar x.op) = !decide (T.ar x.op < 0) := by by_cases h : T.ar x.op < 0 <;> simp [h] <;> omega
  unfold T.shaped
  rw [hf, hl, hn]
  have e : ∀ a b c d e f g i : Bool, (!a && b && c && (!z || d) && e && f && g && i) = (!a && (b && c) && (!z || d) && e && f && g && i) := by intros; simp [Bool.and_assoc]
  rw [e, hw]
  generalize decide (T.ar x.op < 0) = a
  generalize B.isWd x.w = b
  generalize (x.fl != 0) = d
  generalize (T.ar x.op != (x.args.length : Int)) = f
  generalize T.immOk x = g
  generalize T.argsOk k x.args = i
  generalize (!decide (x.op = 14) || decide (x.w = 1)) = h
  cases z <;> cases a <;> cases b <;> cases d <;> cases f <;> cases g <;> cases h <;> cases i <;> simp

theorem argsOk_next {k j : Nat} {l : List Int} {a : Int} (h : T.argsOk k (l.take j) = true) (ha : l[j]? = some a) (h1 : 0 ≤ a) (h2 : a < k) : T.argsOk k (l.take (j + 1)) = true := by
  rw [K.take_succ_at ha]
  unfold T.argsOk at *
  rw [List.all_append, h]
  simp [h1, h2]
theorem argsOk_bad {k j : Nat} {l : List Int} {a : Int} (ha : l[j]? = some a) (h : ¬ (0 ≤ a ∧ a < k)) : T.argsOk k l = false := by
  cases e : T.argsOk k l
  · rfl
  · have := List.all_eq_true.1 e a (List.mem_of_getElem? ha)
    simp at this
    exact absurd this h

set_option maxRecDepth 100000 in
set_option maxHeartbeats 8000000 in
theorem rargument_any (z : Bool) (t : List T.Nd) (k n ct : Nat) (At : Option Addr) (W : World) (hT : StAt 5 NdR W At n t) (hk : k < n) (x : T.Nd) (hx : t[k]? = some x) :
    Calls Tryz.prog 107 #[.slice At n ct, .int .i64 k, .bool z] W fun e w' => e = .returned (.bool (T.shaped z k x)) ∧ Below W.heap.size W w' := by
  obtain ⟨x', b, off, A, c, hx', rfl, hb, h0, h1, h2, h3, h4, hs, i0, i1⟩ := nd_cells hT hk
  rw [hx] at hx'
  cases hx'
  obtain ⟨op, w, fl, args, imm⟩ := x
  dsimp only at h0 h1 h2 h3 h4 hs i0 i1
  have hle := hT.le
  have hle2 := hs.le
  have Hc := Lib.hid (rshape_cases z k ⟨op, w, fl, args, imm⟩)
  obtain ⟨W1, hW1⟩ : ∃ W1, W1 = W.alloc (.cells #[.int .i64 op, .int .i64 w, .int .i64 fl, .slice A args.length c, .int .u32 imm] 63) := ⟨_, rfl⟩
  have HB1 := Lib.hid (show Below W.heap.size W W1 from by rw [hW1]; exact (Below.refl _ _).alloc (Nat.le_refl _) _)
  have hr1 : W1.heap[W.heap.size]? = some (.cells #[.int .i64 op, .int .i64 w, .int .i64 fl, .slice A args.length c, .int .u32 imm] 63 (0, 0)) := by rw [hW1]; exact heap_alloc_new W _
  have HX := Lib.hid (show ∀ Y : World, Below W1.heap.size W1 Y → Y.cell? ⟨W.heap.size, 0, none⟩ = some (.int .i64 op) ∧ Y.cell? ⟨W.heap.size, 1, none⟩ = some (.int .i64 w) ∧ Y.cell? ⟨W.heap.size, 2, none⟩ = some (.int .i64 fl) ∧ Y.cell? ⟨W.heap.size, 3, none⟩ = some (.slice A args.length c) ∧ Y.cell? ⟨W.heap.size, 4, none⟩ = some (.int .u32 imm) from fun Y hY => by
    have h1 := row_step (Lib.hid hY) hr1
    refine ⟨?_, ?_, ?_, ?_, ?_⟩
    all_goals rw [cell_of_row _ _ _ _ _ (0, 0) h1]; rfl)
  obtain ⟨x0, x1, x2, x3, x4⟩ := HX.out W1 (Below.refl _ _)
  have HA := Lib.hid (fun nn => show Calls Tryz.prog 145 #[.int .i64 op] (W1.drewN nn) (fun e w'' => e = .returned (.int .i64 (T.ar op)) ∧ ∃ m, w'' = W1.drewN m) from Calls.quiet_of_same ((rarity_any op _).mono fun e w' ⟨h1, h2⟩ => ⟨h1, h2.symm⟩))
  have HI := Lib.hid (fun nn => show Calls Tryz.prog 146 #[.int .i64 w] (W1.drewN nn) (fun e w'' => e = .returned (.bool (B.isWd w)) ∧ ∃ m, w'' = W1.drewN m) from Calls.quiet_of_same ((r7isWidth_any w _).mono fun e w' ⟨h1, h2⟩ => ⟨h1, h2.symm⟩))
  obtain ⟨sh, hsh⟩ : ∃ sh, sh = T.shaped z k ⟨op, w, fl, args, imm⟩ := ⟨_, rfl⟩
  rw [← hsh]
  have Hsh := Lib.hid hsh
  dsimp only at Hc
  rw [← hsh] at Hc
  obtain ⟨a, ha⟩ : ∃ a, a = T.ar op := ⟨_, rfl⟩
  rw [← ha] at HA Hc
  have hs1 := Lib.hid (hs.below (monoInt _) HB1.out)
  have Hb := Lib.hid hb
  clear hsh ha hT hx hr1 hs hb
  rcases Hc.out with ⟨hr, c1⟩ | ⟨hr, c1, c2⟩ | ⟨hr, c1, c2, c3⟩ | ⟨hr, c1, c2, c3, rfl, c4⟩ | ⟨hr, c1, c2, c3, rfl, c4⟩ | ⟨hr, c1, c2, c3, rfl⟩
  · subst hr
    clear Hc
    go_enter Tryz.func107, Tryz.ntmps107
    go_wp2
    rw [← hW1]
    clear hW1 h0 h1 h2 h3 h4
    go_quiet ((first | (go_at_call 145; with_reducible exact HA.out _) | (go_at_call 146; with_reducible exact HI.out _) | fail))
    go_wp2
    go_ret
    exact ⟨rfl, HB1.out.dr ⟨_, rfl⟩⟩
  · subst hr
    clear Hc
    go_enter Tryz.func107, Tryz.ntmps107
    go_wp2
    rw [← hW1]
    clear hW1 h0 h1 h2 h3 h4
    go_quiet ((first | (go_at_call 145; with_reducible exact HA.out _) | (go_at_call 146; with_reducible exact HI.out _) | fail))
    go_wp2
    go_ret
    exact ⟨rfl, HB1.out.dr ⟨_, rfl⟩⟩
  · rw [c3] at HI
    subst hr
    clear Hc
    go_enter Tryz.func107, Tryz.ntmps107
    go_wp2
    rw [← hW1]
    clear hW1 h0 h1 h2 h3 h4
    go_quiet ((first | (go_at_call 145; with_reducible exact HA.out _) | (go_at_call 146; with_reducible exact HI.out _) | fail))
    go_wp2
    go_ret
    exact ⟨rfl, HB1.out.dr ⟨_, rfl⟩⟩
  · rw [c3] at HI
    subst hr
    clear Hc
    go_enter Tryz.func107, Tryz.ntmps107
    go_wp2
    rw [← hW1]
    clear hW1 h0 h1 h2 h3 h4
    go_quiet ((first | (go_at_call 145; with_reducible exact HA.out _) | (go_at_call 146; with_reducible exact HI.out _) | fail))
    go_wp2
    go_ret
    exact ⟨rfl, HB1.out.dr ⟨_, rfl⟩⟩
  · rw [c3] at HI
    have Hr := Lib.hid hr
    clear hr Hc
    go_enter Tryz.func107, Tryz.ntmps107
    go_wp2
    rw [← hW1]
    clear hW1 h0 h1 h2 h3 h4
    go_quiet ((first | (go_at_call 145; with_reducible exact HA.out _) | (go_at_call 146; with_reducible exact HI.out _) | fail))
    clear HA HI c1 c2 c3 c4
    generalize hW2 : W1.drewN _ = W2
    have hd2 : Dr W1 W2 := ⟨_, hW2.symm⟩
    obtain ⟨y0, y1, y2, y3, y4⟩ := HX.out W2 (hd2.below _)
    have HA2 := Lib.hid (hs1.out.dr (monoInt _) hd2)
    have Hb2 := Lib.hid (HB1.out.dr hd2)
    clear hd2 x0 x1 x2 x3 x4 hW2
    go_wp2
    go_loop [8] (fun i => ∃ j : Nat, j ≤ args.length ∧ i = .int .i64 j ∧ Hid (T.argsOk k (args.take j) = true)) (fun i => args.length - (intOf i).toNat)
    case atStart => exact ⟨0, Nat.zero_le _, rfl, rfl⟩
    case round =>
      obtain ⟨j, hj, rfl, HG⟩ := hrel
      by_cases hlt : j < args.length
      · obtain ⟨y, b9, off9, u9, hy, hA9, _, hc9, hu9⟩ := HA2.out.at_ hlt
        have hu9' : u9 = .int .i64 y := hu9
        subst hu9' hA9
        have Hy := Lib.hid hy
        clear hy hu9
        by_cases hg : 0 ≤ y ∧ y < k
        · have Hg := Lib.hid hg
          have p0 : decide (y < 0) = false := by simp; omega
          have p1 : decide ((k : Int) ≤ y) = false := by simp; omega
          clear hg
          go_wp2
          go_round
          case rel => exact ⟨j + 1, by omega, by go_num, argsOk_next HG.out Hy.out Hg.out.1 Hg.out.2⟩
          case measure => simp [intOf]; omega
        · have Hbad := Lib.hid (show sh = false from by rw [Hr.out, argsOk_bad Hy.out hg, Bool.false_and])
          by_cases h0 : y < 0
          · have p0 : decide (y < 0) = true := by simp; omega
            clear hg
            go_wp2
            go_ret
            exact ⟨ret_bool Hbad.out.symm, Hb2.out⟩
          · have p0 : decide (y < 0) = false := by simp; omega
            have p1 : decide ((k : Int) ≤ y) = true := by simp; omega
            clear hg
            go_wp2
            go_ret
            exact ⟨ret_bool Hbad.out.symm, Hb2.out⟩
      · obtain rfl : j = args.length := by omega
        have hall := HG.out
        rw [List.take_length] at hall
        have Hr2 := Lib.hid (show sh = (T.immOk ⟨op, w, fl, args, imm⟩ && (!decide (op = 14) || decide (w = 1))) from by rw [Hr.out, hall, Bool.true_and])
        clear hall
        by_cases o0 : op = 0
        · have HIw := Lib.hid (fun W' => isWord_any w imm W' i0 i1)
          have Hf := Lib.hid (show sh = B.isW w imm from by rw [Hr2.out, o0]; simp [T.immOk])
          subst o0
          go_wp2_with fail
          refine (HIw.out _).mono ?_
          rintro e w3 ⟨rfl, rfl⟩
          go_wp2
          go_ret
          exact ⟨ret_bool Hf.out.symm, Hb2.out⟩
        · have p0 : (op == 0) = false := by simpa using o0
          by_cases o1 : op = 33
          · have Hf := Lib.hid (show sh = decide (imm < 4) from by rw [Hr2.out, o1]; simp [T.immOk])
            subst o1
            go_wp2
            go_ret
            exact ⟨ret_bool Hf.out.symm, Hb2.out⟩
          · have p1 : (op == 33) = false := by simpa using o1
            by_cases o2 : op = 14
            · have Hf := Lib.hid (show sh = (decide (imm ≤ 9) && decide (w = 1)) from by rw [Hr2.out, o2]; simp [T.immOk])
              subst o2
              by_cases w1 : w = 1
              · have p2 : (w == 1) = true := by simpa using w1
                have Hf2 := Lib.hid (show sh = decide (imm ≤ 9) from by rw [Hf.out, decide_eq_true w1, Bool.and_true])
                clear w1
                go_wp2
                go_ret
                exact ⟨ret_bool Hf2.out.symm, Hb2.out⟩
              · have p2 : (w == 1) = false := by simpa using w1
                have Hf2 := Lib.hid (show sh = false from by rw [Hf.out, decide_eq_false w1, Bool.and_false])
                clear w1
                go_wp2
                go_ret
                exact ⟨ret_bool Hf2.out.symm, Hb2.out⟩
            · have p2 : (op == 14) = false := by simpa using o2
              have Hf := Lib.hid (show sh = (imm == 0) from by
                rw [Hr2.out]
                unfold T.immOk
                dsimp only
                rw [if_neg o0, if_neg o1, if_neg o2, decide_eq_false o2]
                by_cases h : imm = 0 <;> simp [h])
              clear o0 o1 o2
              go_wp2
              go_ret
              exact ⟨ret_bool Hf.out.symm, Hb2.out⟩
  · rw [c3] at HI
    have Hr := Lib.hid hr
    clear hr Hc
    go_enter Tryz.func107, Tryz.ntmps107
    go_wp2
    rw [← hW1]
    clear hW1 h0 h1 h2 h3 h4
    go_quiet ((first | (go_at_call 145; with_reducible exact HA.out _) | (go_at_call 146; with_reducible exact HI.out _) | fail))
    clear HA HI c1 c2 c3
    generalize hW2 : W1.drewN _ = W2
    have hd2 : Dr W1 W2 := ⟨_, hW2.symm⟩
    obtain ⟨y0, y1, y2, y3, y4⟩ := HX.out W2 (hd2.below _)
    have HA2 := Lib.hid (hs1.out.dr (monoInt _) hd2)
    have Hb2 := Lib.hid (HB1.out.dr hd2)
    clear hd2 x0 x1 x2 x3 x4 hW2
    go_wp2
    go_loop [8] (fun i => ∃ j : Nat, j ≤ args.length ∧ i = .int .i64 j ∧ Hid (T.argsOk k (args.take j) = true)) (fun i => args.length - (intOf i).toNat)
    case atStart => exact ⟨0, Nat.zero_le _, rfl, rfl⟩
    case round =>
      obtain ⟨j, hj, rfl, HG⟩ := hrel
      by_cases hlt : j < args.length
      · obtain ⟨y, b9, off9, u9, hy, hA9, _, hc9, hu9⟩ := HA2.out.at_ hlt
        have hu9' : u9 = .int .i64 y := hu9
        subst hu9' hA9
        have Hy := Lib.hid hy
        clear hy hu9
        by_cases hg : 0 ≤ y ∧ y < k
        · have Hg := Lib.hid hg
          have p0 : decide (y < 0) = false := by simp; omega
          have p1 : decide ((k : Int) ≤ y) = false := by simp; omega
          clear hg
          go_wp2
          go_round
          case rel => exact ⟨j + 1, by omega, by go_num, argsOk_next HG.out Hy.out Hg.out.1 Hg.out.2⟩
          case measure => simp [intOf]; omega
        · have Hbad := Lib.hid (show sh = false from by rw [Hr.out, argsOk_bad Hy.out hg, Bool.false_and])
          by_cases h0 : y < 0
          · have p0 : decide (y < 0) = true := by simp; omega
            clear hg
            go_wp2
            go_ret
            exact ⟨ret_bool Hbad.out.symm, Hb2.out⟩
          · have p0 : decide (y < 0) = false := by simp; omega
            have p1 : decide ((k : Int) ≤ y) = true := by simp; omega
            clear hg
            go_wp2
            go_ret
            exact ⟨ret_bool Hbad.out.symm, Hb2.out⟩
      · obtain rfl : j = args.length := by omega
        have hall := HG.out
        rw [List.take_length] at hall
        have Hr2 := Lib.hid (show sh = (T.immOk ⟨op, w, fl, args, imm⟩ && (!decide (op = 14) || decide (w = 1))) from by rw [Hr.out, hall, Bool.true_and])
        clear hall
        by_cases o0 : op = 0
        · have HIw := Lib.hid (fun W' => isWord_any w imm W' i0 i1)
          have Hf := Lib.hid (show sh = B.isW w imm from by rw [Hr2.out, o0]; simp [T.immOk])
          subst o0
          go_wp2_with fail
          refine (HIw.out _).mono ?_
          rintro e w3 ⟨rfl, rfl⟩
          go_wp2
          go_ret
          exact ⟨ret_bool Hf.out.symm, Hb2.out⟩
        · have p0 : (op == 0) = false := by simpa using o0
          by_cases o1 : op = 33
          · have Hf := Lib.hid (show sh = decide (imm < 4) from by rw [Hr2.out, o1]; simp [T.immOk])
            subst o1
            go_wp2
            go_ret
            exact ⟨ret_bool Hf.out.symm, Hb2.out⟩
          · have p1 : (op == 33) = false := by simpa using o1
            by_cases o2 : op = 14
            · have Hf := Lib.hid (show sh = (decide (imm ≤ 9) && decide (w = 1)) from by rw [Hr2.out, o2]; simp [T.immOk])
              subst o2
              by_cases w1 : w = 1
              · have p2 : (w == 1) = true := by simpa using w1
                have Hf2 := Lib.hid (show sh = decide (imm ≤ 9) from by rw [Hf.out, decide_eq_true w1, Bool.and_true])
                clear w1
                go_wp2
                go_ret
                exact ⟨ret_bool Hf2.out.symm, Hb2.out⟩
              · have p2 : (w == 1) = false := by simpa using w1
                have Hf2 := Lib.hid (show sh = false from by rw [Hf.out, decide_eq_false w1, Bool.and_false])
                clear w1
                go_wp2
                go_ret
                exact ⟨ret_bool Hf2.out.symm, Hb2.out⟩
            · have p2 : (op == 14) = false := by simpa using o2
              have Hf := Lib.hid (show sh = (imm == 0) from by
                rw [Hr2.out]
                unfold T.immOk
                dsimp only
                rw [if_neg o0, if_neg o1, if_neg o2, decide_eq_false o2]
                by_cases h : imm = 0 <;> simp [h])
              clear o0 o1 o2
              go_wp2
              go_ret
              exact ⟨ret_bool Hf.out.symm, Hb2.out⟩
end Go.Proofs.YtcmlmjbpdaecbaaGreat
end
section
namespace Go.Proofs.YtcmlmjbpdaecbaaGreat
open Go.RowKit
set_option linter.unusedVariables false
set_option linter.unusedSimpArgs false

/-- the widths of the operands -/
def wdL (t : List T.Nd) (l : List Int) : List Int := l.map fun a => (t.getD a.toNat default).w
theorem wdL_at {t : List T.Nd} {x : T.Nd} {i : Nat} (h : i < x.args.length) : (wdL t x.args)[i]? = some (T.wd t x i) := by
  unfold wdL T.wd
  rw [List.getElem?_map, List.getElem?_eq_getElem h, show x.args.getD i 0 = x.args[i] from getD_of (List.getElem?_eq_getElem h)]; rfl

set_option maxRecDepth 100000 in
set_option maxHeartbeats 8000000 in
theorem rTyped_any (t : List T.Nd) (x : T.Nd) (n ct : Nat) (At A : Option Addr) (c : Nat) (W : World) (hT : StAt 5 NdR W At n t) (hA : SlAt (IntR .i64) W A x.args.length x.args) (hlen : (x.args.length : Int) = T.ar x.op) (har : 0 ≤ T.ar x.op) (harg : ∀ a ∈ x.args, 0 ≤ a ∧ a < (n : Int)) :
    Calls Tryz.prog 108 #[.slice At n ct, ndV x A c] W fun e w' => e = .returned (.bool (T.typed t x)) ∧ Below W.heap.size W w' := by
  obtain ⟨W1, hW1⟩ : ∃ W1, W1 = W.alloc (.cells #[.int .i64 x.op, .int .i64 x.w, .int .i64 x.fl, .slice A x.args.length c, .int .u32 x.imm] 63) := ⟨_, rfl⟩
  have hB1 : Below W.heap.size W W1 := by rw [hW1]; exact (Below.refl _ _).alloc (Nat.le_refl _) _
  have hr1 : W1.heap[W.heap.size]? = some (.cells #[.int .i64 x.op, .int .i64 x.w, .int .i64 x.fl, .slice A x.args.length c, .int .u32 x.imm] 63 (0, 0)) := by rw [hW1]; exact heap_alloc_new W _
  have hs1 : W1.heap.size = W.heap.size + 1 := by rw [hW1]; simp
  have HX := Lib.hid (show ∀ Y : World, Below W1.heap.size W1 Y → Y.cell? ⟨W.heap.size, 0, none⟩ = some (.int .i64 x.op) ∧ Y.cell? ⟨W.heap.size, 1, none⟩ = some (.int .i64 x.w) ∧ Y.cell? ⟨W.heap.size, 3, none⟩ = some (.slice A x.args.length c) from fun Y hY => by
    have h1 := row_step (Lib.hid hY) hr1
    refine ⟨?_, ?_, ?_⟩
    all_goals rw [cell_of_row _ _ _ _ _ (0, 0) h1]; rfl)
  have HT := Lib.hid (hT.below monoNd hB1)
  have HA := Lib.hid (hA.below (monoInt _) hB1)
  have HB1 := Lib.hid hB1
  have Hs1 := Lib.hid hs1
  have Harg := Lib.hid harg
  have hle := hT.le
  have hle2 := hA.le
  have hm3 : x.args.length ≤ 3 := by
    rcases ar_cases x.op with h | h | h | h | h | h <;> omega
  have HF : Hid (∀ s, s = T.typed t x → s = T.typed t x) := fun s h => h
  obtain ⟨sh, hsh⟩ : ∃ sh, sh = T.typed t x := ⟨_, rfl⟩
  rw [← hsh]
  have Hsh := Lib.hid hsh
  have Hlen := Lib.hid hlen
  have Har := Lib.hid har
  have HWd := Lib.hid (fun i (h : i < x.args.length) => wdL_at (t := t) h)
  obtain ⟨Wd, hWd⟩ : ∃ Wd : Nat → Int, Wd = T.wd t x := ⟨_, rfl⟩
  have HWde := Lib.hid hWd
  rw [← hWd] at HWd
  clear hT hA hB1 hr1 hs1 hsh HF hlen har harg hWd
  rw [show ndV x A c = .agg #[.int .i64 x.op, .int .i64 x.w, .int .i64 x.fl, .slice A x.args.length c, .int .u32 x.imm] from rfl]
  obtain ⟨x0, x1, x3⟩ := HX.out W1 (Below.refl _ _)
  obtain ⟨xs, hxs⟩ : ∃ xs, xs = x.args := ⟨_, rfl⟩
  rw [← hxs] at HX HA Harg HWd hle2 hm3 Hlen hW1 x3 ⊢
  have Hxs := Lib.hid hxs
  clear hxs
  generalize hm : xs.length = m at HX HA HWd hle2 hm3 Hlen hW1 x3 ⊢
  have Hm := Lib.hid hm
  clear hm
  go_enter Tryz.func108, Tryz.ntmps108
  rw [hW1] at x0 x1 x3
  go_wp2
  rw [← hW1] at x0 x1 x3 ⊢
  clear hW1 x0 x1 x3
  go_loopg [5, 6] (m + 1) (fun g v i wr => ∃ (j : Nat), j ≤ m ∧ i = .int .i64 (j : Int) ∧ g + j = m + 1 ∧ OwnAt wr 3 1 v j (((wdL t xs).take j).map (Value.int .i64)) ∧ Below W1.heap.size W1 wr ∧ (∀ g, v.ownBlock = some g → W1.heap.size ≤ g))
  case atStart => exact ⟨0, Nat.zero_le _, rfl, rfl, OwnAt.nil_ _ _ _, Below.refl _ _, fun g hg => by simp [Value.ownBlock] at hg⟩
  case round =>
    obtain ⟨j, hj, rfl, hgk, hown, hbw, hob⟩ := hrel
    have Hgk := Lib.hid hgk; clear hgk
    have Hown := Lib.hid hown; clear hown
    have Hob := Lib.hid hob; clear hob
    obtain ⟨x0, x1, x3⟩ := HX.out wr hbw
    by_cases hlt : j < m
    · obtain ⟨y, b, off, u, hy, rfl, hb, hc, hu⟩ := (HA.out.below (monoInt _) hbw).at_ hlt
      have hu' : u = .int .i64 y := hu
      subst hu'
      have hay := Harg.out y (List.mem_of_getElem? hy)
      obtain ⟨p, rfl⟩ : ∃ p : Nat, y = p := ⟨y.toNat, by omega⟩
      have hp : p < n := by omega
      obtain ⟨z, b2, off2, A2, c2, hz, rfl, _, _, hw2, _⟩ := nd_cells (HT.out.below monoNd hbw) (j := p) hp
      have Hz := Lib.hid (show (wdL t xs)[j]? = some z.w from by unfold wdL; rw [List.getElem?_map, hy]; simp only [Option.map_some, Int.toNat_natCast]; rw [getD_of hz])
      obtain ⟨zw, hzw⟩ : ∃ zw, zw = z.w := ⟨_, rfl⟩
      rw [← hzw] at Hz hw2
      have Hbw := Lib.hid hbw
      clear hy hu hz hzw hay hbw hb
      go_wp2_with (at_builtin; refine wpList_append_one' rfl (.tmp 14) (.tmp 24) 60 rfl 3 (.int .i64 0) 8 Tryz.underlying60 infoInt rfl _ j _ rfl Hown.out (.int .i64 zw) rfl 3 wr.heap.size rfl rfl (by omega) (by omega) ?_; intro v' w3 hown' hgr hat)
      have Hown' := Lib.hid (show OwnAt w3 3 1 v' (j + 1) (((wdL t xs).take (j + 1)).map (Value.int .i64)) from by rw [K.take_succ_at Hz.out, List.map_append]; exact hown')
      obtain ⟨hb3, hv3⟩ := below_append Hbw.out Hbw.out.size Hob.out hgr hat
      have Hv3 := Lib.hid hv3
      have Hb3 := Lib.hid hb3
      clear hown' hgr hat hb3 hv3 x0 x1 x3
      go_wp2
      go_roundg (gk - 1)
      case measure => have := Hgk.out; omega
      case rel => have := Hgk.out; exact ⟨j + 1, by omega, by go_num, by omega, Hown'.out, Hb3.out, Hv3.out⟩
    · obtain rfl : j = m := by omega
      have hwl : (wdL t xs).length = j := by unfold wdL; rw [List.length_map]; exact Hm.out
      have hown := Hown.out
      rw [List.take_of_length_le (by omega)] at hown
      have Hb9 := Lib.hid (HB1.out.trans (hbw.mono (by have := Hs1.out; omega)))
      obtain ⟨Av, cv, hv⟩ := hown.form
      subst hv
      have HL := Lib.hid (show ∀ i, i < j → ∃ g off, Av = some ⟨g, off, none⟩ ∧ wr.cell? ⟨g, off + i, none⟩ = some (.int .i64 (Wd i)) from fun i hi => by
        obtain ⟨y, g, off, u, hy, hA, _, hc, hu⟩ := hown.slInts.at_ hi
        have hu' : u = .int .i64 y := hu
        subst hu'
        rw [HWd.out i hi] at hy
        cases hy
        exact ⟨g, off, hA, hc⟩)
      clear hown hwl hbw Hown Hob
      rcases typed_cases x.op with h | h | h | h | h | h | h
      · have hj2 : (j : Int) = 2 := by rw [Hlen.out]; unfold T.ar; rw [if_neg (by omega), if_pos (by omega)]
        have hjn : j = 2 := by omega
        subst hjn
        clear hj2
        have hop0 : (x.op == 0) = false := by simp; omega
        have hop1 : (x.op == 33) = false := by simp; omega
        have hop14 : (x.op == 14) = false := by simp; omega
        have hop15 : (x.op == 15) = false := by simp; omega
        have hop16 : (x.op == 16) = false := by simp; omega
        have hop17 : (x.op == 17) = false := by simp; omega
        have hop18 : (x.op == 18) = false := by simp; omega
        obtain ⟨g, off, hAv, l0⟩ := HL.out 0 (by omega)
        rw [Nat.add_zero] at l0
        obtain ⟨g1, off1, hA1, l1⟩ := HL.out 1 (by omega)
        rw [hAv] at hA1
        injection hA1 with hA1
        injection hA1 with e1 e2
        subst e1 e2
        subst hAv
        obtain ⟨a0, ha0⟩ : ∃ a0, a0 = Wd 0 := ⟨_, rfl⟩
        rw [← ha0] at l0
        obtain ⟨a1, ha1⟩ : ∃ a1, a1 = Wd 1 := ⟨_, rfl⟩
        rw [← ha1] at l1
        have h9 := Hsh.out
        rw [typed_13 h, ← HWde.out, ← ha0, ← ha1] at h9
        clear ha0 ha1
        clear h
        by_cases e0 : a0 = x.w
        · have z0 : (a0 == x.w) = true := by simpa using e0
          have Hf := Lib.hid (show sh = (a1 == x.w) from by rw [h9, decide_eq_true e0, Bool.true_and]; by_cases h : a1 = x.w <;> simp [h])
          clear e0 h9
          go_wp2
          go_quiet (fail)
          go_wp2
          go_ret
          exact ⟨ret_bool Hf.out.symm, Hb9.out.dr ⟨_, rfl⟩⟩
        · have z0 : (a0 == x.w) = false := by simpa using e0
          have Hf := Lib.hid (show sh = false from by rw [h9, decide_eq_false e0, Bool.false_and])
          clear e0 h9
          go_wp2
          go_quiet (fail)
          go_wp2
          go_ret
          exact ⟨ret_bool Hf.out.symm, Hb9.out.dr ⟨_, rfl⟩⟩
      · have hj2 : (j : Int) = 2 := by rw [Hlen.out]; unfold T.ar; rw [if_neg (by omega), if_pos (by omega)]
        have hjn : j = 2 := by omega
        subst hjn
        clear hj2
        have hop0 : (x.op == 0) = false := by simp; omega
        have hop1 : (x.op == 33) = false := by simp; omega
        have hop14 : (x.op == 14) = true := by simp; omega
        obtain ⟨g, off, hAv, l0⟩ := HL.out 0 (by omega)
        rw [Nat.add_zero] at l0
        obtain ⟨g1, off1, hA1, l1⟩ := HL.out 1 (by omega)
        rw [hAv] at hA1
        injection hA1 with hA1
        injection hA1 with e1 e2
        subst e1 e2
        subst hAv
        obtain ⟨a0, ha0⟩ : ∃ a0, a0 = Wd 0 := ⟨_, rfl⟩
        rw [← ha0] at l0
        obtain ⟨a1, ha1⟩ : ∃ a1, a1 = Wd 1 := ⟨_, rfl⟩
        rw [← ha1] at l1
        have h9 := Hsh.out
        rw [typed_14 h, ← HWde.out, ← ha0, ← ha1] at h9
        clear ha0 ha1
        have Hf := Lib.hid (show sh = (a0 == a1) from by rw [h9]; by_cases h : a0 = a1 <;> simp [h])
        clear h h9
        go_wp2
        go_quiet (fail)
        go_wp2
        go_ret
        exact ⟨ret_bool Hf.out.symm, Hb9.out.dr ⟨_, rfl⟩⟩
      · have hj3 : (j : Int) = 3 := by rw [Hlen.out]; unfold T.ar; rw [if_neg (by omega), if_neg (by omega), if_pos (by omega)]
        have hjn : j = 3 := by omega
        subst hjn
        clear hj3
        have hop0 : (x.op == 0) = false := by simp; omega
        have hop1 : (x.op == 33) = false := by simp; omega
        have hop14 : (x.op == 14) = false := by simp; omega
        have hop15 : (x.op == 15) = true := by simp; omega
        obtain ⟨g, off, hAv, l0⟩ := HL.out 0 (by omega)
        rw [Nat.add_zero] at l0
        obtain ⟨g1, off1, hA1, l1⟩ := HL.out 1 (by omega)
        rw [hAv] at hA1
        injection hA1 with hA1
        injection hA1 with e1 e2
        subst e1 e2
        obtain ⟨g2, off2, hA2, l2⟩ := HL.out 2 (by omega)
        rw [hAv] at hA2
        injection hA2 with hA2
        injection hA2 with e1 e2
        subst e1 e2
        subst hAv
        obtain ⟨a0, ha0⟩ : ∃ a0, a0 = Wd 0 := ⟨_, rfl⟩
        rw [← ha0] at l0
        obtain ⟨a1, ha1⟩ : ∃ a1, a1 = Wd 1 := ⟨_, rfl⟩
        rw [← ha1] at l1
        obtain ⟨a2, ha2⟩ : ∃ a2, a2 = Wd 2 := ⟨_, rfl⟩
        rw [← ha2] at l2
        have h9 := Hsh.out
        rw [typed_15 h, ← HWde.out, ← ha0, ← ha1, ← ha2] at h9
        clear ha0 ha1 ha2
        clear h
        by_cases e0 : a0 = 1
        · have z0 : (a0 == 1) = true := by simpa using e0
          by_cases e1 : a1 = x.w
          · have z1 : (a1 == x.w) = true := by simpa using e1
            have Hf := Lib.hid (show sh = (a2 == x.w) from by rw [h9, decide_eq_true e0, decide_eq_true e1, Bool.true_and, Bool.true_and]; by_cases h : a2 = x.w <;> simp [h])
            clear e0 e1 h9
            go_wp2
            go_quiet (fail)
            go_wp2
            go_ret
            exact ⟨ret_bool Hf.out.symm, Hb9.out.dr ⟨_, rfl⟩⟩
          · have z1 : (a1 == x.w) = false := by simpa using e1
            have Hf := Lib.hid (show sh = false from by rw [h9, decide_eq_false e1, Bool.and_false, Bool.false_and])
            clear e0 e1 h9
            go_wp2
            go_quiet (fail)
            go_wp2
            go_ret
            exact ⟨ret_bool Hf.out.symm, Hb9.out.dr ⟨_, rfl⟩⟩
        · have z0 : (a0 == 1) = false := by simpa using e0
          have Hf := Lib.hid (show sh = false from by rw [h9, decide_eq_false e0, Bool.false_and, Bool.false_and])
          clear e0 h9
          go_wp2
          go_quiet (fail)
          go_wp2
          go_ret
          exact ⟨ret_bool Hf.out.symm, Hb9.out.dr ⟨_, rfl⟩⟩
      · have hj1 : (j : Int) = 1 := by rw [Hlen.out]; unfold T.ar; rw [if_neg (by omega), if_neg (by omega), if_neg (by omega), if_pos (by omega)]
        have hjn : j = 1 := by omega
        subst hjn
        clear hj1
        have hop0 : (x.op == 0) = false := by simp; omega
        have hop1 : (x.op == 33) = false := by simp; omega
        have hop14 : (x.op == 14) = false := by simp; omega
        have hop15 : (x.op == 15) = false := by simp; omega
        have hop16 : (x.op == 16) = true := by simp; omega
        obtain ⟨g, off, hAv, l0⟩ := HL.out 0 (by omega)
        rw [Nat.add_zero] at l0
        subst hAv
        obtain ⟨a0, ha0⟩ : ∃ a0, a0 = Wd 0 := ⟨_, rfl⟩
        rw [← ha0] at l0
        have h9 := Hsh.out
        rw [typed_16 (.inl h), ← HWde.out, ← ha0] at h9
        clear ha0
        have Hf := Lib.hid (show sh = decide (a0 < x.w) from h9)
        clear h h9
        go_wp2
        go_quiet (fail)
        go_wp2
        go_ret
        exact ⟨ret_bool Hf.out.symm, Hb9.out.dr ⟨_, rfl⟩⟩
      · have hj1 : (j : Int) = 1 := by rw [Hlen.out]; unfold T.ar; rw [if_neg (by omega), if_neg (by omega), if_neg (by omega), if_pos (by omega)]
        have hjn : j = 1 := by omega
        subst hjn
        clear hj1
        have hop0 : (x.op == 0) = false := by simp; omega
        have hop1 : (x.op == 33) = false := by simp; omega
        have hop14 : (x.op == 14) = false := by simp; omega
        have hop15 : (x.op == 15) = false := by simp; omega
        have hop16 : (x.op == 16) = false := by simp; omega
        have hop17 : (x.op == 17) = true := by simp; omega
        obtain ⟨g, off, hAv, l0⟩ := HL.out 0 (by omega)
        rw [Nat.add_zero] at l0
        subst hAv
        obtain ⟨a0, ha0⟩ : ∃ a0, a0 = Wd 0 := ⟨_, rfl⟩
        rw [← ha0] at l0
        have h9 := Hsh.out
        rw [typed_16 (.inr h), ← HWde.out, ← ha0] at h9
        clear ha0
        have Hf := Lib.hid (show sh = decide (a0 < x.w) from h9)
        clear h h9
        go_wp2
        go_quiet (fail)
        go_wp2
        go_ret
        exact ⟨ret_bool Hf.out.symm, Hb9.out.dr ⟨_, rfl⟩⟩
      · have hj1 : (j : Int) = 1 := by rw [Hlen.out]; unfold T.ar; rw [if_neg (by omega), if_neg (by omega), if_neg (by omega), if_pos (by omega)]
        have hjn : j = 1 := by omega
        subst hjn
        clear hj1
        have hop0 : (x.op == 0) = false := by simp; omega
        have hop1 : (x.op == 33) = false := by simp; omega
        have hop14 : (x.op == 14) = false := by simp; omega
        have hop15 : (x.op == 15) = false := by simp; omega
        have hop16 : (x.op == 16) = false := by simp; omega
        have hop17 : (x.op == 17) = false := by simp; omega
        have hop18 : (x.op == 18) = true := by simp; omega
        obtain ⟨g, off, hAv, l0⟩ := HL.out 0 (by omega)
        rw [Nat.add_zero] at l0
        subst hAv
        obtain ⟨a0, ha0⟩ : ∃ a0, a0 = Wd 0 := ⟨_, rfl⟩
        rw [← ha0] at l0
        have h9 := Hsh.out
        rw [typed_18 h, ← HWde.out, ← ha0] at h9
        clear ha0
        have Hf := Lib.hid (show sh = decide (x.w < a0) from h9)
        clear h h9
        go_wp2
        go_quiet (fail)
        go_wp2
        go_ret
        exact ⟨ret_bool Hf.out.symm, Hb9.out.dr ⟨_, rfl⟩⟩
      · have Hf := Lib.hid (show sh = true from by rw [Hsh.out, typed_else h])
        have h033 : x.op = 0 ∨ x.op = 33 := by
          have := Har.out
          rcases ar_cases x.op with h1 | h1 | h1 | h1 | h1 | h1 <;> omega
        clear h
        rcases h033 with h | h
        · have hop0 : (x.op == 0) = true := by simpa using h
          clear h
          go_wp2
          go_ret
          exact ⟨ret_bool Hf.out.symm, Hb9.out⟩
        · have hop0 : (x.op == 0) = false := by simp; omega
          have hop1 : (x.op == 33) = true := by simpa using h
          clear h
          go_wp2
          go_ret
          exact ⟨ret_bool Hf.out.symm, Hb9.out⟩
end Go.Proofs.YtcmlmjbpdaecbaaGreat
end
