/- Merged: RZ3, RZ5. -/
import Derived.Test.YtbiopedpceddeaaGreatDoorL31
set_option linter.unusedVariables false
set_option linter.unusedSimpArgs false
section
namespace Go.Proofs.YtbiopedpceddeaaGreatDoor
open Go.RowKit
set_option linter.unusedVariables false
set_option linter.unusedSimpArgs false

/-- the first half of the question -/
def R.pre1 (x : T.Nd) : Bool := decide (0 ≤ R.par x.op) && decide ((x.args.length : Int) = R.par x.op) && decide (0 ≤ x.w) && decide (x.w ≤ 32) && R.flOk x.op x.fl
theorem R.pnode_pre (p : List T.Nd) (right : Bool) (k : Nat) (x : T.Nd) : R.pnode p right k x = (R.pre1 x && T.argsOk k x.args && R.pimmOk p right x) := rfl

set_option maxRecDepth 100000 in
set_option maxHeartbeats 4000000 in
theorem rargument_pat {p : List T.Nd} {n cp k : Nat} {Ap : Option Addr} {left : Bool} {W : World} (hP : StAt 5 NdR W Ap n p) (hk : k < n) (x : T.Nd) (hx : p[k]? = some x) :
    Calls Tryz.prog 66 #[.slice Ap n cp, .int .i64 (k : Int), .bool left] W fun e W' => e = .returned (.bool (R.pnode p (!left) k x)) ∧ Below W.heap.size W W' := by
  have hle := hP.le
  obtain ⟨x', b, off, A, c, hx', rfl, hb, h0, h1, h2, h3, h4, hs, i0, i1⟩ := nd_cells hP hk
  rw [hx] at hx'
  cases hx'
  obtain ⟨W1, hW1⟩ : ∃ W1, W1 = W.alloc (.cells #[.int .i64 x.op, .int .i64 x.w, .int .i64 x.fl, .slice A x.args.length c, .int .u32 x.imm] 62) := ⟨_, rfl⟩
  have hb1 : Below W.heap.size W W1 := by rw [hW1]; exact (Below.refl _ _).alloc (Nat.le_refl _) _
  have hrow : W1.heap[W.heap.size]? = some (.cells #[.int .i64 x.op, .int .i64 x.w, .int .i64 x.fl, .slice A x.args.length c, .int .u32 x.imm] 62 (0, 0)) := by rw [hW1]; exact heap_alloc_new W _
  have Hrow := Lib.hid (fun (X : World) (h : Below W1.heap.size W1 X) => (h.block _ (Array.getElem?_eq_some_iff.1 hrow).1).trans hrow)
  have Hb1 := Lib.hid hb1
  have HP := Lib.hid (hP.below monoNd hb1)
  have HA := Lib.hid (hs.below (monoInt _) hb1)
  have HW1 := Lib.hid hW1
  have Hv := Lib.hid (R.pnode_pre p (!left) k x)
  have Hpre := Lib.hid (show R.pre1 x = (decide (0 ≤ R.par x.op) && decide ((x.args.length : Int) = R.par x.op) && decide (0 ≤ x.w) && decide (x.w ≤ 32) && R.flOk x.op x.fl) from rfl)
  have Hfl := Lib.hid (fun X => rflagsOf_any x A c X)
  have Hi := Lib.hid (show 0 ≤ x.imm ∧ x.imm < 4294967296 from ⟨i0, i1⟩)
  have Him := Lib.hid (show R.pimmOk p (!left) x = if x.op = 0 then decide (x.w = 0) || B.isW x.w x.imm
    else if x.op = 33 ∨ x.op = 34 then decide (x.w = 0) && decide (x.imm < 2)
    else if x.op = 35 then (!left) && decide (x.w = 0) && decide (x.imm = 0) && decide ((p.getD (x.args.getD 0 0).toNat default).op = 34)
    else if x.op = 14 then decide (x.w = 1) && decide (x.imm ≤ 9)
    else decide (x.imm = 0) from rfl)
  have Hpar := Lib.hid (show R.par 35 = 1 from by decide)
  obtain ⟨op, w, fl, args, imm⟩ := x
  unfold ndV at Hfl
  dsimp only at *
  obtain ⟨pr, hpr⟩ : ∃ pr, R.par op = pr := ⟨_, rfl⟩
  obtain ⟨fo, hfo⟩ : ∃ fo, R.flOk op fl = fo := ⟨_, rfl⟩
  rw [hpr, hfo] at Hpre
  rw [hfo] at Hfl
  have Hpr := Lib.hid hpr
  have hall : args.length ≤ 9223372036854775807 := HA.out.le
  clear hP hb1 hW1 hrow hb hs i0 i1 hx hpr hfo
  go_enter Tryz.func66, Tryz.ntmps66
  go_upto_region 2 with (fail)
  rw [← HW1.out]
  clear h0 h1 h2 h3 h4
  obtain ⟨pb, hpb⟩ : ∃ pb, R.pre1 ⟨op, w, fl, args, imm⟩ = pb := ⟨_, rfl⟩
  rw [hpb] at Hpre Hv
  clear hpb
  go_cut [40] (fun s40 wx => s40 = .bool (!pb) ∧ Hid (Below W1.heap.size W1 wx))
  case first =>
    obtain ⟨x0, x1, x2, x3, x4⟩ := nd5_cells (Hrow.out W1 (Below.refl _ _))
    obtain ⟨ov⟩ := ov_ex W1
    have o0 := ov.cell x0
    have o1 := ov.cell x1
    have o2 := ov.cell x2
    have o3 := ov.cell x3
    have o4 := ov.cell x4
    have HQ1 := Lib.hid (show ∀ u, Calls Tryz.prog 131 #[.int .i64 op] (ov.f u) (fun e w' => e = .returned (.int .i64 pr) ∧ ∃ m, w' = ov.f m) from fun u => by
      have := rargs_any op (ov.f u)
      rw [Hpr.out] at this
      exact calls_over_same this)
    have HQ2 := Lib.hid (fun u => calls_over (ov := ov) (Hfl.out (ov.f u)))
    have Hov := Lib.hid (fun u => ov.below u)
    clear x0 x1 x2 x3 x4
    by_cases c1 : pr < 0
    · have q : decide (pr < 0) = true := by simpa using c1
      have He := Lib.hid (show pb = false from by rw [Hpre.out, decide_eq_false (by omega)]; simp)
      clear c1
      refine wp_region_ovq ov (by kernel_rfl) (by kernel_rfl) ?_
      repeat (go_big_quiet_step ((first | (go_at_call 131; with_reducible exact HQ1.out _) | (go_at_call 109; with_reducible exact HQ2.out _))))
      refine wpQuiet_nil ?_
      rintro _ ⟨u, rfl⟩
      go_wp2_with fail
      go_meet
      exact ⟨by rw [He.out]; rfl, Lib.hid (Hov.out u)⟩
    have q1 : decide (pr < 0) = false := by simpa using c1
    by_cases c2 : pr = (args.length : Int)
    rotate_left
    · have q2 : (pr != (args.length : Int)) = true := by simpa using c2
      have He := Lib.hid (show pb = false from by rw [Hpre.out, decide_eq_false (show ¬ (args.length : Int) = pr from fun h => c2 h.symm)]; simp)
      clear c1 c2
      refine wp_region_ovq ov (by kernel_rfl) (by kernel_rfl) ?_
      repeat (go_big_quiet_step ((first | (go_at_call 131; with_reducible exact HQ1.out _) | (go_at_call 109; with_reducible exact HQ2.out _))))
      refine wpQuiet_nil ?_
      rintro _ ⟨u, rfl⟩
      go_wp2_with fail
      go_meet
      exact ⟨by rw [He.out]; rfl, Lib.hid (Hov.out u)⟩
    have q2 : (pr != (args.length : Int)) = false := by simpa using c2
    by_cases c3 : w < 0
    · have q3 : decide (w < 0) = true := by simpa using c3
      have He := Lib.hid (show pb = false from by rw [Hpre.out, decide_eq_false (show ¬ 0 ≤ w by omega)]; simp)
      clear c1 c2 c3
      refine wp_region_ovq ov (by kernel_rfl) (by kernel_rfl) ?_
      repeat (go_big_quiet_step ((first | (go_at_call 131; with_reducible exact HQ1.out _) | (go_at_call 109; with_reducible exact HQ2.out _))))
      refine wpQuiet_nil ?_
      rintro _ ⟨u, rfl⟩
      go_wp2_with fail
      go_meet
      exact ⟨by rw [He.out]; rfl, Lib.hid (Hov.out u)⟩
    have q3 : decide (w < 0) = false := by simpa using c3
    by_cases c4 : 32 < w
    · have q4 : decide (32 < w) = true := by simpa using c4
      have He := Lib.hid (show pb = false from by rw [Hpre.out, decide_eq_false (show ¬ w ≤ 32 by omega)]; simp)
      clear c1 c2 c3 c4
      refine wp_region_ovq ov (by kernel_rfl) (by kernel_rfl) ?_
      repeat (go_big_quiet_step ((first | (go_at_call 131; with_reducible exact HQ1.out _) | (go_at_call 109; with_reducible exact HQ2.out _))))
      refine wpQuiet_nil ?_
      rintro _ ⟨u, rfl⟩
      go_wp2_with fail
      go_meet
      exact ⟨by rw [He.out]; rfl, Lib.hid (Hov.out u)⟩
    have q4 : decide (32 < w) = false := by simpa using c4
    have He := Lib.hid (show pb = fo from by rw [Hpre.out, decide_eq_true (show 0 ≤ pr by omega), decide_eq_true c2.symm, decide_eq_true (show 0 ≤ w by omega), decide_eq_true (show w ≤ 32 by omega)]; rfl)
    clear c1 c2 c3 c4
    refine wp_region_ovq ov (by kernel_rfl) (by kernel_rfl) ?_
    repeat (go_big_quiet_step ((first | (go_at_call 131; with_reducible exact HQ1.out _) | (go_at_call 109; with_reducible exact HQ2.out _))))
    refine wpQuiet_nil ?_
    rintro _ ⟨u, rfl⟩
    go_wp2_with fail
    go_meet
    exact ⟨by rw [He.out], Lib.hid (Hov.out u)⟩
  case rest =>
  obtain ⟨rfl, Hb2⟩ := hcut
  obtain ⟨W2, hW2⟩ : ∃ W2, W2 = wc := ⟨_, rfl⟩
  rw [← hW2] at Hb2 ⊢
  clear hW2
  have Hb02 := Lib.hid (Hb1.out.trans (Hb2.out.mono Hb1.out.size))
  cases pb with
  | false =>
    have He := Lib.hid (show R.pnode p (!left) k ⟨op, w, fl, args, imm⟩ = false from by rw [Hv.out]; simp)
    go_wp2
    go_ret
    exact ⟨ret_bool He.out.symm, Hb02.out⟩
  | true =>
  have Hv2 := Lib.hid (show R.pnode p (!left) k ⟨op, w, fl, args, imm⟩ = (T.argsOk k args && R.pimmOk p (!left) ⟨op, w, fl, args, imm⟩) from by rw [Hv.out]; simp)
  have Hlen := Lib.hid (show (args.length : Int) = pr ∧ 0 ≤ w from by
    have := Hpre.out.symm
    simp only [Bool.and_eq_true, decide_eq_true_eq] at this
    exact ⟨this.1.1.1.2, this.1.1.2⟩)
  obtain ⟨x0, x1, x2, x3, x4⟩ := nd5_cells (Hrow.out W2 Hb2.out)
  have HA2 := Lib.hid (HA.out.below (monoInt _) Hb2.out)
  have HP2 := Lib.hid (HP.out.below monoNd Hb2.out)
  have HX1 := Lib.hid x1
  have HX0 := Lib.hid x0
  have HX4 := Lib.hid x4
  have HX3 := Lib.hid x3
  go_wp2
  clear x0 x1 x2 x4
  go_loop [8] (fun i => ∃ j : Nat, j ≤ args.length ∧ i = .int .i64 (j : Int) ∧ Hid ((args.take j).all (fun a => decide (0 ≤ a) && decide (a < (k : Int))) = true)) (fun i => args.length - (intOf i).toNat)
  case atStart => exact ⟨0, Nat.zero_le _, rfl, Lib.hid rfl⟩
  case round =>
    obtain ⟨j, hj, rfl, Hall⟩ := hrel
    by_cases hlt : j < args.length
    · obtain ⟨a, ba, offa, ua, ha, rfl, hba, hca, rfl⟩ := HA2.out.at_ hlt
      by_cases a0 : a < 0
      · have q1 : decide (a < 0) = true := by simpa using a0
        have Ht := Lib.hid (show R.pnode p (!left) k ⟨op, w, fl, args, imm⟩ = false from by
          have : T.argsOk k args = false := by
            unfold T.argsOk
            rw [List.all_eq_false]
            exact ⟨a, List.mem_of_getElem? ha, by simp; omega⟩
          rw [Hv2.out, this]; rfl)
        clear ha hba a0
        go_wp2
        go_ret
        exact ⟨ret_bool Ht.out.symm, Hb02.out⟩
      have q1 : decide (a < 0) = false := by simpa using a0
      by_cases a1 : (k : Int) ≤ a
      · have q2 : decide ((k : Int) ≤ a) = true := by simpa using a1
        have Ht := Lib.hid (show R.pnode p (!left) k ⟨op, w, fl, args, imm⟩ = false from by
          have : T.argsOk k args = false := by
            unfold T.argsOk
            rw [List.all_eq_false]
            exact ⟨a, List.mem_of_getElem? ha, by simp; omega⟩
          rw [Hv2.out, this]; rfl)
        clear ha hba a0 a1
        go_wp2
        go_ret
        exact ⟨ret_bool Ht.out.symm, Hb02.out⟩
      · have q2 : decide ((k : Int) ≤ a) = false := by simpa using a1
        have Ht := Lib.hid (show (args.take (j + 1)).all (fun a => decide (0 ≤ a) && decide (a < (k : Int))) = true from by
          rw [take_next ha, List.all_append, Hall.out]
          simp; omega)
        clear ha hba a0 a1
        go_wp2
        go_round
        case rel => exact ⟨j + 1, by omega, by go_num, Ht⟩
        case measure => simp [intOf]; omega
    · obtain rfl : j = args.length := by omega
      have Hargs := Lib.hid (show T.argsOk k args = true from by
        have := Hall.out
        rw [List.take_of_length_le (Nat.le_refl _)] at this
        exact this)
      have Hv3 := Lib.hid (show R.pnode p (!left) k ⟨op, w, fl, args, imm⟩ = R.pimmOk p (!left) ⟨op, w, fl, args, imm⟩ from by rw [Hv2.out, Hargs.out]; rfl)
      have x0 := HX0.out
      have x1 := HX1.out
      have x4 := HX4.out
      by_cases e0 : op = 0
      · subst e0
        have Hv4 := Lib.hid (show R.pnode p (!left) k ⟨0, w, fl, args, imm⟩ = (decide (w = 0) || B.isW w imm) from by rw [Hv3.out, Him.out]; rfl)
        by_cases w0 : w = 0
        · have q : (w == 0) = true := by simpa using w0
          have He := Lib.hid (show R.pnode p (!left) k ⟨0, w, fl, args, imm⟩ = true from by rw [Hv4.out, decide_eq_true w0]; rfl)
          clear w0 hlt
          go_wp2
          go_ret
          exact ⟨ret_bool He.out.symm, Hb02.out⟩
        · have q : (w == 0) = false := by simpa using w0
          have He := Lib.hid (show R.pnode p (!left) k ⟨0, w, fl, args, imm⟩ = B.isW w imm from by rw [Hv4.out, decide_eq_false w0]; rfl)
          have HI := Lib.hid (isWord_any w imm W2 Hi.out.1 Hi.out.2)
          clear w0 hlt
          go_wp2_with fail
          (with_reducible refine HI.out.mono ?_)
          rintro e w3 ⟨rfl, rfl⟩
          go_wp2
          go_ret
          exact ⟨ret_bool He.out.symm, Hb02.out⟩
      have qo0 : (op == 0) = false := by simpa using e0
      by_cases e1 : op = 33 ∨ op = 34
      · have Hv4 := Lib.hid (show R.pnode p (!left) k ⟨op, w, fl, args, imm⟩ = (decide (w = 0) && decide (imm < 2)) from by rw [Hv3.out, Him.out, if_neg e0, if_pos e1])
        by_cases w0 : w = 0
        · have q : (w == 0) = true := by simpa using w0
          have He := Lib.hid (show R.pnode p (!left) k ⟨op, w, fl, args, imm⟩ = decide (imm < 2) from by rw [Hv4.out, decide_eq_true w0]; rfl)
          have He2 := Lib.hid (show R.pnode p (!left) k ⟨op, w, fl, args, imm⟩ = decide (imm ≤ 1) from by rw [He.out, decide_eq_decide]; omega)
          clear w0 hlt
          by_cases e2 : op = 33
          · have qo1 : (op == 33) = true := by simpa using e2
            clear e0 e1 e2
            go_wp2
            go_ret
            exact ⟨ret_bool He2.out.symm, Hb02.out⟩
          · have qo1 : (op == 33) = false := by simpa using e2
            have qo2 : (op == 34) = true := by simp; omega
            clear e0 e1 e2
            go_wp2
            go_ret
            exact ⟨ret_bool He.out.symm, Hb02.out⟩
        · have q : (w == 0) = false := by simpa using w0
          have He := Lib.hid (show R.pnode p (!left) k ⟨op, w, fl, args, imm⟩ = false from by rw [Hv4.out, decide_eq_false w0]; rfl)
          clear w0 hlt
          by_cases e2 : op = 33
          · have qo1 : (op == 33) = true := by simpa using e2
            clear e0 e1 e2
            go_wp2
            go_ret
            exact ⟨ret_bool He.out.symm, Hb02.out⟩
          · have qo1 : (op == 33) = false := by simpa using e2
            have qo2 : (op == 34) = true := by simp; omega
            clear e0 e1 e2
            go_wp2
            go_ret
            exact ⟨ret_bool He.out.symm, Hb02.out⟩
      have qo1 : (op == 33) = false := by simp; omega
      have qo2 : (op == 34) = false := by simp; omega
      by_cases e2 : op = 35
      · subst e2
        have Hv4 := Lib.hid (show R.pnode p (!left) k ⟨35, w, fl, args, imm⟩ = ((!left) && decide (w = 0) && decide (imm = 0) && decide ((p.getD (args.getD 0 0).toNat default).op = 34)) from by rw [Hv3.out, Him.out]; rfl)
        have hl1 : args.length = 1 := by have h1 := Hlen.out.1; have h2 := Hpr.out; have h3 := Hpar.out; omega
        obtain ⟨a, ba, offa, ua, ha, rfl, hba, hca, rfl⟩ := HA2.out.at_ (show 0 < args.length by omega)
        have hax : 0 ≤ a ∧ a < (k : Int) := by
          have := Hargs.out
          unfold T.argsOk at this
          have := List.all_eq_true.1 this a (List.mem_of_getElem? ha)
          simpa using this
        obtain ⟨an, rfl⟩ : ∃ an : Nat, a = an := ⟨a.toNat, by omega⟩
        obtain ⟨y, by_, offy, Ay, cy, hy, hbe, hby, y0, _, _, _, _, _, _, _⟩ := nd_cells HP2.out (show an < n by omega)
        injection hbe with hbe
        injection hbe with hbe1 hbe2 _
        subst hbe1
        subst hbe2
        have hag : (p.getD (args.getD 0 0).toNat default).op = y.op := by
          have e : args.getD 0 0 = (an : Int) := by rw [List.getD_eq_getElem?_getD, ha]; rfl
          rw [e, Int.toNat_natCast, List.getD_eq_getElem?_getD, hy]; rfl
        rw [hag] at Hv4
        rw [Nat.add_zero] at hca
        have hl2 : (0 : Int) < (args.length : Int) := by omega
        have x3 := HX3.out
        clear ha hba hy hby hag hlt hl1
        cases left with
        | true =>
          have He := Lib.hid (show R.pnode p (!true) k ⟨35, w, fl, args, imm⟩ = false from by rw [Hv4.out]; rfl)
          go_wp2
          go_ret
          exact ⟨ret_bool He.out.symm, Hb02.out⟩
        | false =>
          by_cases w0 : w = 0
          rotate_left
          · have q : (w == 0) = false := by simpa using w0
            have He := Lib.hid (show R.pnode p (!false) k ⟨35, w, fl, args, imm⟩ = false from by rw [Hv4.out, decide_eq_false w0]; rfl)
            clear w0
            go_wp2
            go_ret
            exact ⟨ret_bool He.out.symm, Hb02.out⟩
          have q : (w == 0) = true := by simpa using w0
          by_cases m0 : imm = 0
          rotate_left
          · have q2 : (imm == 0) = false := by simpa using m0
            have He := Lib.hid (show R.pnode p (!false) k ⟨35, w, fl, args, imm⟩ = false from by rw [Hv4.out, decide_eq_false m0]; simp)
            clear w0 m0
            go_wp2
            go_ret
            exact ⟨ret_bool He.out.symm, Hb02.out⟩
          have q2 : (imm == 0) = true := by simpa using m0
          have He := Lib.hid (show R.pnode p (!false) k ⟨35, w, fl, args, imm⟩ = (y.op == 34) from by rw [Hv4.out, decide_eq_true w0, decide_eq_true m0, dec_beq]; rfl)
          clear w0 m0
          go_wp2
          go_ret
          exact ⟨ret_bool He.out.symm, Hb02.out⟩
      have qo3 : (op == 35) = false := by simpa using e2
      by_cases e3 : op = 14
      · subst e3
        have Hv4 := Lib.hid (show R.pnode p (!left) k ⟨14, w, fl, args, imm⟩ = (decide (w = 1) && decide (imm ≤ 9)) from by rw [Hv3.out, Him.out]; rfl)
        clear hlt e0 e1 e2
        by_cases w0 : w = 1
        · have q : (w == 1) = true := by simpa using w0
          have He := Lib.hid (show R.pnode p (!left) k ⟨14, w, fl, args, imm⟩ = decide (imm ≤ 9) from by rw [Hv4.out, decide_eq_true w0]; rfl)
          clear w0
          go_wp2
          go_ret
          exact ⟨ret_bool He.out.symm, Hb02.out⟩
        · have q : (w == 1) = false := by simpa using w0
          have He := Lib.hid (show R.pnode p (!left) k ⟨14, w, fl, args, imm⟩ = false from by rw [Hv4.out, decide_eq_false w0]; rfl)
          clear w0
          go_wp2
          go_ret
          exact ⟨ret_bool He.out.symm, Hb02.out⟩
      · have qo4 : (op == 14) = false := by simpa using e3
        have He := Lib.hid (show R.pnode p (!left) k ⟨op, w, fl, args, imm⟩ = (imm == 0) from by rw [Hv3.out, Him.out, if_neg e0, if_neg e1, if_neg e2, if_neg e3, dec_beq])
        clear hlt e0 e1 e2 e3
        go_wp2
        go_ret
        exact ⟨ret_bool He.out.symm, Hb02.out⟩
end Go.Proofs.YtbiopedpceddeaaGreatDoor
end
section
namespace Go.Proofs.YtbiopedpceddeaaGreatDoor
open Go.RowKit
set_option linter.unusedVariables false
set_option linter.unusedSimpArgs false

/-- a block of nodes turns: what the operands are stays -/
theorem NdF.other' {B : Nat} {w w' : World} {us : List Value} {x : T.Nd} {row : Option Nat} (h : NdF B w us x) (hg : w.grownBy w' row) (hr : ∀ g cur T fr, row = some g → w.heap[g]? = some (.cells cur T fr) → T = 62) : NdF B w' us x := by
  obtain ⟨A, c, h1, h2, h3, h4, h5⟩ := h
  refine ⟨A, c, h1, h2.same fun g hg' => ?_, h3, h4, h5⟩
  rcases h2.2 with ⟨e, _⟩ | ⟨g', off, cap, cur, e, hcur, _⟩
  · rw [e] at hg'; simp [Value.ownBlock] at hg'
  · rw [e] at hg'
    simp [Value.ownBlock] at hg'
    subst hg'
    exact hg.block _ (Array.getElem?_eq_some_iff.1 hcur).1 (fun e => by have := hr _ cur _ _ e.symm hcur; revert this; decide)

/-- a node of an own list is put anew -/
theorem OwnR.put {B g off n c k : Nat} {w w' : World} {nds : List T.Nd} {cur cur' : Array Value} {y : T.Nd} {A2 : Option Addr} {c2 : Nat} (h : OwnR (NdF B) B w (.slice (some ⟨g, off, none⟩) n c) nds) (hn : nds.length = n) (hk : k < n) (hg : w.heap[g]? = some (.cells cur 62 (0, 0))) (hw : w.grownBy w' (some g)) (hrow : w'.heap[g]? = some (.cells cur' 62 (0, 0)))
    (hsz : cur'.size = cur.size) (hsame : ∀ j, (j < off + k * 5 ∨ off + k * 5 + 5 ≤ j) → cur'[j]? = cur[j]?) (hnew : ∀ i u, (ndC y A2 c2)[i]? = some u → cur'[off + k * 5 + i]? = some u) (hy : NdF B w' (ndC y A2 c2) y) :
    OwnR (NdF B) B w' (.slice (some ⟨g, off, none⟩) n c) (nds.set k y) := by
  subst hn
  obtain ⟨cells, h1, h2, h3⟩ := h
  have hcl := h1.1
  rcases h1.2 with ⟨e, _⟩ | ⟨g', off', cap, cur0, e, hg0, q1, q2, q3, q4⟩
  · cases e
  cases e
  rw [hg] at hg0
  cases hg0
  have hlen5 : (ndC y A2 c2).length = 5 := rfl
  have hks : k * 5 + 5 ≤ nds.length * 5 := by omega
  have hother : ∀ g' cur T fr, some g = some g' → w.heap[g']? = some (.cells cur T fr) → T = 62 := fun g' cur T fr e hc => by
    injection e with e
    subst e
    rw [hg] at hc
    injection hc with hc
    injection hc with _ hc _
    exact hc.symm
  have key : ∀ j, (cells.take (k * 5) ++ ndC y A2 c2 ++ cells.drop (k * 5 + 5))[j]? = if j < k * 5 then cells[j]? else if j < k * 5 + 5 then (ndC y A2 c2)[j - k * 5]? else cells[j]? := fun j => by
    by_cases j1 : j < k * 5
    · rw [if_pos j1, List.append_assoc, List.getElem?_append_left (by rw [List.length_take]; omega), List.getElem?_take, if_pos j1]
    · rw [if_neg j1]
      by_cases j2 : j < k * 5 + 5
      · rw [if_pos j2, List.append_assoc, List.getElem?_append_right (by rw [List.length_take]; omega), List.getElem?_append_left (by rw [List.length_take, hlen5]; omega), List.length_take, Nat.min_eq_left (by omega)]
      · rw [if_neg j2, List.getElem?_append_right (by rw [List.length_append, List.length_take, hlen5]; omega), List.length_append, List.length_take, hlen5, Nat.min_eq_left (by omega), List.getElem?_drop]
        congr 1
        omega
  refine ⟨cells.take (k * 5) ++ ndC y A2 c2 ++ cells.drop (k * 5 + 5), ⟨?_, .inr ⟨g, off, c, cur', by rw [List.length_set], hrow, by rw [List.length_set]; exact q1, q2, by rw [hsz]; exact q3, fun j u hu => ?_⟩⟩, fun i x hx => ?_, h3⟩
  · rw [List.length_set, List.length_append, List.length_append, List.length_take, List.length_drop, hlen5]; omega
  · rw [key] at hu
    split at hu
    · rename_i j1
      rw [hsame _ (.inl (by omega))]
      exact q4 j u hu
    · rename_i j1
      split at hu
      · rename_i j2
        have := hnew (j - k * 5) u hu
        rw [show off + k * 5 + (j - k * 5) = off + j by omega] at this
        exact this
      · rename_i j2
        rw [hsame _ (.inr (by omega))]
        exact q4 j u hu
  · have hkl : ∀ i, ((cells.take (k * 5) ++ ndC y A2 c2 ++ cells.drop (k * 5 + 5)).drop (i * 5)).take 5 = if i = k then ndC y A2 c2 else (cells.drop (i * 5)).take 5 := fun i => by
      apply List.ext_getElem?
      intro q
      rw [List.getElem?_take, List.getElem?_drop, key]
      by_cases hq : q < 5
      · rw [if_pos hq]
        by_cases hik : i = k
        · subst hik
          rw [if_pos rfl, if_neg (by omega), if_pos (by omega)]
          congr 1
          omega
        · rw [if_neg hik, List.getElem?_take, if_pos hq, List.getElem?_drop]
          by_cases hlt : i < k
          · rw [if_pos (by omega)]
          · rw [if_neg (by omega), if_neg (by omega)]
      · rw [if_neg hq]
        split
        · rw [List.getElem?_eq_none (by rw [hlen5]; omega)]
        · rw [List.getElem?_take, if_neg hq]
    rw [hkl]
    by_cases hik : i = k
    · subst hik
      rw [if_pos rfl]
      rw [List.getElem?_set, if_pos rfl, if_pos (by omega)] at hx
      cases hx
      exact hy
    · rw [if_neg hik]
      rw [List.getElem?_set_ne (fun e => hik e.symm)] at hx
      exact NdF.other' (h2 i x hx) hw hother
end Go.Proofs.YtbiopedpceddeaaGreatDoor
end
