/- Rules: the reference's small questions: flagsOf, args, cond, names, typed, Long. -/
import Derived.Test.YtbiopedpceddeaaGreatDoorL30
set_option linter.unusedVariables false
set_option linter.unusedSimpArgs false
namespace Go.Proofs.YtbiopedpceddeaaGreatDoor
open Go.RowKit
set_option linter.unusedVariables false
set_option linter.unusedSimpArgs false

theorem dec_beq (a b : Int) : decide (a = b) = (a == b) := by rw [Bool.eq_iff_iff]; simp
theorem nd_box (W : World) (op w fl imm : Int) (A : Option Addr) (n c : Nat) : Below W.heap.size W (W.alloc (.cells #[.int .i64 op, .int .i64 w, .int .i64 fl, .slice A n c, .int .u32 imm] 62)) := (Below.refl _ _).alloc (Nat.le_refl _) _

set_option maxRecDepth 100000 in
set_option maxHeartbeats 1000000 in
theorem rflagsOf_any (x : T.Nd) (A : Option Addr) (c : Nat) (W : World) :
    Calls Tryz.prog 109 #[ndV x A c] W fun e W' => e = .returned (.bool (R.flOk x.op x.fl)) ∧ Below W.heap.size W W' := by
  obtain ⟨op, w, fl, args, imm⟩ := x
  unfold ndV
  dsimp only
  have Hb := Lib.hid (nd_box W op w fl imm A args.length c)
  by_cases h1 : op = 1 ∨ op = 2 ∨ op = 3 ∨ op = 11
  · have Hv := Lib.hid (show R.flOk op fl = (decide (0 ≤ fl) && decide (fl ≤ 3)) from by unfold R.flOk; rw [if_pos h1])
    by_cases h0 : 0 ≤ fl
    · have q : decide (0 ≤ fl) = true := by simpa using h0
      have Hv2 := Lib.hid (show R.flOk op fl = decide (fl ≤ 3) from by rw [Hv.out, q]; rfl)
      clear Hv h0
      rcases h1 with rfl | rfl | rfl | rfl
      all_goals
        go_enter Tryz.func109, Tryz.ntmps109
        go_wp2
        go_ret
        exact ⟨ret_bool Hv2.out.symm, Hb.out⟩
    · have q : decide (0 ≤ fl) = false := by simpa using h0
      have Hv2 := Lib.hid (show R.flOk op fl = false from by rw [Hv.out, q]; rfl)
      clear Hv h0
      rcases h1 with rfl | rfl | rfl | rfl
      all_goals
        go_enter Tryz.func109, Tryz.ntmps109
        go_wp2
        go_ret
        exact ⟨ret_bool Hv2.out.symm, Hb.out⟩
  by_cases h2 : op = 4 ∨ op = 6 ∨ op = 12 ∨ op = 13
  · have Hv := Lib.hid (show R.flOk op fl = (decide (fl = 0) || decide (fl = 4)) from by unfold R.flOk; rw [if_neg h1, if_pos h2])
    clear h1
    by_cases h0 : fl = 0
    · have q : (fl == 0) = true := by simpa using h0
      have Hv2 := Lib.hid (show R.flOk op fl = true from by rw [Hv.out, decide_eq_true h0]; rfl)
      clear Hv h0
      rcases h2 with rfl | rfl | rfl | rfl
      all_goals
        go_enter Tryz.func109, Tryz.ntmps109
        go_wp2
        go_ret
        exact ⟨ret_bool Hv2.out.symm, Hb.out⟩
    · have q : (fl == 0) = false := by simpa using h0
      have Hv2 := Lib.hid (show R.flOk op fl = (fl == 4) from by rw [Hv.out, decide_eq_false h0, Bool.false_or, dec_beq])
      clear Hv h0
      rcases h2 with rfl | rfl | rfl | rfl
      all_goals
        go_enter Tryz.func109, Tryz.ntmps109
        go_wp2
        go_ret
        exact ⟨ret_bool Hv2.out.symm, Hb.out⟩
  have Hv := Lib.hid (show R.flOk op fl = (fl == 0) from by unfold R.flOk; rw [if_neg h1, if_neg h2, dec_beq])
  have q1 : (op == 1) = false := by simp; omega
  have q2 : (op == 2) = false := by simp; omega
  have q3 : (op == 3) = false := by simp; omega
  have q4 : (op == 11) = false := by simp; omega
  have q5 : (op == 4) = false := by simp; omega
  have q6 : (op == 6) = false := by simp; omega
  have q7 : (op == 12) = false := by simp; omega
  have q8 : (op == 13) = false := by simp; omega
  clear h1 h2
  go_enter Tryz.func109, Tryz.ntmps109
  go_wp2
  go_ret
  exact ⟨ret_bool Hv.out.symm, Hb.out⟩

set_option maxRecDepth 100000 in
theorem rargs_any (op : Int) (W : World) : Calls Tryz.prog 131 #[.int .i64 op] W fun e W' => e = .returned (.int .i64 (R.par op)) ∧ W = W' := by
  by_cases h0 : op = 0 ∨ op = 33 ∨ op = 34 ∨ op = 35 ∨ op = 15
  · rcases h0 with rfl | rfl | rfl | rfl | rfl
    all_goals
      go_enter Tryz.func131, Tryz.ntmps131
      go_wp2
      go_ret
      exact ⟨ret_int (by decide), rfl⟩
  have q1 : (op == 0) = false := by simp; omega
  have q2 : (op == 33) = false := by simp; omega
  have q3 : (op == 34) = false := by simp; omega
  have q4 : (op == 35) = false := by simp; omega
  have q5 : (op == 15) = false := by simp; omega
  by_cases h1 : 1 ≤ op
  · have p1 : decide (1 ≤ op) = true := by simpa using h1
    by_cases h2 : op ≤ 14
    · have p2 : decide (op ≤ 14) = true := by simpa using h2
      have Hv := Lib.hid (show R.par op = 2 from by unfold R.par T.ar; rw [if_neg (by omega), if_neg (by omega), if_neg (by omega), if_neg (by omega), if_pos (by omega)])
      clear h0 h1 h2
      go_enter Tryz.func131, Tryz.ntmps131
      go_wp2
      go_ret
      exact ⟨ret_int Hv.out.symm, rfl⟩
    · have p2 : decide (op ≤ 14) = false := by simpa using h2
      have Hv := Lib.hid (show R.par op = -1 from by
        unfold R.par T.ar
        rw [if_neg (by omega), if_neg (by omega)]
        split
        · rfl
        · rw [if_neg (by omega), if_neg (by omega), if_neg (by omega)])
      clear h0 h1 h2
      go_enter Tryz.func131, Tryz.ntmps131
      go_wp2
      go_ret
      exact ⟨ret_int Hv.out.symm, rfl⟩
  · have p1 : decide (1 ≤ op) = false := by simpa using h1
    have Hv := Lib.hid (show R.par op = -1 from by unfold R.par T.ar; rw [if_neg (by omega), if_neg (by omega), if_neg (by omega), if_neg (by omega), if_neg (by omega), if_neg (by omega), if_neg (by omega)])
    clear h0 h1
    go_enter Tryz.func131, Tryz.ntmps131
    go_wp2
    go_ret
    exact ⟨ret_int Hv.out.symm, rfl⟩

set_option maxRecDepth 100000 in
theorem rcond_any (x : R.Cd) (W : World) : Calls Tryz.prog 67 #[.agg #[.int .i64 x.kind, .int .i64 x.hole, .int .u32 x.imm]] W fun e W' => e = .returned (.bool (R.cdOk x)) ∧ Below W.heap.size W W' := by
  obtain ⟨kd, ho, im⟩ := x
  dsimp only
  have Hb := Lib.hid (show Below W.heap.size W (W.alloc (.cells #[.int .i64 kd, .int .i64 ho, .int .u32 im] 88)) from (Below.refl _ _).alloc (Nat.le_refl _) _)
  by_cases h0 : 0 ≤ kd
  rotate_left
  · have q : decide (0 ≤ kd) = false := by simpa using h0
    have Hv := Lib.hid (show R.cdOk ⟨kd, ho, im⟩ = false from by unfold R.cdOk; simp [h0])
    clear h0
    go_enter Tryz.func67, Tryz.ntmps67
    go_wp2
    go_ret
    exact ⟨ret_bool Hv.out.symm, Hb.out⟩
  have q0 : decide (0 ≤ kd) = true := by simpa using h0
  by_cases h1 : kd ≤ 4
  rotate_left
  · have q : decide (kd ≤ 4) = false := by simpa using h1
    have Hv := Lib.hid (show R.cdOk ⟨kd, ho, im⟩ = false from by unfold R.cdOk; simp [h1])
    clear h0 h1
    go_enter Tryz.func67, Tryz.ntmps67
    go_wp2
    go_ret
    exact ⟨ret_bool Hv.out.symm, Hb.out⟩
  have q1 : decide (kd ≤ 4) = true := by simpa using h1
  by_cases h2 : 0 ≤ ho
  rotate_left
  · have q : decide (0 ≤ ho) = false := by simpa using h2
    have Hv := Lib.hid (show R.cdOk ⟨kd, ho, im⟩ = false from by unfold R.cdOk; simp [h2])
    clear h0 h1 h2
    go_enter Tryz.func67, Tryz.ntmps67
    go_wp2
    go_ret
    exact ⟨ret_bool Hv.out.symm, Hb.out⟩
  have q2 : decide (0 ≤ ho) = true := by simpa using h2
  by_cases h3 : ho < 2
  rotate_left
  · have q : decide (ho < 2) = false := by simpa using h3
    have Hv := Lib.hid (show R.cdOk ⟨kd, ho, im⟩ = false from by unfold R.cdOk; simp [h3])
    clear h0 h1 h2 h3
    go_enter Tryz.func67, Tryz.ntmps67
    go_wp2
    go_ret
    exact ⟨ret_bool Hv.out.symm, Hb.out⟩
  have q3 : decide (ho < 2) = true := by simpa using h3
  by_cases h4 : kd = 4
  · have q4 : (kd == 4) = true := by simpa using h4
    have Hv := Lib.hid (show R.cdOk ⟨kd, ho, im⟩ = true from by unfold R.cdOk; simp [h0, h1, h2, h3, h4])
    clear h0 h1 h2 h3 h4
    go_enter Tryz.func67, Tryz.ntmps67
    go_wp2
    go_ret
    exact ⟨ret_bool Hv.out.symm, Hb.out⟩
  · have q4 : (kd == 4) = false := by simpa using h4
    have Hv := Lib.hid (show R.cdOk ⟨kd, ho, im⟩ = (im == 0) from by unfold R.cdOk; rw [← dec_beq]; simp [h0, h1, h2, h3, h4])
    clear h0 h1 h2 h3 h4
    go_enter Tryz.func67, Tryz.ntmps67
    go_wp2
    go_ret
    exact ⟨ret_bool Hv.out.symm, Hb.out⟩

/-- a label stands in a list -/
def R.names (l : List T.Nd) (op imm : Int) : Bool := l.any fun x => decide (x.op = op) && decide (x.imm = imm)

set_option maxRecDepth 100000 in
theorem rnames_any (l : List T.Nd) (n c : Nat) (A : Option Addr) (op imm : Int) (W : World) (hL : StAt 5 NdR W A n l) :
    Calls Tryz.prog 69 #[.slice A n c, .int .i64 op, .int .u32 imm] W fun e W' => e = .returned (.bool (R.names l op imm)) ∧ W = W' := by
  have HL := Lib.hid hL
  have hle := hL.le
  have Hln := Lib.hid hL.len
  obtain ⟨r, hr⟩ : ∃ r, r = R.names l op imm := ⟨_, rfl⟩
  rw [← hr]
  have Hr := Lib.hid hr
  clear hL hr
  go_enter Tryz.func69, Tryz.ntmps69
  go_wp2
  go_loop [7] (fun i => ∃ j : Nat, j ≤ n ∧ i = .int .i64 (j : Int) ∧ Hid ((l.take j).any (fun x => decide (x.op = op) && decide (x.imm = imm)) = false)) (fun i => n - (intOf i).toNat)
  case atStart => exact ⟨0, Nat.zero_le _, rfl, Lib.hid rfl⟩
  case round =>
    obtain ⟨j, hj, rfl, Hany⟩ := hrel
    by_cases hlt : j < n
    · obtain ⟨x, b, off, A, c, hx, rfl, hb, h0, _, _, _, h4, _, _, _⟩ := nd_cells HL.out hlt
      by_cases e1 : x.op = op
      · have q1 : (x.op == op) = true := by simpa using e1
        by_cases e2 : x.imm = imm
        · have q2 : (x.imm == imm) = true := by simpa using e2
          have Ht := Lib.hid (show r = true from by rw [Hr.out]; exact any_true_at hx (by simp [e1, e2]))
          clear hx hb e1 e2
          go_wp2
          go_ret
          exact ⟨ret_bool Ht.out.symm, rfl⟩
        · have q2 : (x.imm == imm) = false := by simpa using e2
          have Ht := Lib.hid (show (l.take (j + 1)).any (fun x => decide (x.op = op) && decide (x.imm = imm)) = false from any_take_step hx Hany.out (by simp [e2]))
          clear hx hb e1 e2
          go_wp2
          go_round
          case rel => exact ⟨j + 1, by omega, by go_num, Ht⟩
          case measure => simp [intOf]; omega
      · have q1 : (x.op == op) = false := by simpa using e1
        have Ht := Lib.hid (show (l.take (j + 1)).any (fun x => decide (x.op = op) && decide (x.imm = imm)) = false from any_take_step hx Hany.out (by simp [e1]))
        clear hx hb e1
        go_wp2
        go_round
        case rel => exact ⟨j + 1, by omega, by go_num, Ht⟩
        case measure => simp [intOf]; omega
    · obtain rfl : j = n := by omega
      have Ht := Lib.hid (show r = false from by
        have := Hany.out
        rw [List.take_of_length_le (by rw [Hln.out]; exact Nat.le_refl _)] at this
        rw [Hr.out]; exact this)
      go_wp2
      go_ret
      exact ⟨ret_bool Ht.out.symm, rfl⟩

set_option maxRecDepth 100000 in
theorem rtyped_any (t : List T.Nd) (x : T.Nd) (n ct : Nat) (At A : Option Addr) (c : Nat) (W : World) (hT : StAt 5 NdR W At n t) (hA : SlAt (IntR .i64) W A x.args.length x.args) (hlen : (x.args.length : Int) = R.par x.op) (har : 0 ≤ R.par x.op) (harg : ∀ a ∈ x.args, 0 ≤ a ∧ a < (n : Int)) :
    Calls Tryz.prog 68 #[.slice At n ct, ndV x A c] W fun e W' => e = .returned (.bool (T.typed t x)) ∧ Below W.heap.size W W' := by
  by_cases ho : x.op = 34 ∨ x.op = 35
  · have Hv := Lib.hid (show T.typed t x = true from by unfold T.typed; rw [if_neg (by omega), if_neg (by omega), if_neg (by omega), if_neg (by omega), if_neg (by omega)])
    clear hT hA hlen har harg
    obtain ⟨op, w, fl, args, imm⟩ := x
    unfold ndV
    dsimp only at ho Hv ⊢
    have Hb := Lib.hid (nd_box W op w fl imm A args.length c)
    rcases ho with rfl | rfl
    all_goals
      go_enter Tryz.func68, Tryz.ntmps68
      go_wp2
      go_ret
      exact ⟨ret_bool Hv.out.symm, Hb.out⟩
  · have hp : R.par x.op = T.ar x.op := by
      unfold R.par at har ⊢
      rw [if_neg (by omega), if_neg (by omega)] at har ⊢
      split at har
      · omega
      · rename_i h; rw [if_neg h]
    obtain ⟨W1, hW1⟩ : ∃ W1, W1 = W.alloc (.cells #[.int .i64 x.op, .int .i64 x.w, .int .i64 x.fl, .slice A x.args.length c, .int .u32 x.imm] 62) := ⟨_, rfl⟩
    have hb1 : Below W.heap.size W W1 := by rw [hW1]; exact (Below.refl _ _).alloc (Nat.le_refl _) _
    have Hcall := Lib.hid (rTyped_any t x n ct At A c W1 (hT.below monoNd hb1) (hA.below (monoInt _) hb1) (by rw [← hp]; exact hlen) (by rw [← hp]; exact har) harg)
    obtain ⟨r, hr⟩ : ∃ r, T.typed t x = r := ⟨_, rfl⟩
    rw [hr] at Hcall ⊢
    have q1 : (x.op == 34) = false := by simp; omega
    have q2 : (x.op == 35) = false := by simp; omega
    have Hb1 := Lib.hid hb1
    have HW1 := Lib.hid hW1
    clear hT hA hlen har harg ho hp hb1 hW1 hr
    unfold ndV at Hcall ⊢
    go_enter Tryz.func68, Tryz.ntmps68
    go_wp2_with fail
    rw [← HW1.out]
    (with_reducible refine Hcall.out.mono ?_)
    rintro e w2 ⟨rfl, hb2⟩
    have Hb2 := Lib.hid (Hb1.out.trans (hb2.mono Hb1.out.size))
    clear hb2
    go_wp2
    go_ret
    exact ⟨rfl, Hb2.out⟩

/-- a rule is much longer than the limits -/
def R.rlong (r : R.Rl) : Bool := decide (60 < r.left.length) || decide (60 < r.right.length) || decide (60 < r.pre.length) || T.long r.left || T.long r.right

set_option maxRecDepth 100000 in
set_option maxHeartbeats 1000000 in
theorem rLong_any {r : R.Rl} {nl cl nr cr np cp : Nat} {AL AR AP : Option Addr} {W : World} (hR : RlAt W r nl nr np AL AR AP) :
    Calls Tryz.prog 17 #[.agg #[.slice AL nl cl, .slice AR nr cr, .slice AP np cp]] W fun e W' => e = .returned (.bool (R.rlong r)) ∧ Below W.heap.size W W' := by
  obtain ⟨W1, hW1⟩ : ∃ W1, W1 = W.alloc (.cells #[.slice AL nl cl, .slice AR nr cr, .slice AP np cp] 33) := ⟨_, rfl⟩
  have hb1 : Below W.heap.size W W1 := by rw [hW1]; exact (Below.refl _ _).alloc (Nat.le_refl _) _
  have hrow : W1.heap[W.heap.size]? = some (.cells #[.slice AL nl cl, .slice AR nr cr, .slice AP np cp] 33 (0, 0)) := by rw [hW1]; exact heap_alloc_new W _
  obtain ⟨c0, c1, c2, _⟩ := rl_cells hrow
  have Hb1 := Lib.hid hb1
  have hR1 := hR.below hb1
  have HL := Lib.hid (Long_any r.left nl cl AL W1 hR1.sl)
  have HR := Lib.hid (Long_any r.right nr cr AR W1 hR1.sr)
  have HW1 := Lib.hid hW1
  have e1 := hR.sl.len
  have e2 := hR.sr.len
  have e3 := hR.sp.len
  have l1 := hR.sl.le
  have l2 := hR.sr.le
  have l3 := hR.sp.le
  have Hv := Lib.hid (show R.rlong r = (decide (60 < nl) || decide (60 < nr) || decide (60 < np) || T.long r.left || T.long r.right) from by unfold R.rlong; rw [e1, e2, e3])
  rw [hW1] at c0 c1 c2
  clear hR hb1 hW1 hrow hR1 e1 e2 e3
  by_cases h1 : 60 < nl
  · have q1 : decide (60 < (nl : Int)) = true := by simp; omega
    have He := Lib.hid (show R.rlong r = true from by rw [Hv.out, decide_eq_true h1]; rfl)
    clear h1
    go_enter Tryz.func17, Tryz.ntmps17
    go_wp2
    go_ret
    rw [← HW1.out]
    exact ⟨ret_bool He.out.symm, Hb1.out⟩
  have q1 : decide (60 < (nl : Int)) = false := by simp; omega
  by_cases h2 : 60 < nr
  · have q2 : decide (60 < (nr : Int)) = true := by simp; omega
    have He := Lib.hid (show R.rlong r = true from by rw [Hv.out, decide_eq_true h2]; simp)
    clear h1 h2
    go_enter Tryz.func17, Tryz.ntmps17
    go_wp2
    go_ret
    rw [← HW1.out]
    exact ⟨ret_bool He.out.symm, Hb1.out⟩
  have q2 : decide (60 < (nr : Int)) = false := by simp; omega
  by_cases h3 : 60 < np
  · have q3 : decide (60 < (np : Int)) = true := by simp; omega
    have He := Lib.hid (show R.rlong r = true from by rw [Hv.out, decide_eq_true h3]; simp)
    clear h1 h2 h3
    go_enter Tryz.func17, Tryz.ntmps17
    go_wp2
    go_ret
    rw [← HW1.out]
    exact ⟨ret_bool He.out.symm, Hb1.out⟩
  have q3 : decide (60 < (np : Int)) = false := by simp; omega
  have Hv2 := Lib.hid (show R.rlong r = (T.long r.left || T.long r.right) from by rw [Hv.out, decide_eq_false h1, decide_eq_false h2, decide_eq_false h3]; rfl)
  clear h1 h2 h3 Hv
  obtain ⟨a, ha⟩ : ∃ a, T.long r.left = a := ⟨_, rfl⟩
  obtain ⟨b, hb⟩ : ∃ b, T.long r.right = b := ⟨_, rfl⟩
  rw [ha] at HL Hv2
  rw [hb] at HR Hv2
  clear ha hb
  cases a
  · go_enter Tryz.func17, Tryz.ntmps17
    go_wp2_with fail
    rw [← HW1.out]
    rw [← HW1.out] at c0 c1 c2
    (with_reducible refine HL.out.mono ?_)
    rintro e w2 ⟨rfl, rfl⟩
    go_wp2_with fail
    (with_reducible refine HR.out.mono ?_)
    rintro e w3 ⟨rfl, rfl⟩
    go_wp2
    go_ret
    exact ⟨ret_bool (by rw [Hv2.out]; rfl), Hb1.out⟩
  · go_enter Tryz.func17, Tryz.ntmps17
    go_wp2_with fail
    rw [← HW1.out]
    (with_reducible refine HL.out.mono ?_)
    rintro e w2 ⟨rfl, rfl⟩
    go_wp2
    go_ret
    exact ⟨ret_bool (by rw [Hv2.out]; rfl), Hb1.out⟩
end Go.Proofs.YtbiopedpceddeaaGreatDoor
