/- Part. -/
import Derived.Test.YtbiopedpceddeaaGreatDoorQz06
set_option linter.unusedVariables false
set_option linter.unusedSimpArgs false
set_option maxRecDepth 100000
set_option maxHeartbeats 16000000
namespace Go.Proofs.YtbiopedpceddeaaGreatDoor
section
open Go.RowKit
theorem dec_beq (a b : Int) : decide (a = b) = (a == b) := by rw [Bool.eq_iff_iff]; simp
theorem nd_box (W : World) (op w fl imm : Int) (A : Option Addr) (n c : Nat) : Below W.heap.size W (W.alloc (.cells #[.int .i64 op, .int .i64 w, .int .i64 fl, .slice A n c, .int .u32 imm] 62)) := al0
theorem rflagsOf_any (x : T.Nd) (A : Option Addr) (c : Nat) (W : World) :
 Calls Tryz.prog 109 #[ndV x A c] W fun e W' => e = .returned (.bool (R.flOk x.op x.fl)) ∧ Below W.heap.size W W' := by
 obtain ⟨op, w, fl, args, imm⟩ := x
 unfold ndV
 dsimp only
 have Hb := kH (nd_box W op w fl imm A args.length c)
 by_cases h1 : op = 1 ∨ op = 2 ∨ op = 3 ∨ op = 11
 · have Hv := kH (show R.flOk op fl = (decide (0 ≤ fl) && decide (fl ≤ 3)) from by unfold R.flOk; rw [if_pos h1])
   by_cases h0 : 0 ≤ fl
   · have q : decide (0 ≤ fl) = true := by simpa using h0
     have Hv2 := kH (show R.flOk op fl = decide (fl ≤ 3) from by rw [Hv.out, q]; rfl)
     clear Hv h0
     rcases h1 with rfl | rfl | rfl | rfl
     all_goals
      go_enter Tryz.func109, Tryz.ntmps109
      go_wp2
      go_ret
      exact ⟨ret_bool Hv2.out.symm, Hb.out⟩
   · have q : decide (0 ≤ fl) = false := by simpa using h0
     have Hv2 := kH (show R.flOk op fl = false from by rw [Hv.out, q]; rfl)
     clear Hv h0
     rcases h1 with rfl | rfl | rfl | rfl
     all_goals
      go_enter Tryz.func109, Tryz.ntmps109
      go_wp2
      go_ret
      exact ⟨ret_bool Hv2.out.symm, Hb.out⟩
 by_cases h2 : op = 4 ∨ op = 6 ∨ op = 12 ∨ op = 13
 · have Hv := kH (show R.flOk op fl = (decide (fl = 0) || decide (fl = 4)) from by unfold R.flOk; rw [if_neg h1, if_pos h2])
   clear h1
   by_cases h0 : fl = 0
   · have q : (fl == 0) = true := by simpa using h0
     have Hv2 := kH (show R.flOk op fl = true from by rw [Hv.out, decide_eq_true h0]; rfl)
     clear Hv h0
     rcases h2 with rfl | rfl | rfl | rfl
     all_goals
      go_enter Tryz.func109, Tryz.ntmps109
      go_wp2
      go_ret
      exact ⟨ret_bool Hv2.out.symm, Hb.out⟩
   · have q : (fl == 0) = false := by simpa using h0
     have Hv2 := kH (show R.flOk op fl = (fl == 4) from by rw [Hv.out, decide_eq_false h0, Bool.false_or, dec_beq])
     clear Hv h0
     rcases h2 with rfl | rfl | rfl | rfl
     all_goals
      go_enter Tryz.func109, Tryz.ntmps109
      go_wp2
      go_ret
      exact ⟨ret_bool Hv2.out.symm, Hb.out⟩
 have Hv := kH (show R.flOk op fl = (fl == 0) from by unfold R.flOk; rw [if_neg h1, if_neg h2, dec_beq])
 have q1 : (op == 1) = false := by simp; omega
 have q2 : (op == 2) = false := by simp; omega
 have q3 : (op == 3) = false := by simp; omega
 have q4 : (op == 11) = false := by simp; omega
 have q5 : (op == 4) = false := by simp; omega
 have q6 : (op == 6) = false := by simp; omega
 have q7 : (op == 12) = false := by simp; omega
 have q8 : (op == 13) = false := by simp; omega
 clear h1 h2
 go_enter Tryz.func109, Tryz.ntmps109
 go_wp2
 go_ret
 exact ⟨ret_bool Hv.out.symm, Hb.out⟩
theorem rargs_any (op : Int) (W : World) : Calls Tryz.prog 131 #[.int .i64 op] W fun e W' => e = .returned (.int .i64 (R.par op)) ∧ W = W' := by
 by_cases h0 : op = 0 ∨ op = 33 ∨ op = 34 ∨ op = 35 ∨ op = 15
 · rcases h0 with rfl | rfl | rfl | rfl | rfl
   all_goals
    go_enter Tryz.func131, Tryz.ntmps131
    go_wp2
    go_ret
    exact ⟨ret_int (by decide), rfl⟩
 have q1 : (op == 0) = false := by simp; omega
 have q2 : (op == 33) = false := by simp; omega
 have q3 : (op == 34) = false := by simp; omega
 have q4 : (op == 35) = false := by simp; omega
 have q5 : (op == 15) = false := by simp; omega
 by_cases h1 : 1 ≤ op
 · have p1 : decide (1 ≤ op) = true := by simpa using h1
   by_cases h2 : op ≤ 14
   · have p2 : decide (op ≤ 14) = true := by simpa using h2
     have Hv := kH (show R.par op = 2 from by unfold R.par T.ar; rw [if_neg (by omega), if_neg (by omega), if_neg (by omega), if_neg (by omega), if_pos (by omega)])
     clear h0 h1 h2
     go_enter Tryz.func131, Tryz.ntmps131
     go_wp2
     go_ret
     exact ⟨ret_int Hv.out.symm, rfl⟩
   · have p2 : decide (op ≤ 14) = false := by simpa using h2
     have Hv := kH (show R.par op = -1 from by
      unfold R.par T.ar
      rw [if_neg (by omega), if_neg (by omega)]
      split
      · rfl
      · rw [if_neg (by omega), if_neg (by omega), if_neg (by omega)])
     clear h0 h1 h2
     go_enter Tryz.func131, Tryz.ntmps131
     go_wp2
     go_ret
     exact ⟨ret_int Hv.out.symm, rfl⟩
 · have p1 : decide (1 ≤ op) = false := by simpa using h1
   have Hv := kH (show R.par op = -1 from by unfold R.par T.ar; rw [if_neg (by omega), if_neg (by omega), if_neg (by omega), if_neg (by omega), if_neg (by omega), if_neg (by omega), if_neg (by omega)])
   clear h0 h1
   go_enter Tryz.func131, Tryz.ntmps131
   go_wp2
   go_ret
   exact ⟨ret_int Hv.out.symm, rfl⟩
theorem rcond_any (x : R.Cd) (W : World) : Calls Tryz.prog 67 #[.agg #[.int .i64 x.kind, .int .i64 x.hole, .int .u32 x.imm]] W fun e W' => e = .returned (.bool (R.cdOk x)) ∧ Below W.heap.size W W' := by
 obtain ⟨kd, ho, im⟩ := x
 dsimp only
 have Hb := kH (show Below W.heap.size W (W.alloc (.cells #[.int .i64 kd, .int .i64 ho, .int .u32 im] 88)) from al0)
 by_cases h0 : 0 ≤ kd
 rotate_left
 · have q : decide (0 ≤ kd) = false := by simpa using h0
   have Hv := kH (show R.cdOk ⟨kd, ho, im⟩ = false from by unfold R.cdOk; simp [h0])
   clear h0
   go_enter Tryz.func67, Tryz.ntmps67
   go_wp2
   go_ret
   exact ⟨ret_bool Hv.out.symm, Hb.out⟩
 have q0 : decide (0 ≤ kd) = true := by simpa using h0
 by_cases h1 : kd ≤ 4
 rotate_left
 · have q : decide (kd ≤ 4) = false := by simpa using h1
   have Hv := kH (show R.cdOk ⟨kd, ho, im⟩ = false from by unfold R.cdOk; simp [h1])
   clear h0 h1
   go_enter Tryz.func67, Tryz.ntmps67
   go_wp2
   go_ret
   exact ⟨ret_bool Hv.out.symm, Hb.out⟩
 have q1 : decide (kd ≤ 4) = true := by simpa using h1
 by_cases h2 : 0 ≤ ho
 rotate_left
 · have q : decide (0 ≤ ho) = false := by simpa using h2
   have Hv := kH (show R.cdOk ⟨kd, ho, im⟩ = false from by unfold R.cdOk; simp [h2])
   clear h0 h1 h2
   go_enter Tryz.func67, Tryz.ntmps67
   go_wp2
   go_ret
   exact ⟨ret_bool Hv.out.symm, Hb.out⟩
 have q2 : decide (0 ≤ ho) = true := by simpa using h2
 by_cases h3 : ho < 2
 rotate_left
 · have q : decide (ho < 2) = false := by simpa using h3
   have Hv := kH (show R.cdOk ⟨kd, ho, im⟩ = false from by unfold R.cdOk; simp [h3])
   clear h0 h1 h2 h3
   go_enter Tryz.func67, Tryz.ntmps67
   go_wp2
   go_ret
   exact ⟨ret_bool Hv.out.symm, Hb.out⟩
 have q3 : decide (ho < 2) = true := by simpa using h3
 by_cases h4 : kd = 4
 · have q4 : (kd == 4) = true := by simpa using h4
   have Hv := kH (show R.cdOk ⟨kd, ho, im⟩ = true from by unfold R.cdOk; simp [h0, h1, h2, h3, h4])
   clear h0 h1 h2 h3 h4
   go_enter Tryz.func67, Tryz.ntmps67
   go_wp2
   go_ret
   exact ⟨ret_bool Hv.out.symm, Hb.out⟩
 · have q4 : (kd == 4) = false := by simpa using h4
   have Hv := kH (show R.cdOk ⟨kd, ho, im⟩ = (im == 0) from by unfold R.cdOk; rw [← dec_beq]; simp [h0, h1, h2, h3, h4])
   clear h0 h1 h2 h3 h4
   go_enter Tryz.func67, Tryz.ntmps67
   go_wp2
   go_ret
   exact ⟨ret_bool Hv.out.symm, Hb.out⟩
def R.names (l : List T.Nd) (op imm : Int) : Bool := l.any fun x => decide (x.op = op) && decide (x.imm = imm)
theorem rnames_any (l : List T.Nd) (n c : Nat) (A : Option Addr) (op imm : Int) (W : World) (hL : StAt 5 NdR W A n l) :
 Calls Tryz.prog 69 #[.slice A n c, .int .i64 op, .int .u32 imm] W fun e W' => e = .returned (.bool (R.names l op imm)) ∧ W = W' := by
 have HL := kH hL
 have hle := hL.le
 have Hln := kH hL.len
 obtain ⟨r, hr⟩ : ∃ r, r = R.names l op imm := ⟨_, rfl⟩
 rw [← hr]
 have Hr := kH hr
 clear hL hr
 go_enter Tryz.func69, Tryz.ntmps69
 go_wp2
 go_loop [7] (fun i => ∃ j : Nat, j ≤ n ∧ i = .int .i64 (j : Int) ∧ Hid ((l.take j).any (fun x => decide (x.op = op) && decide (x.imm = imm)) = false)) (fun i => n - (intOf i).toNat)
 case atStart => exact ⟨0, Nat.zero_le _, rfl, kH rfl⟩
 case round =>
  obtain ⟨j, hj, rfl, Hany⟩ := hrel
  by_cases hlt : j < n
  · obtain ⟨x, b, off, A, c, hx, rfl, hb, h0, _, _, _, h4, _, _, _⟩ := nd_cells HL.out hlt
    by_cases e1 : x.op = op
    · have q1 : (x.op == op) = true := by simpa using e1
      by_cases e2 : x.imm = imm
      · have q2 : (x.imm == imm) = true := by simpa using e2
        have Ht := kH (show r = true from by rw [Hr.out]; exact any_true_at hx (by simp [e1, e2]))
        clear hx hb e1 e2
        go_wp2
        go_ret
        exact ⟨ret_bool Ht.out.symm, rfl⟩
      · have q2 : (x.imm == imm) = false := by simpa using e2
        have Ht := kH (show (l.take (j + 1)).any (fun x => decide (x.op = op) && decide (x.imm = imm)) = false from any_take_step hx Hany.out (by simp [e2]))
        clear hx hb e1 e2
        go_wp2
        go_round
        case rel => exact ⟨j + 1, by omega, by go_num, Ht⟩
        case measure => simp [intOf]; omega
    · have q1 : (x.op == op) = false := by simpa using e1
      have Ht := kH (show (l.take (j + 1)).any (fun x => decide (x.op = op) && decide (x.imm = imm)) = false from any_take_step hx Hany.out (by simp [e1]))
      clear hx hb e1
      go_wp2
      go_round
      case rel => exact ⟨j + 1, by omega, by go_num, Ht⟩
      case measure => simp [intOf]; omega
  · obtain rfl : j = n := by omega
    have Ht := kH (show r = false from by
     have := Hany.out
     rw [List.take_of_length_le (by rw [Hln.out]; exact Nat.le_refl _)] at this
     rw [Hr.out]; exact this)
    go_wp2
    go_ret
    exact ⟨ret_bool Ht.out.symm, rfl⟩
theorem rtyped_any (t : List T.Nd) (x : T.Nd) (n ct : Nat) (At A : Option Addr) (c : Nat) (W : World) (hT : StAt 5 NdR W At n t) (hA : SlAt (IntR .i64) W A x.args.length x.args) (hlen : (x.args.length : Int) = R.par x.op) (har : 0 ≤ R.par x.op) (harg : ∀ a ∈ x.args, 0 ≤ a ∧ a < (n : Int)) :
 Calls Tryz.prog 68 #[.slice At n ct, ndV x A c] W fun e W' => e = .returned (.bool (T.typed t x)) ∧ Below W.heap.size W W' := by
 by_cases ho : x.op = 34 ∨ x.op = 35
 · have Hv := kH (show T.typed t x = true from by unfold T.typed; rw [if_neg (by omega), if_neg (by omega), if_neg (by omega), if_neg (by omega), if_neg (by omega)])
   clear hT hA hlen har harg
   obtain ⟨op, w, fl, args, imm⟩ := x
   unfold ndV
   dsimp only at ho Hv ⊢
   have Hb := kH (nd_box W op w fl imm A args.length c)
   rcases ho with rfl | rfl
   all_goals
    go_enter Tryz.func68, Tryz.ntmps68
    go_wp2
    go_ret
    exact ⟨ret_bool Hv.out.symm, Hb.out⟩
 · have hp : R.par x.op = T.ar x.op := by
    unfold R.par at har ⊢
    rw [if_neg (by omega), if_neg (by omega)] at har ⊢
    split at har
    · omega
    · rename_i h; rw [if_neg h]
   obtain ⟨W1, hW1⟩ : ∃ W1, W1 = W.alloc (.cells #[.int .i64 x.op, .int .i64 x.w, .int .i64 x.fl, .slice A x.args.length c, .int .u32 x.imm] 62) := ⟨_, rfl⟩
   have hb1 : Below W.heap.size W W1 := by rw [hW1]; exact al0
   have Hcall := kH (rTyped_any t x n ct At A c W1 (hT.below monoNd hb1) (hA.below (monoInt _) hb1) (by rw [← hp]; exact hlen) (by rw [← hp]; exact har) harg)
   obtain ⟨r, hr⟩ : ∃ r, T.typed t x = r := ⟨_, rfl⟩
   rw [hr] at Hcall ⊢
   have q1 : (x.op == 34) = false := by simp; omega
   have q2 : (x.op == 35) = false := by simp; omega
   have Hb1 := kH hb1
   have HW1 := kH hW1
   clear hT hA hlen har harg ho hp hb1 hW1 hr
   unfold ndV at Hcall ⊢
   go_enter Tryz.func68, Tryz.ntmps68
   go_wp2_with fail
   rw [← HW1.out]
   (with_reducible refine Hcall.out.mono ?_)
   rintro e w2 ⟨rfl, hb2⟩
   have Hb2 := kH (Hb1.out.trans (hb2.mono Hb1.out.size))
   clear hb2
   go_wp2
   go_ret
   exact ⟨rfl, Hb2.out⟩
def R.rlong (r : R.Rl) : Bool := decide (60 < r.left.length) || decide (60 < r.right.length) || decide (60 < r.pre.length) || T.long r.left || T.long r.right
theorem rLong_any {r : R.Rl} {nl cl nr cr np cp : Nat} {AL AR AP : Option Addr} {W : World} (hR : RlAt W r nl nr np AL AR AP) :
 Calls Tryz.prog 17 #[.agg #[.slice AL nl cl, .slice AR nr cr, .slice AP np cp]] W fun e W' => e = .returned (.bool (R.rlong r)) ∧ Below W.heap.size W W' := by
 obtain ⟨W1, hW1⟩ : ∃ W1, W1 = W.alloc (.cells #[.slice AL nl cl, .slice AR nr cr, .slice AP np cp] 33) := ⟨_, rfl⟩
 have hb1 : Below W.heap.size W W1 := by rw [hW1]; exact al0
 have hrow : W1.heap[W.heap.size]? = some (.cells #[.slice AL nl cl, .slice AR nr cr, .slice AP np cp] 33 (0, 0)) := by rw [hW1]; exact heap_alloc_new W _
 obtain ⟨c0, c1, c2, _⟩ := rl_cells hrow
 have Hb1 := kH hb1
 have hR1 := hR.below hb1
 have HL := kH (Long_any r.left nl cl AL W1 hR1.sl)
 have HR := kH (Long_any r.right nr cr AR W1 hR1.sr)
 have HW1 := kH hW1
 have e1 := hR.sl.len
 have e2 := hR.sr.len
 have e3 := hR.sp.len
 have l1 := hR.sl.le
 have l2 := hR.sr.le
 have l3 := hR.sp.le
 have Hv := kH (show R.rlong r = (decide (60 < nl) || decide (60 < nr) || decide (60 < np) || T.long r.left || T.long r.right) from by unfold R.rlong; rw [e1, e2, e3])
 rw [hW1] at c0 c1 c2
 clear hR hb1 hW1 hrow hR1 e1 e2 e3
 by_cases h1 : 60 < nl
 · have q1 : decide (60 < (nl : Int)) = true := by simp; omega
   have He := kH (show R.rlong r = true from by rw [Hv.out, decide_eq_true h1]; rfl)
   clear h1
   go_enter Tryz.func17, Tryz.ntmps17
   go_wp2
   go_ret
   rw [← HW1.out]
   exact ⟨ret_bool He.out.symm, Hb1.out⟩
 have q1 : decide (60 < (nl : Int)) = false := by simp; omega
 by_cases h2 : 60 < nr
 · have q2 : decide (60 < (nr : Int)) = true := by simp; omega
   have He := kH (show R.rlong r = true from by rw [Hv.out, decide_eq_true h2]; simp)
   clear h1 h2
   go_enter Tryz.func17, Tryz.ntmps17
   go_wp2
   go_ret
   rw [← HW1.out]
   exact ⟨ret_bool He.out.symm, Hb1.out⟩
 have q2 : decide (60 < (nr : Int)) = false := by simp; omega
 by_cases h3 : 60 < np
 · have q3 : decide (60 < (np : Int)) = true := by simp; omega
   have He := kH (show R.rlong r = true from by rw [Hv.out, decide_eq_true h3]; simp)
   clear h1 h2 h3
   go_enter Tryz.func17, Tryz.ntmps17
   go_wp2
   go_ret
   rw [← HW1.out]
   exact ⟨ret_bool He.out.symm, Hb1.out⟩
 have q3 : decide (60 < (np : Int)) = false := by simp; omega
 have Hv2 := kH (show R.rlong r = (T.long r.left || T.long r.right) from by rw [Hv.out, decide_eq_false h1, decide_eq_false h2, decide_eq_false h3]; rfl)
 clear h1 h2 h3 Hv
 obtain ⟨a, ha⟩ : ∃ a, T.long r.left = a := ⟨_, rfl⟩
 obtain ⟨b, hb⟩ : ∃ b, T.long r.right = b := ⟨_, rfl⟩
 rw [ha] at HL Hv2
 rw [hb] at HR Hv2
 clear ha hb
 cases a
 · go_enter Tryz.func17, Tryz.ntmps17
   go_wp2_with fail
   rw [← HW1.out]
   rw [← HW1.out] at c0 c1 c2
   (with_reducible refine HL.out.mono ?_)
   rintro e w2 ⟨rfl, rfl⟩
   go_wp2_with fail
   (with_reducible refine HR.out.mono ?_)
   rintro e w3 ⟨rfl, rfl⟩
   go_wp2
   go_ret
   exact ⟨ret_bool (by rw [Hv2.out]; rfl), Hb1.out⟩
 · go_enter Tryz.func17, Tryz.ntmps17
   go_wp2_with fail
   rw [← HW1.out]
   (with_reducible refine HL.out.mono ?_)
   rintro e w2 ⟨rfl, rfl⟩
   go_wp2
   go_ret
   exact ⟨ret_bool (by rw [Hv2.out]; rfl), Hb1.out⟩
end
section
open Go.RowKit
def R.pre1 (x : T.Nd) : Bool := decide (0 ≤ R.par x.op) && decide ((x.args.length : Int) = R.par x.op) && decide (0 ≤ x.w) && decide (x.w ≤ 32) && R.flOk x.op x.fl
theorem R.pnode_pre (p : List T.Nd) (right : Bool) (k : Nat) (x : T.Nd) : R.pnode p right k x = (R.pre1 x && T.argsOk k x.args && R.pimmOk p right x) := rfl
theorem rargument_pat {p : List T.Nd} {n cp k : Nat} {Ap : Option Addr} {left : Bool} {W : World} (hP : StAt 5 NdR W Ap n p) (hk : k < n) (x : T.Nd) (hx : p[k]? = some x) :
 Calls Tryz.prog 66 #[.slice Ap n cp, .int .i64 (k : Int), .bool left] W fun e W' => e = .returned (.bool (R.pnode p (!left) k x)) ∧ Below W.heap.size W W' := by
 have hle := hP.le
 obtain ⟨x', b, off, A, c, hx', rfl, hb, h0, h1, h2, h3, h4, hs, i0, i1⟩ := nd_cells hP hk
 rw [hx] at hx'
 cases hx'
 obtain ⟨W1, hW1⟩ : ∃ W1, W1 = W.alloc (.cells #[.int .i64 x.op, .int .i64 x.w, .int .i64 x.fl, .slice A x.args.length c, .int .u32 x.imm] 62) := ⟨_, rfl⟩
 have hb1 : Below W.heap.size W W1 := by rw [hW1]; exact al0
 have hrow : W1.heap[W.heap.size]? = some (.cells #[.int .i64 x.op, .int .i64 x.w, .int .i64 x.fl, .slice A x.args.length c, .int .u32 x.imm] 62 (0, 0)) := by rw [hW1]; exact heap_alloc_new W _
 have Hrow := kH (fun (X : World) (h : Below W1.heap.size W1 X) => (h.block _ (gA hrow).1).trans hrow)
 have Hb1 := kH hb1
 have HP := kH (hP.below monoNd hb1)
 have HA := kH (hs.below (monoInt _) hb1)
 have HW1 := kH hW1
 have Hv := kH (R.pnode_pre p (!left) k x)
 have Hpre := kH (show R.pre1 x = (decide (0 ≤ R.par x.op) && decide ((x.args.length : Int) = R.par x.op) && decide (0 ≤ x.w) && decide (x.w ≤ 32) && R.flOk x.op x.fl) from rfl)
 have Hfl := kH (fun X => rflagsOf_any x A c X)
 have Hi := kH (show 0 ≤ x.imm ∧ x.imm < 4294967296 from ⟨i0, i1⟩)
 have Him := kH (show R.pimmOk p (!left) x = if x.op = 0 then decide (x.w = 0) || B.isW x.w x.imm
  else if x.op = 33 ∨ x.op = 34 then decide (x.w = 0) && decide (x.imm < 2)
  else if x.op = 35 then (!left) && decide (x.w = 0) && decide (x.imm = 0) && decide ((p.getD (x.args.getD 0 0).toNat default).op = 34)
  else if x.op = 14 then decide (x.w = 1) && decide (x.imm ≤ 9)
  else decide (x.imm = 0) from rfl)
 have Hpar := kH (show R.par 35 = 1 from by decide)
 obtain ⟨op, w, fl, args, imm⟩ := x
 unfold ndV at Hfl
 dsimp only at *
 obtain ⟨pr, hpr⟩ : ∃ pr, R.par op = pr := ⟨_, rfl⟩
 obtain ⟨fo, hfo⟩ : ∃ fo, R.flOk op fl = fo := ⟨_, rfl⟩
 rw [hpr, hfo] at Hpre
 rw [hfo] at Hfl
 have Hpr := kH hpr
 have hall : args.length ≤ 9223372036854775807 := HA.out.le
 clear hP hb1 hW1 hrow hb hs i0 i1 hx hpr hfo
 go_enter Tryz.func66, Tryz.ntmps66
 go_upto_region 2 with (fail)
 rw [← HW1.out]
 clear h0 h1 h2 h3 h4
 obtain ⟨pb, hpb⟩ : ∃ pb, R.pre1 ⟨op, w, fl, args, imm⟩ = pb := ⟨_, rfl⟩
 rw [hpb] at Hpre Hv
 clear hpb
 go_cut [40] (fun s40 wx => s40 = .bool (!pb) ∧ Hid (Below W1.heap.size W1 wx))
 case first =>
  obtain ⟨x0, x1, x2, x3, x4⟩ := nd5_cells (Hrow.out W1 (Below.refl _ _))
  obtain ⟨ov⟩ := ov_ex W1
  have o0 := ov.cell x0
  have o1 := ov.cell x1
  have o2 := ov.cell x2
  have o3 := ov.cell x3
  have o4 := ov.cell x4
  have HQ1 := kH (show ∀ u, Calls Tryz.prog 131 #[.int .i64 op] (ov.f u) (fun e w' => e = .returned (.int .i64 pr) ∧ ∃ m, w' = ov.f m) from fun u => by
   have := rargs_any op (ov.f u)
   rw [Hpr.out] at this
   exact calls_over_same this)
  have HQ2 := kH (fun u => calls_over (ov := ov) (Hfl.out (ov.f u)))
  have Hov := kH (fun u => ov.below u)
  clear x0 x1 x2 x3 x4
  by_cases c1 : pr < 0
  · have q : decide (pr < 0) = true := by simpa using c1
    have He := kH (show pb = false from by rw [Hpre.out, decide_eq_false (by omega)]; simp)
    clear c1
    refine wp_region_ovq ov (by kernel_rfl) (by kernel_rfl) ?_
    repeat (go_big_quiet_step ((first | (go_at_call 131; with_reducible exact HQ1.out _) | (go_at_call 109; with_reducible exact HQ2.out _))))
    refine wpQuiet_nil ?_
    rintro _ ⟨u, rfl⟩
    go_wp2_with fail
    go_meet
    exact ⟨by rw [He.out]; rfl, kH (Hov.out u)⟩
  have q1 : decide (pr < 0) = false := by simpa using c1
  by_cases c2 : pr = (args.length : Int)
  rotate_left
  · have q2 : (pr != (args.length : Int)) = true := by simpa using c2
    have He := kH (show pb = false from by rw [Hpre.out, decide_eq_false (show ¬ (args.length : Int) = pr from fun h => c2 h.symm)]; simp)
    clear c1 c2
    refine wp_region_ovq ov (by kernel_rfl) (by kernel_rfl) ?_
    repeat (go_big_quiet_step ((first | (go_at_call 131; with_reducible exact HQ1.out _) | (go_at_call 109; with_reducible exact HQ2.out _))))
    refine wpQuiet_nil ?_
    rintro _ ⟨u, rfl⟩
    go_wp2_with fail
    go_meet
    exact ⟨by rw [He.out]; rfl, kH (Hov.out u)⟩
  have q2 : (pr != (args.length : Int)) = false := by simpa using c2
  by_cases c3 : w < 0
  · have q3 : decide (w < 0) = true := by simpa using c3
    have He := kH (show pb = false from by rw [Hpre.out, decide_eq_false (show ¬ 0 ≤ w by omega)]; simp)
    clear c1 c2 c3
    refine wp_region_ovq ov (by kernel_rfl) (by kernel_rfl) ?_
    repeat (go_big_quiet_step ((first | (go_at_call 131; with_reducible exact HQ1.out _) | (go_at_call 109; with_reducible exact HQ2.out _))))
    refine wpQuiet_nil ?_
    rintro _ ⟨u, rfl⟩
    go_wp2_with fail
    go_meet
    exact ⟨by rw [He.out]; rfl, kH (Hov.out u)⟩
  have q3 : decide (w < 0) = false := by simpa using c3
  by_cases c4 : 32 < w
  · have q4 : decide (32 < w) = true := by simpa using c4
    have He := kH (show pb = false from by rw [Hpre.out, decide_eq_false (show ¬ w ≤ 32 by omega)]; simp)
    clear c1 c2 c3 c4
    refine wp_region_ovq ov (by kernel_rfl) (by kernel_rfl) ?_
    repeat (go_big_quiet_step ((first | (go_at_call 131; with_reducible exact HQ1.out _) | (go_at_call 109; with_reducible exact HQ2.out _))))
    refine wpQuiet_nil ?_
    rintro _ ⟨u, rfl⟩
    go_wp2_with fail
    go_meet
    exact ⟨by rw [He.out]; rfl, kH (Hov.out u)⟩
  have q4 : decide (32 < w) = false := by simpa using c4
  have He := kH (show pb = fo from by rw [Hpre.out, decide_eq_true (show 0 ≤ pr by omega), decide_eq_true c2.symm, decide_eq_true (show 0 ≤ w by omega), decide_eq_true (show w ≤ 32 by omega)]; rfl)
  clear c1 c2 c3 c4
  refine wp_region_ovq ov (by kernel_rfl) (by kernel_rfl) ?_
  repeat (go_big_quiet_step ((first | (go_at_call 131; with_reducible exact HQ1.out _) | (go_at_call 109; with_reducible exact HQ2.out _))))
  refine wpQuiet_nil ?_
  rintro _ ⟨u, rfl⟩
  go_wp2_with fail
  go_meet
  exact ⟨by rw [He.out], kH (Hov.out u)⟩
 case rest =>
 obtain ⟨rfl, Hb2⟩ := hcut
 obtain ⟨W2, hW2⟩ : ∃ W2, W2 = wc := ⟨_, rfl⟩
 rw [← hW2] at Hb2 ⊢
 clear hW2
 have Hb02 := kH (Hb1.out.trans (Hb2.out.mono Hb1.out.size))
 cases pb with
 | false =>
  have He := kH (show R.pnode p (!left) k ⟨op, w, fl, args, imm⟩ = false from by rw [Hv.out]; simp)
  go_wp2
  go_ret
  exact ⟨ret_bool He.out.symm, Hb02.out⟩
 | true =>
 have Hv2 := kH (show R.pnode p (!left) k ⟨op, w, fl, args, imm⟩ = (T.argsOk k args && R.pimmOk p (!left) ⟨op, w, fl, args, imm⟩) from by rw [Hv.out]; simp)
 have Hlen := kH (show (args.length : Int) = pr ∧ 0 ≤ w from by
  have := Hpre.out.symm
  simp only [Bool.and_eq_true, decide_eq_true_eq] at this
  exact ⟨this.1.1.1.2, this.1.1.2⟩)
 obtain ⟨x0, x1, x2, x3, x4⟩ := nd5_cells (Hrow.out W2 Hb2.out)
 have HA2 := kH (HA.out.below (monoInt _) Hb2.out)
 have HP2 := kH (HP.out.below monoNd Hb2.out)
 have HX1 := kH x1
 have HX0 := kH x0
 have HX4 := kH x4
 have HX3 := kH x3
 go_wp2
 clear x0 x1 x2 x4
 go_loop [8] (fun i => ∃ j : Nat, j ≤ args.length ∧ i = .int .i64 (j : Int) ∧ Hid ((args.take j).all (fun a => decide (0 ≤ a) && decide (a < (k : Int))) = true)) (fun i => args.length - (intOf i).toNat)
 case atStart => exact ⟨0, Nat.zero_le _, rfl, kH rfl⟩
 case round =>
  obtain ⟨j, hj, rfl, Hall⟩ := hrel
  by_cases hlt : j < args.length
  · obtain ⟨a, ba, offa, ua, ha, rfl, hba, hca, rfl⟩ := HA2.out.at_ hlt
    by_cases a0 : a < 0
    · have q1 : decide (a < 0) = true := by simpa using a0
      have Ht := kH (show R.pnode p (!left) k ⟨op, w, fl, args, imm⟩ = false from by
       have : T.argsOk k args = false := by
        unfold T.argsOk
        rw [List.all_eq_false]
        exact ⟨a, List.mem_of_getElem? ha, by simp; omega⟩
       rw [Hv2.out, this]; rfl)
      clear ha hba a0
      go_wp2
      go_ret
      exact ⟨ret_bool Ht.out.symm, Hb02.out⟩
    have q1 : decide (a < 0) = false := by simpa using a0
    by_cases a1 : (k : Int) ≤ a
    · have q2 : decide ((k : Int) ≤ a) = true := by simpa using a1
      have Ht := kH (show R.pnode p (!left) k ⟨op, w, fl, args, imm⟩ = false from by
       have : T.argsOk k args = false := by
        unfold T.argsOk
        rw [List.all_eq_false]
        exact ⟨a, List.mem_of_getElem? ha, by simp; omega⟩
       rw [Hv2.out, this]; rfl)
      clear ha hba a0 a1
      go_wp2
      go_ret
      exact ⟨ret_bool Ht.out.symm, Hb02.out⟩
    · have q2 : decide ((k : Int) ≤ a) = false := by simpa using a1
      have Ht := kH (show (args.take (j + 1)).all (fun a => decide (0 ≤ a) && decide (a < (k : Int))) = true from by
       rw [take_next ha, List.all_append, Hall.out]
       simp; omega)
      clear ha hba a0 a1
      go_wp2
      go_round
      case rel => exact ⟨j + 1, by omega, by go_num, Ht⟩
      case measure => simp [intOf]; omega
  · obtain rfl : j = args.length := by omega
    have Hargs := kH (show T.argsOk k args = true from by
     have := Hall.out
     rw [List.take_of_length_le (Nat.le_refl _)] at this
     exact this)
    have Hv3 := kH (show R.pnode p (!left) k ⟨op, w, fl, args, imm⟩ = R.pimmOk p (!left) ⟨op, w, fl, args, imm⟩ from by rw [Hv2.out, Hargs.out]; rfl)
    have x0 := HX0.out
    have x1 := HX1.out
    have x4 := HX4.out
    by_cases e0 : op = 0
    · subst e0
      have Hv4 := kH (show R.pnode p (!left) k ⟨0, w, fl, args, imm⟩ = (decide (w = 0) || B.isW w imm) from by rw [Hv3.out, Him.out]; rfl)
      by_cases w0 : w = 0
      · have q : (w == 0) = true := by simpa using w0
        have He := kH (show R.pnode p (!left) k ⟨0, w, fl, args, imm⟩ = true from by rw [Hv4.out, decide_eq_true w0]; rfl)
        clear w0 hlt
        go_wp2
        go_ret
        exact ⟨ret_bool He.out.symm, Hb02.out⟩
      · have q : (w == 0) = false := by simpa using w0
        have He := kH (show R.pnode p (!left) k ⟨0, w, fl, args, imm⟩ = B.isW w imm from by rw [Hv4.out, decide_eq_false w0]; rfl)
        have HI := kH (isWord_any w imm W2 Hi.out.1 Hi.out.2)
        clear w0 hlt
        go_wp2_with fail
        (with_reducible refine HI.out.mono ?_)
        rintro e w3 ⟨rfl, rfl⟩
        go_wp2
        go_ret
        exact ⟨ret_bool He.out.symm, Hb02.out⟩
    have qo0 : (op == 0) = false := by simpa using e0
    by_cases e1 : op = 33 ∨ op = 34
    · have Hv4 := kH (show R.pnode p (!left) k ⟨op, w, fl, args, imm⟩ = (decide (w = 0) && decide (imm < 2)) from by rw [Hv3.out, Him.out, if_neg e0, if_pos e1])
      by_cases w0 : w = 0
      · have q : (w == 0) = true := by simpa using w0
        have He := kH (show R.pnode p (!left) k ⟨op, w, fl, args, imm⟩ = decide (imm < 2) from by rw [Hv4.out, decide_eq_true w0]; rfl)
        have He2 := kH (show R.pnode p (!left) k ⟨op, w, fl, args, imm⟩ = decide (imm ≤ 1) from by rw [He.out, decide_eq_decide]; omega)
        clear w0 hlt
        by_cases e2 : op = 33
        · have qo1 : (op == 33) = true := by simpa using e2
          clear e0 e1 e2
          go_wp2
          go_ret
          exact ⟨ret_bool He2.out.symm, Hb02.out⟩
        · have qo1 : (op == 33) = false := by simpa using e2
          have qo2 : (op == 34) = true := by simp; omega
          clear e0 e1 e2
          go_wp2
          go_ret
          exact ⟨ret_bool He.out.symm, Hb02.out⟩
      · have q : (w == 0) = false := by simpa using w0
        have He := kH (show R.pnode p (!left) k ⟨op, w, fl, args, imm⟩ = false from by rw [Hv4.out, decide_eq_false w0]; rfl)
        clear w0 hlt
        by_cases e2 : op = 33
        · have qo1 : (op == 33) = true := by simpa using e2
          clear e0 e1 e2
          go_wp2
          go_ret
          exact ⟨ret_bool He.out.symm, Hb02.out⟩
        · have qo1 : (op == 33) = false := by simpa using e2
          have qo2 : (op == 34) = true := by simp; omega
          clear e0 e1 e2
          go_wp2
          go_ret
          exact ⟨ret_bool He.out.symm, Hb02.out⟩
    have qo1 : (op == 33) = false := by simp; omega
    have qo2 : (op == 34) = false := by simp; omega
    by_cases e2 : op = 35
    · subst e2
      have Hv4 := kH (show R.pnode p (!left) k ⟨35, w, fl, args, imm⟩ = ((!left) && decide (w = 0) && decide (imm = 0) && decide ((p.getD (args.getD 0 0).toNat default).op = 34)) from by rw [Hv3.out, Him.out]; rfl)
      have hl1 : args.length = 1 := by have h1 := Hlen.out.1; have h2 := Hpr.out; have h3 := Hpar.out; omega
      obtain ⟨a, ba, offa, ua, ha, rfl, hba, hca, rfl⟩ := HA2.out.at_ (show 0 < args.length by omega)
      have hax : 0 ≤ a ∧ a < (k : Int) := by
       have := Hargs.out
       unfold T.argsOk at this
       have := List.all_eq_true.1 this a (List.mem_of_getElem? ha)
       simpa using this
      obtain ⟨an, rfl⟩ : ∃ an : Nat, a = an := ⟨a.toNat, by omega⟩
      obtain ⟨y, by_, offy, Ay, cy, hy, hbe, hby, y0, _, _, _, _, _, _, _⟩ := nd_cells HP2.out (show an < n by omega)
      injection hbe with hbe
      injection hbe with hbe1 hbe2 _
      subst hbe1
      subst hbe2
      have hag : (p.getD (args.getD 0 0).toNat default).op = y.op := by
       have e : args.getD 0 0 = (an : Int) := by rw [List.getD_eq_getElem?_getD, ha]; rfl
       rw [e, Int.toNat_natCast, List.getD_eq_getElem?_getD, hy]; rfl
      rw [hag] at Hv4
      rw [Nat.add_zero] at hca
      have hl2 : (0 : Int) < (args.length : Int) := by omega
      have x3 := HX3.out
      clear ha hba hy hby hag hlt hl1
      cases left with
      | true =>
       have He := kH (show R.pnode p (!true) k ⟨35, w, fl, args, imm⟩ = false from by rw [Hv4.out]; rfl)
       go_wp2
       go_ret
       exact ⟨ret_bool He.out.symm, Hb02.out⟩
      | false =>
       by_cases w0 : w = 0
       rotate_left
       · have q : (w == 0) = false := by simpa using w0
         have He := kH (show R.pnode p (!false) k ⟨35, w, fl, args, imm⟩ = false from by rw [Hv4.out, decide_eq_false w0]; rfl)
         clear w0
         go_wp2
         go_ret
         exact ⟨ret_bool He.out.symm, Hb02.out⟩
       have q : (w == 0) = true := by simpa using w0
       by_cases m0 : imm = 0
       rotate_left
       · have q2 : (imm == 0) = false := by simpa using m0
         have He := kH (show R.pnode p (!false) k ⟨35, w, fl, args, imm⟩ = false from by rw [Hv4.out, decide_eq_false m0]; simp)
         clear w0 m0
         go_wp2
         go_ret
         exact ⟨ret_bool He.out.symm, Hb02.out⟩
       have q2 : (imm == 0) = true := by simpa using m0
       have He := kH (show R.pnode p (!false) k ⟨35, w, fl, args, imm⟩ = (y.op == 34) from by rw [Hv4.out, decide_eq_true w0, decide_eq_true m0, dec_beq]; rfl)
       clear w0 m0
       go_wp2
       go_ret
       exact ⟨ret_bool He.out.symm, Hb02.out⟩
    have qo3 : (op == 35) = false := by simpa using e2
    by_cases e3 : op = 14
    · subst e3
      have Hv4 := kH (show R.pnode p (!left) k ⟨14, w, fl, args, imm⟩ = (decide (w = 1) && decide (imm ≤ 9)) from by rw [Hv3.out, Him.out]; rfl)
      clear hlt e0 e1 e2
      by_cases w0 : w = 1
      · have q : (w == 1) = true := by simpa using w0
        have He := kH (show R.pnode p (!left) k ⟨14, w, fl, args, imm⟩ = decide (imm ≤ 9) from by rw [Hv4.out, decide_eq_true w0]; rfl)
        clear w0
        go_wp2
        go_ret
        exact ⟨ret_bool He.out.symm, Hb02.out⟩
      · have q : (w == 1) = false := by simpa using w0
        have He := kH (show R.pnode p (!left) k ⟨14, w, fl, args, imm⟩ = false from by rw [Hv4.out, decide_eq_false w0]; rfl)
        clear w0
        go_wp2
        go_ret
        exact ⟨ret_bool He.out.symm, Hb02.out⟩
    · have qo4 : (op == 14) = false := by simpa using e3
      have He := kH (show R.pnode p (!left) k ⟨op, w, fl, args, imm⟩ = (imm == 0) from by rw [Hv3.out, Him.out, if_neg e0, if_neg e1, if_neg e2, if_neg e3, dec_beq])
      clear hlt e0 e1 e2 e3
      go_wp2
      go_ret
      exact ⟨ret_bool He.out.symm, Hb02.out⟩
end
section
open Go.RowKit
theorem NdF.other' {B : Nat} {w w' : World} {us : List Value} {x : T.Nd} {row : Option Nat} (h : NdF B w us x) (hg : w.grownBy w' row) (hr : ∀ g cur T fr, row = some g → w.heap[g]? = some (.cells cur T fr) → T = 62) : NdF B w' us x := by
 obtain ⟨A, c, h1, h2, h3, h4, h5⟩ := h
 refine ⟨A, c, h1, h2.same fun g hg' => ?_, h3, h4, h5⟩
 rcases h2.2 with ⟨e, _⟩ | ⟨g', off, cap, cur, e, hcur, _⟩
 · rw [e] at hg'; simp [Value.ownBlock] at hg'
 · rw [e] at hg'
   simp [Value.ownBlock] at hg'
   subst hg'
   exact hg.block _ (gA hcur).1 (fun e => by have := hr _ cur _ _ e.symm hcur; revert this; decide)
theorem OwnR.put {B g off n c k : Nat} {w w' : World} {nds : List T.Nd} {cur cur' : Array Value} {y : T.Nd} {A2 : Option Addr} {c2 : Nat} (h : OwnR (NdF B) B w (.slice (some ⟨g, off, none⟩) n c) nds) (hn : nds.length = n) (hk : k < n) (hg : w.heap[g]? = some (.cells cur 62 (0, 0))) (hw : w.grownBy w' (some g)) (hrow : w'.heap[g]? = some (.cells cur' 62 (0, 0)))
 (hsz : cur'.size = cur.size) (hsame : ∀ j, (j < off + k * 5 ∨ off + k * 5 + 5 ≤ j) → cur'[j]? = cur[j]?) (hnew : ∀ i u, (ndC y A2 c2)[i]? = some u → cur'[off + k * 5 + i]? = some u) (hy : NdF B w' (ndC y A2 c2) y) :
 OwnR (NdF B) B w' (.slice (some ⟨g, off, none⟩) n c) (nds.set k y) := by
 subst hn
 obtain ⟨cells, h1, h2, h3⟩ := h
 have hcl := h1.1
 rcases h1.2 with ⟨e, _⟩ | ⟨g', off', cap, cur0, e, hg0, q1, q2, q3, q4⟩
 · cases e
 cases e
 rw [hg] at hg0
 cases hg0
 have hlen5 : (ndC y A2 c2).length = 5 := rfl
 have hks : k * 5 + 5 ≤ nds.length * 5 := by omega
 have hother : ∀ g' cur T fr, some g = some g' → w.heap[g']? = some (.cells cur T fr) → T = 62 := fun g' cur T fr e hc => by
  injection e with e
  subst e
  rw [hg] at hc
  injection hc with hc
  injection hc with _ hc _
  exact hc.symm
 have key : ∀ j, (cells.take (k * 5) ++ ndC y A2 c2 ++ cells.drop (k * 5 + 5))[j]? = if j < k * 5 then cells[j]? else if j < k * 5 + 5 then (ndC y A2 c2)[j - k * 5]? else cells[j]? := fun j => by
  by_cases j1 : j < k * 5
  · rw [if_pos j1, List.append_assoc, List.getElem?_append_left (by rw [List.length_take]; omega), List.getElem?_take, if_pos j1]
  · rw [if_neg j1]
    by_cases j2 : j < k * 5 + 5
    · rw [if_pos j2, List.append_assoc, List.getElem?_append_right (by rw [List.length_take]; omega), List.getElem?_append_left (by rw [List.length_take, hlen5]; omega), List.length_take, Nat.min_eq_left (by omega)]
    · rw [if_neg j2, List.getElem?_append_right (by rw [List.length_append, List.length_take, hlen5]; omega), List.length_append, List.length_take, hlen5, Nat.min_eq_left (by omega), List.getElem?_drop]
      congr 1
      omega
 refine ⟨cells.take (k * 5) ++ ndC y A2 c2 ++ cells.drop (k * 5 + 5), ⟨?_, .inr ⟨g, off, c, cur', by rw [List.length_set], hrow, by rw [List.length_set]; exact q1, q2, by rw [hsz]; exact q3, fun j u hu => ?_⟩⟩, fun i x hx => ?_, h3⟩
 · rw [List.length_set, List.length_append, List.length_append, List.length_take, List.length_drop, hlen5]; omega
 · rw [key] at hu
   split at hu
   · rename_i j1
     rw [hsame _ (.inl (by omega))]
     exact q4 j u hu
   · rename_i j1
     split at hu
     · rename_i j2
       have := hnew (j - k * 5) u hu
       rw [show off + k * 5 + (j - k * 5) = off + j by omega] at this
       exact this
     · rename_i j2
       rw [hsame _ (.inr (by omega))]
       exact q4 j u hu
 · have hkl : ∀ i, ((cells.take (k * 5) ++ ndC y A2 c2 ++ cells.drop (k * 5 + 5)).drop (i * 5)).take 5 = if i = k then ndC y A2 c2 else (cells.drop (i * 5)).take 5 := fun i => by
    apply List.ext_getElem?
    intro q
    rw [List.getElem?_take, List.getElem?_drop, key]
    by_cases hq : q < 5
    · rw [if_pos hq]
      by_cases hik : i = k
      · subst hik
        rw [if_pos rfl, if_neg (by omega), if_pos (by omega)]
        congr 1
        omega
      · rw [if_neg hik, List.getElem?_take, if_pos hq, List.getElem?_drop]
        by_cases hlt : i < k
        · rw [if_pos (by omega)]
        · rw [if_neg (by omega), if_neg (by omega)]
    · rw [if_neg hq]
      split
      · rw [List.getElem?_eq_none (by rw [hlen5]; omega)]
      · rw [List.getElem?_take, if_neg hq]
   rw [hkl]
   by_cases hik : i = k
   · subst hik
     rw [if_pos rfl]
     rw [List.getElem?_set, if_pos rfl, if_pos (by omega)] at hx
     cases hx
     exact hy
   · rw [if_neg hik]
     rw [List.getElem?_set_ne (fun e => hik e.symm)] at hx
     exact NdF.other' (h2 i x hx) hw hother
end
section
open Go.RowKit
def NdX (B : Nat) (Ex : Nat → Prop) (w : World) (us : List Value) (x : T.Nd) : Prop :=
 ∃ A c, us = ndC x A c ∧ OwnAt w 3 1 (.slice A x.args.length c) x.args.length (x.args.map (Value.int .i64)) ∧ 0 ≤ x.imm ∧ x.imm < 4294967296 ∧ ∀ g, (Value.slice A x.args.length c).ownBlock = some g → B ≤ g ∧ ¬ Ex g
theorem NdX.ndF {B : Nat} {Ex : Nat → Prop} {w : World} {us : List Value} {x : T.Nd} (h : NdX B Ex w us x) : NdF B w us x := by
 obtain ⟨A, c, h1, h2, h3, h4, h5⟩ := h
 exact ⟨A, c, h1, h2, h3, h4, fun g hg => (h5 g hg).1⟩
theorem NdX.re {B : Nat} {Ex Ex' : Nat → Prop} {w : World} {us : List Value} {x : T.Nd} (h : NdX B Ex w us x) (hE : ∀ i, i < w.heap.size → Ex' i → Ex i) : NdX B Ex' w us x := by
 obtain ⟨A, c, h1, h2, h3, h4, h5⟩ := h
 exact ⟨A, c, h1, h2, h3, h4, fun g hg => ⟨(h5 g hg).1, fun he => (h5 g hg).2 (hE g (h2.lt g hg) he)⟩⟩
theorem ndX_rel (B : Nat) (Ex : Nat → Prop) : NdRel B (NdX B Ex) := by
 constructor
 · intro w us x h
   exact (ndF_rel B).form h.ndF
 · intro w w' us x h hb
   obtain ⟨A, c, h1, h2, h3, h4, h5⟩ := h
   exact ⟨A, c, h1, h2.below hb h2.lt, h3, h4, h5⟩
 · intro w w' us x row h hg hr
   obtain ⟨A, c, h1, h2, h3, h4, h5⟩ := h
   refine ⟨A, c, h1, h2.same fun g hg' => ?_, h3, h4, h5⟩
   rcases h2.2 with ⟨e, _⟩ | ⟨g', off, cap, cur, e, hcur, _⟩
   · rw [e] at hg'; simp [Value.ownBlock] at hg'
   · rw [e] at hg'
     simp [Value.ownBlock] at hg'
     subst hg'
     refine hg.block _ (gA hcur).1 (fun e => ?_)
     obtain ⟨_, cur', fr, hc'⟩ := hr _ e.symm
     rw [hcur] at hc'
     injection hc' with hc'
     injection hc' with _ hc' _
     revert hc'
     decide
theorem OwnR.toF {B : Nat} {Ex : Nat → Prop} {w : World} {v : Value} {nds : List T.Nd} (h : OwnR (NdX B Ex) B w v nds) : OwnR (NdF B) B w v nds := by
 obtain ⟨cells, h1, h2, h3⟩ := h
 exact ⟨cells, h1, fun k x hx => (h2 k x hx).ndF, h3⟩
theorem OwnR.re {B : Nat} {Ex Ex' : Nat → Prop} {w : World} {v : Value} {nds : List T.Nd} (h : OwnR (NdX B Ex) B w v nds) (hE : ∀ i, i < w.heap.size → Ex' i → Ex i) : OwnR (NdX B Ex') B w v nds := by
 obtain ⟨cells, h1, h2, h3⟩ := h
 exact ⟨cells, h1, fun k x hx => (h2 k x hx).re hE, h3⟩
theorem OwnR.ex {B : Nat} {Ex : Nat → Prop} {w w' : World} {v : Value} {nds : List T.Nd} {row : Option Nat} (h : OwnR (NdX B Ex) B w v nds) (hg : w.grownBy w' row) (hr : ∀ g, row = some g → Ex g ∧ ∃ cur fr, w.heap[g]? = some (.cells cur 3 fr)) : OwnR (NdX B Ex) B w' v nds := by
 obtain ⟨cells, h1, h2, h3⟩ := h
 refine ⟨cells, h1.same fun g hg' => ?_, fun k x hx => ?_, h3⟩
 · rcases h1.2 with ⟨rfl, _⟩ | ⟨g', off, cap, cur, rfl, hcur, _⟩
   · simp [Value.ownBlock] at hg'
   · simp [Value.ownBlock] at hg'
     subst hg'
     refine hg.block _ (gA hcur).1 (fun e => ?_)
     obtain ⟨_, cur', fr, hc'⟩ := hr _ e.symm
     rw [hcur] at hc'
     injection hc' with hc'
     injection hc' with _ hc' _
     revert hc'
     decide
 · obtain ⟨A, c, q1, q2, q3, q4, q5⟩ := h2 k x hx
   exact ⟨A, c, q1, q2.same fun g hg' => hg.block g (q2.lt g hg') (fun e => (q5 g hg').2 (hr g e.symm).1), q3, q4, q5⟩
theorem OwnAt.pop {w : World} {e : TypeId} {A : Option Addr} {n c : Nat} {xs : List Value} (h : OwnAt w e 1 (.slice A (n + 1) c) (n + 1) xs) : OwnAt w e 1 (.slice A n c) n (xs.take n) := by
 have hl := h.1
 refine ⟨by rw [List.length_take]; omega, ?_⟩
 rcases h.2 with ⟨_, h2⟩ | ⟨g, off, cap, cur, e1, hg, q1, q2, q3, q4⟩
 · omega
 · cases e1
   exact .inr ⟨g, off, c, cur, rfl, hg, by omega, q2, q3, fun j u hu => by
    rw [List.getElem?_take] at hu
    split at hu
    · exact q4 j u hu
    · cases hu⟩
structure ShSt (W : World) (t : List T.Nd) (ga : Nat) (res : List T.Nd) (wr : World) (v5 v8 : Value) (tab : List Int) (S : List Nat) (out : List T.Nd) : Prop where
 bel : Below W.heap.size W wr
 inv : T.ShI t tab S out res
 ga0 : W.heap.size ≤ ga
 row : wr.heap[ga]? = some (.cells (tab.map (Value.int .i64)).toArray 3 (0, 0))
 stk : OwnAt wr 3 1 v8 S.length (S.reverse.map fun k : Nat => Value.int .i64 (k : Int))
 stb : ∀ g, v8.ownBlock = some g → W.heap.size ≤ g ∧ g ≠ ga
 own : OwnR (NdX W.heap.size (fun i => i = ga ∨ v8.ownBlock = some i)) W.heap.size wr v5 out
def shMes (t : List T.Nd) (tab : List Int) (S : List Nat) : Nat := T.untold tab * (t.length + 2) + (t.length + 1 - S.length)
section
variable {W : World} {t : List T.Nd} {ga : Nat} {res : List T.Nd} {wr w' : World} {v5 v8 : Value} {tab : List Int} {S : List Nat} {out : List T.Nd}
theorem ShSt.below (h : ShSt W t ga res wr v5 v8 tab S out) (hb : Below wr.heap.size wr w') : ShSt W t ga res w' v5 v8 tab S out :=
 ⟨h.bel.trans (hb.mono h.bel.size), h.inv, h.ga0, (hb.block _ (gA h.row).1).trans h.row, h.stk.below hb h.stk.lt, h.stb, h.own.below (ndX_rel _ _) hb⟩
theorem ShSt.tab_ (h : ShSt W t ga res wr v5 v8 tab S out) {k : Nat} {v : Int} (hv : tab[k]? = some v) : wr.cell? ⟨ga, k, none⟩ = some (.int .i64 v) := by
 rw [cell_of_row _ _ _ _ _ (0, 0) h.row]
 simp [hv]
theorem ShSt.top {A : Option Addr} {c m : Nat} {n : Nat} (h : ShSt W t ga res wr v5 (.slice A (m + 1) c) tab (n :: S) out) (hm : S.length = m) : ∃ b off, A = some ⟨b, off, none⟩ ∧ wr.cell? ⟨b, off + m, none⟩ = some (.int .i64 (n : Int)) ∧ b < wr.heap.size := by
 have h1 := h.stk
 have hl : (n :: S).length = m + 1 := by simp [hm]
 rw [hl] at h1
 rcases h1.2 with ⟨_, h2⟩ | ⟨g, off, cap, cur, e1, hg, q1, q2, q3, q4⟩
 · omega
 · cases e1
   refine ⟨g, off, rfl, ?_, (gA hg).1⟩
   rw [cell_of_row _ _ _ _ _ (0, 0) hg]
   refine q4 m _ ?_
   rw [List.getElem?_map, List.reverse_cons, List.getElem?_append_right (by simp [hm]), List.length_reverse, hm]
   simp
theorem ShSt.push {n : Nat} {x : T.Nd} {v' : Value} {E : TypeId} (h : ShSt W t ga res wr v5 v8 tab (n :: S) out) (ho : T.Ord t) (hx : t[n]? = some x) (hm : 0 ≤ T.miss tab x.args)
 (hown : OwnAt w' 3 1 v' (S.length + 1 + 1) (((n :: S).reverse.map fun k : Nat => Value.int .i64 (k : Int)) ++ [.int .i64 (T.miss tab x.args)])) (hgr : (wr.alloc (.cells #[.int .i64 (T.miss tab x.args)] E)).grownBy w' v8.ownBlock) (hat : v'.ownBlock = v8.ownBlock ∨ v'.ownBlock = some (wr.heap.size + 1)) :
 ShSt W t ga res w' v5 v' tab ((T.miss tab x.args).toNat :: n :: S) out ∧ shMes t tab ((T.miss tab x.args).toNat :: n :: S) < shMes t tab (n :: S) := by
 have hba : Below wr.heap.size wr (wr.alloc (.cells #[.int .i64 (T.miss tab x.args)] E)) := al0
 have h2 := h.below hba
 have hgl := (gA h.row).1
 have hp := h.inv.push ho hx hm
 have hgrow : ∀ g, v8.ownBlock = some g → ∃ cur fr, (wr.alloc (.cells #[.int .i64 (T.miss tab x.args)] E)).heap[g]? = some (.cells cur 3 fr) := fun g hg => by
  rcases h2.stk.2 with ⟨rfl, _⟩ | ⟨g', off, cap, cur, rfl, hcur, _⟩
  · simp [Value.ownBlock] at hg
  · simp [Value.ownBlock] at hg
    subst hg
    exact ⟨cur, _, hcur⟩
 refine ⟨⟨h2.bel.grown hgr h2.bel.size (fun g hg => (h.stb g hg).1), hp.1, h.ga0, ?_, ?_, fun g hg => ?_, ?_⟩, ?_⟩
 · rw [hgr.block ga (by simp; omega) (fun e => (h.stb ga e.symm).2 rfl)]
   exact h2.row
 · have e : ((((T.miss tab x.args).toNat :: n :: S).reverse.map fun k : Nat => Value.int .i64 (k : Int))) = ((n :: S).reverse.map fun k : Nat => Value.int .i64 (k : Int)) ++ [.int .i64 (T.miss tab x.args)] := by
    have : ((T.miss tab x.args).toNat :: n :: S).reverse = (n :: S).reverse ++ [(T.miss tab x.args).toNat] := by simp
    rw [this, List.map_append]
    simp [Int.toNat_of_nonneg hm]
   rw [e]
   exact hown
 · rcases hat with e | e
   · rw [e] at hg; exact h.stb g hg
   · rw [e] at hg
     injection hg with hg
     have := h.bel.size
     omega
 · have h3 := h2.own.ex hgr (fun g hg => ⟨.inr hg, hgrow g hg⟩)
   rcases hat with e | e
   · rw [e]; exact h3
   · have h4 := (h2.own.re (Ex' := fun i => i = ga ∨ v8.ownBlock = some i ∨ i = wr.heap.size + 1) (fun i hi h => by
      rcases h with h | h | h
      · exact .inl h
      · exact .inr h
      · simp at hi; omega)).ex hgr (fun g hg => ⟨.inr (.inl hg), hgrow g hg⟩)
     refine h4.re fun i _ h => ?_
     rcases h with h | h
     · exact .inl h
     · rw [e] at h
       injection h with h
       exact .inr (.inr h.symm)
 · have h1 := T.asc_len hp.1.asc hp.1.lt
   unfold shMes
   simp only [List.length_cons] at h1 ⊢
   omega
theorem wpList_append_nodeR2 {R : World → List Value → T.Nd → Prop} {B : Nat} (hR : NdRel B R) {w : World} {ops : Array Oper} {rest : List Oper} {o : Oper} {a : Act} {Q : Exit → Act → World → Prop} (hgd : o.guard = none) (sx x : Operand)
 (ho : o.op = .call { callee := .builtin .append, args := #[sx, x], argTypes := #[22, 22] })
 (v : Value) (nds : List T.Nd) (hs : a.eval sx = v) (hown : OwnR R B w v nds) (us : List Value) (nd : T.Nd) (hnd : R w us nd) (p : Nat) (hp : p = w.heap.size)
 (hx : a.eval x = .slice (some ⟨p, 0, none⟩) 1 1) (hn : nds.length ≤ 900000) (hB : B ≤ w.heap.size)
 (h : ∀ v' w', OwnR R B w' v' (nds ++ [nd]) → (w.alloc (.cells us.toArray 62)).grownBy w' v.ownBlock → wpList Tryz.prog ops Q rest (a.put o.dst v') w') :
 wpList Tryz.prog ops Q (o :: rest) a (w.alloc (.cells us.toArray 62)) := by
 subst hp
 have hl : us.length = 5 := by obtain ⟨A, c, rfl, _⟩ := hR.form hnd; rfl
 have h1' : ∀ u ∈ us, u.oneCell' = true := by obtain ⟨A, c, rfl, _⟩ := hR.form hnd; exact ndC_one _ _ _
 have hba : Below w.heap.size w (w.alloc (.cells us.toArray 62)) := al0
 obtain ⟨cells, h1, h2, h3⟩ := id hown
 have hrow := (hown.below hR hba).row
 have hcl := h1.1
 refine wpList_append_src _ hgd sx x 22 ho 62 _ 5 56 Tryz.underlying22 infoNode rfl (by decide) v nds.length cells hs (h1.below hba h1.lt) _ 1 1 us hx (by rw [hl]) (src_new w us 62) h1' (by omega) (by decide) ?_
 intro v' w' hown' hgr hat
 refine h v' w' ⟨cells ++ us, by rw [List.length_append]; exact hown', ?_, ?_⟩ hgr
 · intro k y hy
   rcases Nat.lt_or_ge k nds.length with hk | hk
   · rw [List.getElem?_append_left hk] at hy
     have e : ((cells ++ us).drop (k * 5)).take 5 = (cells.drop (k * 5)).take 5 := by
      rw [List.drop_append_of_le_length (by omega), List.take_append_of_le_length (by rw [List.length_drop]; omega)]
     rw [e]
     exact hR.grown (hR.below (h2 k y hy) hba) hgr hrow
   · rw [List.getElem?_append_right hk] at hy
     have hk0 : k = nds.length := by
      rcases Nat.eq_zero_or_pos (k - nds.length) with e | e
      · omega
      · rw [List.getElem?_eq_none (by simp; omega)] at hy; cases hy
     subst hk0
     simp at hy
     subst hy
     have e : ((cells ++ us).drop (nds.length * 5)).take 5 = us := by
      rw [← hcl, List.drop_left, List.take_of_length_le (by omega)]
     rw [e]
     exact hR.grown (hR.below hnd hba) hgr hrow
 · intro g hg
   rcases hat with e | e
   · exact h3 g (by rw [← e]; exact hg)
   · rw [e] at hg
     simp at hg
     omega
theorem own_pop (A : Option Addr) (n m c : Nat) : (Value.slice A n c).ownBlock = (Value.slice A m c).ownBlock := by cases A <;> rfl
theorem setCell_grown (w : World) (g k : Nat) (u : Value) : w.grownBy (w.setCell ⟨g, k, none⟩ u) (some g) :=
 ⟨rfl, rfl, rfl, by simp, fun i _ hn => heap_setCell_other _ _ _ _ (fun e => hn (by rw [e]))⟩
theorem tab_set (tab : List Int) (n : Nat) (v : Int) : ((tab.map (Value.int .i64)).toArray.setIfInBounds n (.int .i64 v)) = ((tab.set n v).map (Value.int .i64)).toArray := by
 rw [List.setIfInBounds_toArray, List.map_set]
def toldNd (tab : List Int) (x : T.Nd) : T.Nd := ⟨x.op, x.w, x.fl, x.args.map fun a => tab.getD a.toNat 0, x.imm⟩
theorem ShSt.set (h : ShSt W t ga res wr v5 v8 tab S out) (k : Nat) (u : Value) : OwnR (NdX W.heap.size (fun i => i = ga ∨ v8.ownBlock = some i)) W.heap.size (wr.setCell ⟨ga, k, none⟩ u) v5 out ∧ Below W.heap.size W (wr.setCell ⟨ga, k, none⟩ u) ∧ (wr.setCell ⟨ga, k, none⟩ u).heap[ga]? = some (.cells ((tab.map (Value.int .i64)).toArray.setIfInBounds k u) 3 (0, 0)) ∧ OwnAt (wr.setCell ⟨ga, k, none⟩ u) 3 1 v8 S.length (S.reverse.map fun k : Nat => Value.int .i64 (k : Int)) := by
 refine ⟨h.own.ex (setCell_grown wr ga k u) (fun g hg => ?_), h.bel.setCell (p := ⟨ga, k, none⟩) h.ga0 _, heap_setCell_same _ _ _ _ _ _ h.row, h.stk.setCell (p := ⟨ga, k, none⟩) (fun e => (h.stb ga e).2 rfl) _⟩
 injection hg with hg
 subst hg
 exact ⟨.inl rfl, _, _, h.row⟩
theorem ShSt.mes {n : Nat} (h : ShSt W t ga res wr v5 v8 tab (n :: S) out) {tab' : List Int} (hc : T.untold tab' + 1 = T.untold tab) : shMes t tab' S < shMes t tab (n :: S) := by
 unfold shMes
 rw [← hc, Nat.add_mul]
 simp only [List.length_cons]
 omega
theorem ShSt.found {A : Option Addr} {c m n : Nat} {x : T.Nd} (h : ShSt W t ga res wr v5 (.slice A (m + 1) c) tab (n :: S) out) (hm : S.length = m) (ho : T.Ord t) (hx : t[n]? = some x) (ht : ∀ a ∈ x.args, 0 ≤ tab.getD a.toNat 0) (hy : toldNd tab x ∈ out) :
 ShSt W t ga res (wr.setCell ⟨ga, n, none⟩ (.int .i64 (out.idxOf (toldNd tab x) : Int))) v5 (.slice A m c) (tab.set n (out.idxOf (toldNd tab x) : Int)) S out ∧ shMes t (tab.set n (out.idxOf (toldNd tab x) : Int)) S < shMes t tab (n :: S) := by
 obtain ⟨p1, p2⟩ := h.inv.pop ho hx ht
 have e : T.addN out (toldNd tab x) = (out, (out.idxOf (toldNd tab x) : Int)) := by unfold T.addN; rw [if_pos hy]
 rw [show (⟨x.op, x.w, x.fl, x.args.map fun a => tab.getD a.toNat 0, x.imm⟩ : T.Nd) = toldNd tab x from rfl, e] at p1 p2
 obtain ⟨s1, s2, s3, s4⟩ := h.set n (.int .i64 (out.idxOf (toldNd tab x) : Int))
 refine ⟨⟨s2, p1, h.ga0, ?_, ?_, fun g hg => h.stb g (by rw [own_pop A (m + 1) m]; exact hg), ?_⟩, h.mes p2⟩
 · rw [s3, tab_set]
 · have hl : (n :: S).length = m + 1 := by simp [hm]
   rw [hl] at s4
   have := s4.pop
   rw [hm]
   have e2 : (((n :: S).reverse.map fun k : Nat => Value.int .i64 (k : Int)).take m) = S.reverse.map fun k : Nat => Value.int .i64 (k : Int) := by
    rw [List.reverse_cons, List.map_append, List.take_append_of_le_length (by simp [hm]), List.take_of_length_le (by simp [hm])]
   rw [e2] at this
   exact this
 · rw [own_pop A m (m + 1)]; exact s1
theorem ShSt.fresh {A A2 : Option Addr} {c c2 m n : Nat} {x : T.Nd} {v' : Value} (h : ShSt W t ga res wr v5 (.slice A (m + 1) c) tab (n :: S) out) (hm : S.length = m) (ho : T.Ord t) (hx : t[n]? = some x) (ht : ∀ a ∈ x.args, 0 ≤ tab.getD a.toNat 0) (hy : toldNd tab x ∉ out)
 (hown : OwnR (NdX W.heap.size (fun i => i = ga ∨ (Value.slice A (m + 1) c).ownBlock = some i)) W.heap.size w' v' (out ++ [toldNd tab x])) (hgr : ((wr.setCell ⟨ga, n, none⟩ (.int .i64 (out.length : Int))).alloc (.cells (ndC (toldNd tab x) A2 c2).toArray 62)).grownBy w' v5.ownBlock) :
 ShSt W t ga res w' v' (.slice A m c) (tab.set n (out.length : Int)) S (out ++ [toldNd tab x]) ∧ shMes t (tab.set n (out.length : Int)) S < shMes t tab (n :: S) := by
 obtain ⟨p1, p2⟩ := h.inv.pop ho hx ht
 have e : T.addN out (toldNd tab x) = (out ++ [toldNd tab x], (out.length : Int)) := by
  unfold T.addN
  rw [if_neg hy, List.idxOf_eq_length hy]
 rw [show (⟨x.op, x.w, x.fl, x.args.map fun a => tab.getD a.toNat 0, x.imm⟩ : T.Nd) = toldNd tab x from rfl, e] at p1 p2
 obtain ⟨s1, s2, s3, s4⟩ := h.set n (.int .i64 (out.length : Int))
 generalize wr.setCell ⟨ga, n, none⟩ (.int .i64 (out.length : Int)) = Y at *
 have hba : Below Y.heap.size Y (Y.alloc (.cells (ndC (toldNd tab x) A2 c2).toArray 62)) := al0
 have hrow5 := (s1.below (ndX_rel _ _) hba).row
 have hne : ∀ g cur, (Y.alloc (.cells (ndC (toldNd tab x) A2 c2).toArray 62)).heap[g]? = some (.cells cur 3 (0, 0)) → v5.ownBlock ≠ some g := fun g cur hc e => by
  obtain ⟨_, cur', fr, hc'⟩ := hrow5 g e
  rw [hc] at hc'
  injection hc' with hc'
  injection hc' with _ hc' _
  revert hc'
  decide
 have hga := (hba.block _ (gA s3).1).trans s3
 refine ⟨⟨(s2.trans (hba.mono s2.size)).grown hgr (Nat.le_trans s2.size hba.size) (fun g hg => (hrow5 g hg).1), p1, h.ga0, ?_, ?_, fun g hg => h.stb g (by rw [own_pop A (m + 1) m]; exact hg), ?_⟩, h.mes p2⟩
 · rw [hgr.block ga (gA hga).1 (fun e => hne ga _ hga e.symm), hga, tab_set]
 · have hl : (n :: S).length = m + 1 := by simp [hm]
   rw [hl] at s4
   have hp := (s4.below hba s4.lt)
   have hp2 := hp.same (w' := w') (fun g hg => hgr.block g (hp.lt g hg) (fun e => by
    rcases hp.2 with ⟨_, h2⟩ | ⟨g', off, cap, cur, e1, hcur, _⟩
    · omega
    · rw [e1] at hg
      simp [Value.ownBlock] at hg
      subst hg
      exact hne g' _ hcur e.symm))
   have := hp2.pop
   rw [hm]
   have e2 : (((n :: S).reverse.map fun k : Nat => Value.int .i64 (k : Int)).take m) = S.reverse.map fun k : Nat => Value.int .i64 (k : Int) := by
    rw [List.reverse_cons, List.map_append, List.take_append_of_le_length (by simp [hm]), List.take_of_length_le (by simp [hm])]
   rw [e2] at this
   exact this
 · rw [own_pop A m (m + 1)]; exact hown
end
end
end Go.Proofs.YtbiopedpceddeaaGreatDoor
