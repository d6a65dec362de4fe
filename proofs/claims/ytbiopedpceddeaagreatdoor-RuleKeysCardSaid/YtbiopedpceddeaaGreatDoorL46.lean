/- Keys (the reference): whether each condition is in another list. -/
import Derived.Test.YtbiopedpceddeaaGreatDoorL44
import Derived.Test.YtbiopedpceddeaaGreatDoorL09
import Derived.Test.YtbiopedpceddeaaGreatDoorL07
import Derived.Laws.StructEq
import Derived.Deep.DeepCutAuto
set_option linter.unusedVariables false
set_option linter.unusedSimpArgs false
namespace Go.Proofs.YtbiopedpceddeaaGreatDoor
open Go.RowKit
set_option linter.unusedVariables false
set_option linter.unusedSimpArgs false

theorem cdStruct : Tryz.prog.underlying 88 = some (.struct (Tryz.prog.fieldsOf 88)) := by kernel_rfl
theorem cdHeld : Tryz.prog.stoodInHeld 88 = false := by kernel_rfl
theorem cdGuard : Tryz.prog.eqGuardType Tryz.prog.depth 88 = false := by kernel_rfl
theorem cdFields : ∃ f0 f1 f2 : Field, (Tryz.prog.fieldsOf 88).toList = [f0, f1, f2] ∧ (f0.name ≠ "_" ∧ f1.name ≠ "_" ∧ f2.name ≠ "_") ∧ (f0.type = 3 ∧ f1.type = 3 ∧ f2.type = 26) ∧ f0.offset = 0 ∧ f1.offset = 1 ∧ f2.offset = 2 := by
  have h : Tryz.prog.underlying 88 = some (.struct (Tryz.prog.fieldsOf 88)) := cdStruct
  rw [Tryz.underlying88] at h
  injection h with h
  injection h with h
  rw [← h]
  exact ⟨_, _, _, rfl, ⟨by decide, by decide, by decide⟩, ⟨rfl, rfl, rfl⟩, rfl, rfl, rfl⟩

theorem run_eql_cd (x y : R.Cd) (w : World) : (binOp .eql 88 (.agg #[.int .i64 x.kind, .int .i64 x.hole, .int .u32 x.imm]) (.agg #[.int .i64 y.kind, .int .i64 y.hole, .int .u32 y.imm])).run Tryz.prog w = .ok (.bool (decide (x = y))) w := by
  obtain ⟨f0, f1, f2, hf, ⟨n0, n1, n2⟩, ⟨t0, t1, t2⟩, o0, o1, o2⟩ := cdFields
  rw [run_eql_struct, show (10000 : Nat) = 9999 + 1 from rfl, run_equalIn_agg _ _ _ _ _ cdStruct cdHeld, hf]
  have c0 : Tryz.prog.cellsOf 3 = 1 := by kernel_rfl
  have c1 : Tryz.prog.cellsOf 26 = 1 := by kernel_rfl
  have e : (9999 : Nat) = 9998 + 1 := rfl
  rw [e]
  generalize 9998 = d
  have i0 := fun a b => run_equalIn_int (P := Tryz.prog) w d 3 .i64 .i64 a b Tryz.underlying3
  have i1 := fun a b => run_equalIn_int (P := Tryz.prog) w d 26 .u32 .u32 a b Tryz.underlying26
  have hd : decide (x = y) = ((x.kind == y.kind) && ((x.hole == y.hole) && (x.imm == y.imm))) := by
    obtain ⟨a, b, c⟩ := x
    obtain ⟨a', b', c'⟩ := y
    rw [Bool.eq_iff_iff]
    simp
  rw [hd]
  generalize hb0 : (x.kind == y.kind) = b0
  generalize hb1 : (x.hole == y.hole) = b1
  generalize hb2 : (x.imm == y.imm) = b2
  have j0 := (i0 x.kind y.kind).trans (by rw [hb0])
  have j1 := (i0 x.hole y.hole).trans (by rw [hb1])
  have j2 := (i1 x.imm y.imm).trans (by rw [hb2])
  cases b0 <;> cases b1 <;> cases b2 <;> simp [Op.eqFields, n0, n1, n2, t0, t1, t2, o0, o1, o2, part, c0, c1, go_sem, j0, j1, j2] <;> (simp at hb0 hb1 hb2) <;> simp_all

/-- two conditions compared, in a region that draws its order -/
theorem quiet_cde {C : World → Prop} {K : Act → Prop} {a : Act} {o : Oper} {xo yo : Operand} {T2 : TypeId} (h : o.op = .binOp .eql 88 xo yo T2) (x y : R.Cd) (hx : a.eval xo = .agg #[.int .i64 x.kind, .int .i64 x.hole, .int .u32 x.imm]) (hy : a.eval yo = .agg #[.int .i64 y.kind, .int .i64 y.hole, .int .u32 y.imm])
    (hk : K (a.put o.dst (.bool (decide (x = y))))) : o.quiet Tryz.prog a C K :=
  ⟨_, fun w _ => by
    unfold Oper.quietAt execOp
    rw [h]
    simp only [hx, hy]
    have g : (eqGuard .eql 88 xo yo (.agg #[.int .i64 x.kind, .int .i64 x.hole, .int .u32 x.imm]) (.agg #[.int .i64 y.kind, .int .i64 y.hole, .int .u32 y.imm])).run Tryz.prog w = .ok () w := by
      simp [eqGuard, Sem.run_bind, Sem.run_pure, Result.andThen_ok, go_sem, cdGuard]
    simp only [Sem.run_bind, Sem.run_pure, Result.andThen_ok, g, run_eql_cd]
    exact ⟨rfl, rfl⟩, hk⟩

set_option maxRecDepth 100000 in
set_option maxHeartbeats 2000000 in
theorem within_any {a b : List R.Cd} {na ca nb cb : Nat} {Aa Ab : Option Addr} {W : World} (hA : StAt 3 CdR W Aa na a) (hB : StAt 3 CdR W Ab nb b) :
    Calls Tryz.prog 71 #[.slice Aa na ca, .slice Ab nb cb] W fun e W' => e = .returned (.bool (KT.wi a b)) ∧ Below W.heap.size W W' := by
  have hla := hA.le
  have hlb := hB.le
  have HA := Lib.hid hA
  have HB := Lib.hid hB
  have Hna := Lib.hid hA.len
  have Hnb := Lib.hid hB.len
  obtain ⟨r, hr⟩ : ∃ r, KT.wi a b = r := ⟨_, rfl⟩
  rw [hr]
  have Hr := Lib.hid hr
  clear hA hB hr
  go_enter Tryz.func71, Tryz.ntmps71
  go_wp2
  go_loopg [5] (na + 1) (fun gg s5 wr => ∃ i : Nat, i ≤ na ∧ s5 = .int .i64 (i : Int) ∧ gg + i = na + 1 ∧ Hid (Below W.heap.size W wr) ∧ Hid (KT.wi (a.take i) b = true))
  case atStart => exact ⟨0, Nat.zero_le _, rfl, rfl, Lib.hid (Below.refl _ _), Lib.hid rfl⟩
  case round =>
    obtain ⟨gO, rfl⟩ : ∃ g, g = gk := ⟨_, rfl⟩
    obtain ⟨i, hi, rfl, hgk, Hb, Hw⟩ := hrel
    obtain ⟨w4, rfl⟩ : ∃ w, w = wr := ⟨_, rfl⟩
    have Hgk := Lib.hid hgk
    clear hgk
    by_cases hin : i < na
    · obtain ⟨x, bx, offx, hx, hAx, hbx, x0, x1, x2, _, _⟩ := cd_cells (HA.out.below monoCd Hb.out) hin
      subst hAx
      have Hx := Lib.hid hx
      have HX := Lib.hid (fun Y (h : Below w4.heap.size w4 Y) => show Y.cell? ⟨bx, offx + i * 3, none⟩ = some (.int .i64 x.kind) ∧ Y.cell? ⟨bx, offx + i * 3 + 1, none⟩ = some (.int .i64 x.hole) ∧ Y.cell? ⟨bx, offx + i * 3 + 2, none⟩ = some (.int .u32 x.imm) from ⟨(h.cell (p := ⟨bx, offx + i * 3, none⟩) hbx).trans x0, (h.cell (p := ⟨bx, offx + i * 3 + 1, none⟩) hbx).trans x1, (h.cell (p := ⟨bx, offx + i * 3 + 2, none⟩) hbx).trans x2⟩)
      clear hx hbx x0 x1 x2
      go_wp2
      go_loopg [6, 7] (nb + 1) (fun gg s6 s7 wz => ∃ k : Nat, k ≤ nb ∧ s6 = .bool (decide (x ∈ b.take k)) ∧ s7 = .int .i64 (k : Int) ∧ gg + k = nb + 1 ∧ Hid (Below w4.heap.size w4 wz))
      case atStart => exact ⟨0, Nat.zero_le _, by simp, rfl, rfl, Lib.hid (Below.refl _ _)⟩
      case round =>
        obtain ⟨k, hk, rfl, rfl, hgk2, Hbz⟩ := hrel
        obtain ⟨w5, rfl⟩ : ∃ w, w = wr := ⟨_, rfl⟩
        have Hgk2 := Lib.hid hgk2
        clear hgk2
        obtain ⟨f, hf⟩ : ∃ f, decide (x ∈ b.take k) = f := ⟨_, rfl⟩
        rw [hf]
        have Hf := Lib.hid hf
        clear hf
        by_cases hkn : k < nb
        · obtain ⟨y, by_, offy, hy, hAy, hby, y0, y1, y2, _, _⟩ := cd_cells (HB.out.below monoCd (Hb.out.trans (Hbz.out.mono Hb.out.size))) hkn
          subst hAy
          obtain ⟨x0, x1, x2⟩ := HX.out _ Hbz.out
          have Hy := Lib.hid hy
          have Hst := Lib.hid (show decide (x ∈ b.take (k + 1)) = (f || decide (x = y)) from by
            rw [List.take_add_one, hy, ← Hf.out, Bool.eq_iff_iff]
            simp [List.mem_append])
          obtain ⟨ov⟩ := ov_ex w5
          have o0 := ov.cell x0
          have o1 := ov.cell x1
          have o2 := ov.cell x2
          have p0 := ov.cell y0
          have p1 := ov.cell y1
          have p2 := ov.cell y2
          clear hy hby x0 x1 x2 y0 y1 y2
          cases f with
          | true =>
            have Hn := Lib.hid (show decide (x ∈ b.take (k + 1)) = true from by rw [Hst.out]; rfl)
            go_upto_region 8 with (fail)
            refine wp_region_ovq ov (by kernel_rfl) (by kernel_rfl) ?_
            repeat (go_big_quiet_step (fail))
            refine wpQuiet_nil ?_
            rintro _ ⟨u, rfl⟩
            have Hbo := Lib.hid (Hbz.out.trans ((ov.below u).mono Hbz.out.size))
            clear o0 o1 o2 p0 p1 p2
            generalize ov.f u = w6 at *
            go_wp2
            go_roundg (gk - 1)
            case measure => have := Hgk2.out; omega
            case rel => have := Hgk2.out; exact ⟨k + 1, by omega, by rw [Hn.out], by go_num, by omega, Hbo⟩
          | false =>
            have Hn := Lib.hid (show decide (x ∈ b.take (k + 1)) = decide (x = y) from by rw [Hst.out]; rfl)
            go_upto_region 8 with (fail)
            refine wp_region_ovq ov (by kernel_rfl) (by kernel_rfl) ?_
            iterate 10 (go_big_quiet_step (fail))
            refine BigFrame.wpQuiet_want (by rfl) ?_
            intro K hK
            refine quiet_cde rfl x y rfl rfl ?_
            refine hK _ ?_
            obtain ⟨d, hd⟩ : ∃ d, decide (x = y) = d := ⟨_, rfl⟩
            rw [hd] at Hn ⊢
            clear hd hK K
            (try simp only [Act.put, List.setIfInBounds_toArray, List.set_cons_zero, List.set_cons_succ])
            repeat (go_big_quiet_step (fail))
            refine wpQuiet_nil ?_
            rintro _ ⟨u, rfl⟩
            have Hbo := Lib.hid (Hbz.out.trans ((ov.below u).mono Hbz.out.size))
            clear o0 o1 o2 p0 p1 p2
            generalize ov.f u = w6 at *
            go_wp2
            go_roundg (gk - 1)
            case measure => have := Hgk2.out; omega
            case rel => have := Hgk2.out; exact ⟨k + 1, by omega, by rw [Hn.out], by go_num, by omega, Hbo⟩
        · obtain rfl : k = nb := by omega
          have Hm := Lib.hid (show decide (x ∈ b) = f from by
            rw [← Hf.out, List.take_of_length_le (by rw [Hnb.out]; exact Nat.le_refl _)])
          cases f with
          | true =>
            have Hn := Lib.hid (show KT.wi (a.take (i + 1)) b = true from by
              rw [List.take_add_one, Hx.out]
              unfold KT.wi
              rw [Option.toList_some, List.all_append, show ((a.take i).all fun c => decide (c ∈ b)) = true from Hw.out]
              simp only [List.all_cons, List.all_nil, Bool.and_true, Bool.true_and]
              exact Hm.out)
            go_wp2
            go_roundg (gO - 1)
            case measure => have := Hgk.out; omega
            case rel => have := Hgk.out; exact ⟨i + 1, by omega, by go_num, by omega, Lib.hid (Hb.out.trans (Hbz.out.mono Hb.out.size)), Hn⟩
          | false =>
            have Hfe := Lib.hid (show r = false from by
              rw [← Hr.out]
              unfold KT.wi
              rw [List.all_eq_false]
              exact ⟨x, List.mem_of_getElem? Hx.out, by rw [Hm.out]; simp⟩)
            go_wp2
            go_ret
            exact ⟨by rw [Hfe.out]; rfl, Hb.out.trans (Hbz.out.mono Hb.out.size)⟩
    · obtain rfl : i = na := by omega
      have Hfe := Lib.hid (show r = true from by
        have h := Hw.out
        rw [List.take_of_length_le (by rw [Hna.out]; exact Nat.le_refl _)] at h
        rw [← Hr.out, h])
      go_wp2
      go_ret
      exact ⟨by rw [Hfe.out]; rfl, Hb.out⟩
end Go.Proofs.YtbiopedpceddeaaGreatDoor
