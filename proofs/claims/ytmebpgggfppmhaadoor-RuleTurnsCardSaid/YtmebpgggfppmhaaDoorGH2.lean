/- Rules: two conditions compared (a closed law of the run). -/
import Derived.Test.YtmebpgggfppmhaaDoorGH1
import Derived.Laws.StructEq
set_option linter.unusedVariables false
set_option linter.unusedSimpArgs false
section
namespace Go.Proofs.YtmebpgggfppmhaaDoor
open Go.RowKit
set_option linter.unusedVariables false
set_option linter.unusedSimpArgs false

theorem cdStruct : Tryd.prog.underlying 85 = some (.struct (Tryd.prog.fieldsOf 85)) := by kernel_rfl
theorem cdHeld : Tryd.prog.stoodInHeld 85 = false := by kernel_rfl
theorem cdGuard : Tryd.prog.eqGuardType Tryd.prog.depth 85 = false := by kernel_rfl
theorem cdFields : ∃ f0 f1 f2 : Field, (Tryd.prog.fieldsOf 85).toList = [f0, f1, f2] ∧ (f0.name ≠ "_" ∧ f1.name ≠ "_" ∧ f2.name ≠ "_") ∧ (f0.type = 3 ∧ f1.type = 3 ∧ f2.type = 39) ∧ f0.offset = 0 ∧ f1.offset = 1 ∧ f2.offset = 2 := by
  have h : Tryd.prog.underlying 85 = some (.struct (Tryd.prog.fieldsOf 85)) := cdStruct
  rw [Tryd.underlying85] at h
  injection h with h
  injection h with h
  rw [← h]
  exact ⟨_, _, _, rfl, ⟨by decide, by decide, by decide⟩, ⟨rfl, rfl, rfl⟩, rfl, rfl, rfl⟩

theorem run_neq_cd (x y : R.Cd) (w : World) : (binOp .neq 85 (.agg #[.int .i64 x.kind, .int .i64 x.hole, .int .u32 x.imm]) (.agg #[.int .i64 y.kind, .int .i64 y.hole, .int .u32 y.imm])).run Tryd.prog w = .ok (.bool (!decide (x = y))) w := by
  obtain ⟨f0, f1, f2, hf, ⟨n0, n1, n2⟩, ⟨t0, t1, t2⟩, o0, o1, o2⟩ := cdFields
  rw [run_neq_struct, show (10000 : Nat) = 9999 + 1 from rfl, run_equalIn_agg _ _ _ _ _ cdStruct cdHeld, hf]
  have c0 : Tryd.prog.cellsOf 3 = 1 := by kernel_rfl
  have c1 : Tryd.prog.cellsOf 39 = 1 := by kernel_rfl
  have e : (9999 : Nat) = 9998 + 1 := rfl
  rw [e]
  generalize 9998 = d
  have i0 := fun a b => run_equalIn_int (P := Tryd.prog) w d 3 .i64 .i64 a b Tryd.underlying3
  have i1 := fun a b => run_equalIn_int (P := Tryd.prog) w d 39 .u32 .u32 a b Tryd.underlying39
  have hd : decide (x = y) = ((x.kind == y.kind) && ((x.hole == y.hole) && (x.imm == y.imm))) := by
    obtain ⟨a, b, c⟩ := x
    obtain ⟨a', b', c'⟩ := y
    rw [Bool.eq_iff_iff]
    simp
  rw [hd]
  generalize hb0 : (x.kind == y.kind) = b0
  generalize hb1 : (x.hole == y.hole) = b1
  generalize hb2 : (x.imm == y.imm) = b2
  have j0 := (i0 x.kind y.kind).trans (by rw [hb0])
  have j1 := (i0 x.hole y.hole).trans (by rw [hb1])
  have j2 := (i1 x.imm y.imm).trans (by rw [hb2])
  cases b0 <;> cases b1 <;> cases b2 <;> simp [Op.eqFields, n0, n1, n2, t0, t1, t2, o0, o1, o2, part, c0, c1, go_sem, j0, j1, j2] <;> (simp at hb0 hb1 hb2) <;> simp_all

/-- two conditions compared, in a region that draws its order -/
theorem quiet_cd {C : World → Prop} {K : Act → Prop} {a : Act} {o : Oper} {xo yo : Operand} {T2 : TypeId} (h : o.op = .binOp .neq 85 xo yo T2) (x y : R.Cd) (hx : a.eval xo = .agg #[.int .i64 x.kind, .int .i64 x.hole, .int .u32 x.imm]) (hy : a.eval yo = .agg #[.int .i64 y.kind, .int .i64 y.hole, .int .u32 y.imm])
    (hk : K (a.put o.dst (.bool (!decide (x = y))))) : o.quiet Tryd.prog a C K :=
  ⟨_, fun w _ => by
    unfold Oper.quietAt execOp
    rw [h]
    simp only [hx, hy]
    have g : (eqGuard .neq 85 xo yo (.agg #[.int .i64 x.kind, .int .i64 x.hole, .int .u32 x.imm]) (.agg #[.int .i64 y.kind, .int .i64 y.hole, .int .u32 y.imm])).run Tryd.prog w = .ok () w := by
      simp [eqGuard, Sem.run_bind, Sem.run_pure, Result.andThen_ok, go_sem, cdGuard]
    simp only [Sem.run_bind, Sem.run_pure, Result.andThen_ok, g, run_neq_cd]
    exact ⟨rfl, rfl⟩, hk⟩
end Go.Proofs.YtmebpgggfppmhaaDoor
end
section
namespace Go.Proofs.YtmebpgggfppmhaaDoor
open Go.RowKit
set_option linter.unusedVariables false
set_option linter.unusedSimpArgs false

set_option maxRecDepth 100000 in
set_option maxHeartbeats 2000000 in
theorem rSame_any {r r' : R.Rl} {nl cl nr cr np cp nl' cl' nr' cr' np' cp' : Nat} {AL AR AP AL' AR' AP' : Option Addr} {W : World} (hR : RlAt W r nl nr np AL AR AP) (hR' : RlAt W r' nl' nr' np' AL' AR' AP') :
    Calls Tryd.prog 19 #[.agg #[.slice AL nl cl, .slice AR nr cr, .slice AP np cp], .agg #[.slice AL' nl' cl', .slice AR' nr' cr', .slice AP' np' cp']] W fun e W' => e = .returned (.bool (decide (r = r'))) ∧ Below W.heap.size W W' := by
  have hlp := hR.sp.le
  have hlp' := hR'.sp.le
  have Hlp := Lib.hid hR.sp.len
  have Hlp' := Lib.hid hR'.sp.len
  obtain ⟨W1, hW1⟩ : ∃ W1, W1 = (W.alloc (.cells #[.slice AL nl cl, .slice AR nr cr, .slice AP np cp] 25)).alloc (.cells #[.slice AL' nl' cl', .slice AR' nr' cr', .slice AP' np' cp'] 25) := ⟨_, rfl⟩
  have hb1 : Below W.heap.size W W1 := by rw [hW1]; exact ((Below.refl _ _).alloc (Nat.le_refl _) _).alloc (by simp) _
  have hrow : W1.heap[W.heap.size]? = some (.cells #[.slice AL nl cl, .slice AR nr cr, .slice AP np cp] 25 (0, 0)) := by rw [hW1]; exact row_alloc (heap_alloc_new W _) _
  have hrow2 : W1.heap[W.heap.size + 1]? = some (.cells #[.slice AL' nl' cl', .slice AR' nr' cr', .slice AP' np' cp'] 25 (0, 0)) := by rw [hW1]; exact new_two W _ _
  have Hrow := Lib.hid (fun (X : World) (h : Below W1.heap.size W1 X) => rl_cells ((h.block _ (Array.getElem?_eq_some_iff.1 hrow).1).trans hrow))
  have Hrow2 := Lib.hid (fun (X : World) (h : Below W1.heap.size W1 X) => rl_cells ((h.block _ (Array.getElem?_eq_some_iff.1 hrow2).1).trans hrow2))
  have Hb1 := Lib.hid hb1
  have HR := Lib.hid (hR.below hb1)
  have HR' := Lib.hid (hR'.below hb1)
  have HL := Lib.hid (fun X (h : Below W1.heap.size W1 X) => SameNodes_any (c := cl) (c' := cl') (HR.out.below h).sl (HR'.out.below h).sl)
  have HQ := Lib.hid (fun X (h : Below W1.heap.size W1 X) => SameNodes_any (c := cr) (c' := cr') (HR.out.below h).sr (HR'.out.below h).sr)
  have HW1 := Lib.hid hW1
  obtain ⟨d0, d1, d2, _⟩ := Hrow.out W1 (Below.refl _ _)
  obtain ⟨f0, f1, f2, _⟩ := Hrow2.out W1 (Below.refl _ _)
  rw [hW1] at d0 d1 d2 f0 f1 f2
  obtain ⟨res, hres⟩ : ∃ b, decide (r = r') = b := ⟨_, rfl⟩
  rw [hres]
  have Hv := Lib.hid (show res = (decide (r.left = r'.left) && (decide (r.right = r'.right) && decide (r.pre = r'.pre))) from by
    rw [← hres]
    obtain ⟨a, b, c⟩ := r
    obtain ⟨a', b', c'⟩ := r'
    rw [Bool.eq_iff_iff]
    simp)
  obtain ⟨bl, hbl⟩ : ∃ b, decide (r.left = r'.left) = b := ⟨_, rfl⟩
  obtain ⟨br, hbr⟩ : ∃ b, decide (r.right = r'.right) = b := ⟨_, rfl⟩
  rw [hbl] at Hv HL
  rw [hbr] at Hv HQ
  clear hR hR' hb1 hW1 hrow hrow2 hres hbl hbr
  cases bl with
  | false =>
    have Hr := Lib.hid (show res = false from by rw [Hv.out]; rfl)
    go_enter Tryd.func19, Tryd.ntmps19
    go_wp2_with fail
    rw [← HW1.out]
    (with_reducible refine (HL.out _ (Below.refl _ _)).mono ?_)
    rintro e w2 ⟨rfl, hb2⟩
    have Hb2 := Lib.hid (Hb1.out.trans (hb2.mono Hb1.out.size))
    clear hb2 d0 d1 d2 f0 f1 f2
    go_wp2
    go_ret
    exact ⟨by rw [Hr.out]; rfl, Hb2.out⟩
  | true =>
    cases br with
    | false =>
      have Hr := Lib.hid (show res = false from by rw [Hv.out]; rfl)
      go_enter Tryd.func19, Tryd.ntmps19
      go_wp2_with fail
      rw [← HW1.out]
      (with_reducible refine (HL.out _ (Below.refl _ _)).mono ?_)
      rintro e w2 ⟨rfl, hb2⟩
      have Hb2 := Lib.hid hb2
      obtain ⟨d0, d1, d2, _⟩ := Hrow.out _ hb2
      obtain ⟨f0, f1, f2, _⟩ := Hrow2.out _ hb2
      clear hb2
      go_wp2_with fail
      (with_reducible refine (HQ.out _ Hb2.out).mono ?_)
      rintro e w3 ⟨rfl, hb3⟩
      have Hb3 := Lib.hid (Hb1.out.trans ((Hb2.out.trans (hb3.mono Hb2.out.size)).mono Hb1.out.size))
      clear hb3 d0 d1 d2 f0 f1 f2
      go_wp2
      go_ret
      exact ⟨by rw [Hr.out]; rfl, Hb3.out⟩
    | true =>
      by_cases hlen : np = np'
      rotate_left
      · have q : ((np : Int) != (np' : Int)) = true := by simp; omega
        have Hr := Lib.hid (show res = false from by
          rw [Hv.out, decide_eq_false (show ¬ r.pre = r'.pre from fun h => hlen (by rw [← Hlp.out, ← Hlp'.out, h]))]; rfl)
        clear hlen
        go_enter Tryd.func19, Tryd.ntmps19
        go_wp2_with fail
        rw [← HW1.out]
        (with_reducible refine (HL.out _ (Below.refl _ _)).mono ?_)
        rintro e w2 ⟨rfl, hb2⟩
        have Hb2 := Lib.hid hb2
        obtain ⟨d0, d1, d2, _⟩ := Hrow.out _ hb2
        obtain ⟨f0, f1, f2, _⟩ := Hrow2.out _ hb2
        clear hb2
        go_wp2_with fail
        (with_reducible refine (HQ.out _ Hb2.out).mono ?_)
        rintro e w3 ⟨rfl, hb3⟩
        have Hb3 := Lib.hid (Hb2.out.trans (hb3.mono Hb2.out.size))
        obtain ⟨d0, d1, d2, _⟩ := Hrow.out _ Hb3.out
        obtain ⟨f0, f1, f2, _⟩ := Hrow2.out _ Hb3.out
        clear hb3
        go_wp2
        go_ret
        exact ⟨by rw [Hr.out]; rfl, Hb1.out.trans (Hb3.out.mono Hb1.out.size)⟩
      subst hlen
      have q : ((np : Int) != (np : Int)) = false := by simp
      have Hv2 := Lib.hid (show res = decide (r.pre = r'.pre) from by rw [Hv.out]; rfl)
      go_enter Tryd.func19, Tryd.ntmps19
      go_wp2_with fail
      rw [← HW1.out]
      (with_reducible refine (HL.out _ (Below.refl _ _)).mono ?_)
      rintro e w2 ⟨rfl, hb2⟩
      have Hb2 := Lib.hid hb2
      obtain ⟨d0, d1, d2, _⟩ := Hrow.out _ hb2
      obtain ⟨f0, f1, f2, _⟩ := Hrow2.out _ hb2
      clear hb2
      go_wp2_with fail
      (with_reducible refine (HQ.out _ Hb2.out).mono ?_)
      rintro e w3 ⟨rfl, hb3⟩
      have Hb3 := Lib.hid (Hb2.out.trans (hb3.mono Hb2.out.size))
      obtain ⟨d0, d1, d2, _⟩ := Hrow.out _ Hb3.out
      obtain ⟨f0, f1, f2, _⟩ := Hrow2.out _ Hb3.out
      clear hb3
      go_wp2
      clear d0 d1 d2 f0 f1 f2
      go_loopg [5] (np + 1) (fun gg i wr => ∃ j : Nat, j ≤ np ∧ i = .int .i64 (j : Int) ∧ gg + j = np + 1 ∧ Hid (Below W1.heap.size W1 wr) ∧ Hid (r.pre.take j = r'.pre.take j))
      case atStart => exact ⟨0, Nat.zero_le _, rfl, rfl, Hb3, Lib.hid rfl⟩
      case round =>
        obtain ⟨j, hj, rfl, hgk, Hbw, Heq⟩ := hrel
        obtain ⟨w4, rfl⟩ : ∃ w, w = wr := ⟨_, rfl⟩
        have Hgk := Lib.hid hgk; clear hgk
        obtain ⟨d0, d1, d2, _⟩ := Hrow.out _ Hbw.out
        obtain ⟨f0, f1, f2, _⟩ := Hrow2.out _ Hbw.out
        by_cases hjn : j < np
        · obtain ⟨x, b, off, hx, hA, hb, x0, x1, x2, i0, i1⟩ := cd_cells (HR.out.below Hbw.out).sp hjn
          obtain ⟨y, b', off', hy, hA', hb', y0, y1, y2, i0', i1'⟩ := cd_cells (HR'.out.below Hbw.out).sp hjn
          subst hA
          subst hA'
          have Hx := Lib.hid hx
          have Hy := Lib.hid hy
          clear hx hy hb hb' i0 i1 i0' i1'
          go_wp2
          obtain ⟨ov⟩ := ov_ex w4
          have o2 := ov.cell (Hrow.out _ Hbw.out).2.2.1
          have p2 := ov.cell (Hrow2.out _ Hbw.out).2.2.1
          have e0 := ov.cell x0
          have e1 := ov.cell x1
          have e2 := ov.cell x2
          have g0 := ov.cell y0
          have g1 := ov.cell y1
          have g2 := ov.cell y2
          refine wp_region_ovq ov (by kernel_rfl) (by kernel_rfl) ?_
          iterate 10 (go_big_quiet_step (fail))
          by_cases hxy : x = y
          · have hd : (!decide (x = y)) = false := by rw [decide_eq_true hxy]; rfl
            refine BigFrame.wpQuiet_want (by rfl) ?_
            intro K hK
            refine quiet_cd rfl x y rfl rfl ?_
            rw [hd]
            refine hK _ ?_
            refine wpQuiet_nil ?_
            rintro _ ⟨u, rfl⟩
            have Hbo := Lib.hid (Hbw.out.trans ((ov.below u).mono Hbw.out.size))
            have Hxy := Lib.hid hxy
            clear o2 p2 e0 e1 e2 g0 g1 g2 d0 d1 d2 f0 f1 f2 x0 x1 x2 y0 y1 y2 hd hxy
            generalize ov.f u = w5 at *
            clear hK K ov
            try simp only [Act.put, List.setIfInBounds_toArray, List.set_cons_zero, List.set_cons_succ]
            go_wp2
            go_roundg (gk - 1)
            case measure => have := Hgk.out; omega
            case rel =>
              have := Hgk.out
              exact ⟨j + 1, by omega, by go_num, by omega, Hbo, Lib.hid (by rw [take_next Hx.out, take_next Hy.out, Heq.out, Hxy.out])⟩
          · have hd : (!decide (x = y)) = true := by rw [decide_eq_false hxy]; rfl
            have Hr := Lib.hid (show res = false from by
              rw [Hv2.out]
              refine decide_eq_false fun h => hxy ?_
              have e1 := Hx.out
              rw [h, Hy.out] at e1
              exact (Option.some.inj e1).symm)
            refine BigFrame.wpQuiet_want (by rfl) ?_
            intro K hK
            refine quiet_cd rfl x y rfl rfl ?_
            rw [hd]
            refine hK _ ?_
            refine wpQuiet_nil ?_
            rintro _ ⟨u, rfl⟩
            have Hbo := Lib.hid (Hbw.out.trans ((ov.below u).mono Hbw.out.size))
            clear o2 p2 e0 e1 e2 g0 g1 g2 d0 d1 d2 f0 f1 f2 x0 x1 x2 y0 y1 y2 hd hxy
            generalize ov.f u = w5 at *
            clear hK K ov
            try simp only [Act.put, List.setIfInBounds_toArray, List.set_cons_zero, List.set_cons_succ]
            go_wp2
            go_ret
            exact ⟨by rw [Hr.out]; rfl, Hb1.out.trans (Hbo.out.mono Hb1.out.size)⟩
        · obtain rfl : j = np := by omega
          have he := Heq.out
          rw [List.take_of_length_le (by rw [Hlp.out]; exact Nat.le_refl _), List.take_of_length_le (by rw [Hlp'.out]; exact Nat.le_refl _)] at he
          have Hr := Lib.hid (show res = true from by rw [Hv2.out]; exact decide_eq_true he)
          clear he
          go_wp2
          go_ret
          exact ⟨by rw [Hr.out]; rfl, Hb1.out.trans (Hbw.out.mono Hb1.out.size)⟩
end Go.Proofs.YtmebpgggfppmhaaDoor
end
section
namespace Go.Proofs.YtmebpgggfppmhaaDoor
open Go.RowKit
set_option linter.unusedVariables false
set_option linter.unusedSimpArgs false

theorem infoCond : (Tryd.prog.info? 85).map (fun i => (i.zero, i.size, i.bytes)) = some (some (.agg #[.int .i64 0, .int .i64 0, .int .u32 0]), 3, 24) := by kernel_rfl

def EmptyC (g : Nat) (w : World) : Prop := ∃ cur, w.heap[g]? = some (.cells cur 85 (0, 0))
theorem EmptyC.below {g : Nat} {w w' : World} (h : EmptyC g w) (hb : Below w.heap.size w w') : EmptyC g w' := by
  obtain ⟨cur, h⟩ := h
  exact ⟨cur, (hb.block _ (Array.getElem?_eq_some_iff.1 h).1).trans h⟩
theorem EmptyC.ne {g n c : Nat} {w : World} (h : EmptyC g w) : ∀ g' cur T fr, (Value.slice (some ⟨g, 0, none⟩) n c).ownBlock = some g' → w.heap[g']? = some (.cells cur T fr) → T ≠ 3 ∧ T ≠ 41 := fun g' cur T fr e hc => by
  obtain ⟨cur', h⟩ := h
  simp [Value.ownBlock] at e
  subst e
  rw [h] at hc
  injection hc with hc
  injection hc with _ hc _
  subst hc
  exact ⟨by decide, by decide⟩

def CopyPost (W : World) (r : R.Rl) (e : Ending) (W' : World) : Prop :=
  ∃ v1 v2 v3, e = .returned (.agg #[v1, v2, v3]) ∧ OwnRl W.heap.size W' v1 v2 v3 r ∧ Below W.heap.size W W'

set_option maxRecDepth 100000 in
set_option maxHeartbeats 4000000 in
theorem Copy_any {r : R.Rl} {nl cl nr cr np cp : Nat} {AL AR AP : Option Addr} {W : World} (hL : StAt 5 NdR W AL nl r.left) (hQ : StAt 5 NdR W AR nr r.right) (hP : StAt 3 CdR W AP np r.pre) (hnl : nl ≤ 900000) (hnr : nr ≤ 900000) (hnp : np ≤ 900000) (hal : ∀ x ∈ r.left, x.args.length ≤ 900000) (har : ∀ x ∈ r.right, x.args.length ≤ 900000) :
    Calls Tryd.prog 16 #[.agg #[.slice AL nl cl, .slice AR nr cr, .slice AP np cp]] W (CopyPost W r) := by
  obtain ⟨W1, hW1⟩ : ∃ W1, W1 = (W.alloc (.cells #[.slice AL nl cl, .slice AR nr cr, .slice AP np cp] 25)).alloc (.cells #[.slice none 0 0, .slice none 0 0, .slice none 0 0] 25) := ⟨_, rfl⟩
  have hb1 : Below W.heap.size W W1 := by rw [hW1]; exact ((Below.refl _ _).alloc (Nat.le_refl _) _).alloc (by simp) _
  have hrow : W1.heap[W.heap.size]? = some (.cells #[.slice AL nl cl, .slice AR nr cr, .slice AP np cp] 25 (0, 0)) := by rw [hW1]; exact row_alloc (heap_alloc_new W _) _
  have hrow2 : W1.heap[W.heap.size + 1]? = some (.cells #[.slice none 0 0, .slice none 0 0, .slice none 0 0] 25 (0, 0)) := by rw [hW1]; exact new_two W _ _
  have Hrow := Lib.hid (fun (X : World) (h : Below W1.heap.size W1 X) => (h.block _ (Array.getElem?_eq_some_iff.1 hrow).1).trans hrow)
  have Hrow2 := Lib.hid (fun (X : World) (h : Below W1.heap.size W1 X) => (h.block _ (Array.getElem?_eq_some_iff.1 hrow2).1).trans hrow2)
  have HB1 := Lib.hid hb1
  have HlP := Lib.hid hP.len
  have Hnp := Lib.hid hnp
  have HL1 := Lib.hid (hL.below monoNd hb1)
  have HQ1 := Lib.hid (hQ.below monoNd hb1)
  have HP1 := Lib.hid (hP.below monoCd hb1)
  have HC1 := Lib.hid (show ∀ X, Below W1.heap.size W1 X → Calls Tryd.prog 48 #[.slice AL nl cl] X fun e X' => ∃ v, e = .returned v ∧ OwnR (NdF W1.heap.size) W1.heap.size X' v r.left ∧ Below X.heap.size X X' from fun X hX => (CopyNodes_any (ct := cl) (HL1.out.below monoNd hX) hnl hal).mono fun e X' ⟨v, h1, h2, h3⟩ => ⟨v, h1, h2.weak hX.size, h3⟩)
  have HC2 := Lib.hid (show ∀ X, Below W1.heap.size W1 X → Calls Tryd.prog 48 #[.slice AR nr cr] X fun e X' => ∃ v, e = .returned v ∧ OwnR (NdF W1.heap.size) W1.heap.size X' v r.right ∧ Below X.heap.size X X' from fun X hX => (CopyNodes_any (ct := cr) (HQ1.out.below monoNd hX) hnr har).mono fun e X' ⟨v, h1, h2, h3⟩ => ⟨v, h1, h2.weak hX.size, h3⟩)
  obtain ⟨us, hl, hs, hr⟩ := HP1.out.cells (by omega)
  have Hul := Lib.hid hl
  have Hus := Lib.hid (show ∀ X, Below W1.heap.size W1 X → ∀ (j : Nat) u, us[j]? = some u → ∃ ad : Addr, AP = some ad ∧ X.cell? (ad.add j) = some u from fun X hX => src_below hs hX)
  have Hr := Lib.hid hr
  have H1 := Lib.hid (show ∀ u ∈ us, u.oneCell' = true from fun u hu => by
    obtain ⟨j, hj⟩ := List.mem_iff_getElem?.1 hu
    have hjl : j < np * 3 := by have := (List.getElem?_eq_some_iff.1 hj).1; omega
    have hlen := HlP.out
    have hx := List.getElem?_eq_getElem (show j / 3 < r.pre.length by omega)
    obtain ⟨e, _⟩ := hr (j / 3) _ hx
    have h2 : ((us.drop (j / 3 * 3)).take 3)[j % 3]? = some u := by
      rw [List.getElem?_take, if_pos (by omega), List.getElem?_drop, show j / 3 * 3 + j % 3 = j by omega]
      exact hj
    rw [e] at h2
    have h3 := List.mem_of_getElem? h2
    unfold cdC at h3
    simp only [List.mem_cons, List.not_mem_nil, or_false] at h3
    rcases h3 with rfl | rfl | rfl <;> rfl)
  have HS := Lib.hid (show ∀ Y, Below W1.heap.size W1 Y → Y.cell? ⟨W.heap.size, 0, none⟩ = some (.slice AL nl cl) ∧ Y.cell? ⟨W.heap.size, 1, none⟩ = some (.slice AR nr cr) ∧ Y.cell? ⟨W.heap.size, 2, none⟩ = some (.slice AP np cp) from fun Y hY => by
    obtain ⟨h0, h1, h2, _⟩ := rl_cells (Hrow.out _ hY)
    exact ⟨h0, h1, h2⟩)
  have HS2 := Lib.hid (show ∀ Y (a0 a1 a2 : Value), Below W1.heap.size W1 Y → (set3 Y (W.heap.size + 1) a0 a1 a2).cell? ⟨W.heap.size, 0, none⟩ = some (.slice AL nl cl) ∧ (set3 Y (W.heap.size + 1) a0 a1 a2).cell? ⟨W.heap.size, 1, none⟩ = some (.slice AR nr cr) ∧ (set3 Y (W.heap.size + 1) a0 a1 a2).cell? ⟨W.heap.size, 2, none⟩ = some (.slice AP np cp) from fun Y a0 a1 a2 hY => by
    have hr0 := Hrow.out _ hY
    have hr3 := ((set3_grown Y (W.heap.size + 1) a0 a1 a2).block _ (Array.getElem?_eq_some_iff.1 hr0).1 (by simp)).trans hr0
    obtain ⟨h0, h1, h2, _⟩ := rl_cells hr3
    exact ⟨h0, h1, h2⟩)
  have Hb0 := Lib.hid (show Below W1.heap.size W1 W1.drew from (Below.refl _ _).drew)
  have Hbr := Lib.hid (Below.refl W1.heap.size W1)
  have HW1 := Lib.hid hW1
  clear hL hQ hP hnl hnr hal har hb1 hrow hrow2 hW1 hl hs hr hnp
  go_enter Tryd.func16, Tryd.ntmps16
  go_upto_region 1 with (fail)
  rw [← HW1.out]
  refine wp_region_held_drew (S := fun Y => Y.cell? ⟨W.heap.size, 0, none⟩ = some (.slice AL nl cl) ∧ Y.cell? ⟨W.heap.size, 1, none⟩ = some (.slice AR nr cr) ∧ Y.cell? ⟨W.heap.size, 2, none⟩ = some (.slice AP np cp)) (by kernel_rfl) (HS.out W1.drew Hb0.out) (fun hHeld => ?_)
  refine wpAnyH_take (i := 0) (oi := _) (v := ?_) rfl (by kernel_rfl) (by kernel_rfl) (by kernel_rfl) (fun _ _ _ h => h) (Or.inl ⟨by rfl, fun Y hY => ?_⟩) hHeld ?_
  rotate_left
  · (go_simp) <;> with_reducible rfl
  try simp only [Act.put, List.setIfInBounds_toArray, List.set_cons_zero, List.set_cons_succ, List.getElem_toArray, List.getElem_cons_succ, List.getElem_cons_zero]
  refine wpAnyH_take (i := 1) (oi := _) (v := ?_) rfl (by kernel_rfl) (by kernel_rfl) (by kernel_rfl) (fun _ _ _ h => h) (Or.inl ⟨by rfl, fun Y hY => ?_⟩) hHeld ?_
  rotate_left
  · obtain ⟨y0, y1, y2⟩ := hY
    (go_simp) <;> with_reducible rfl
  try simp only [Act.put, List.setIfInBounds_toArray, List.set_cons_zero, List.set_cons_succ, List.getElem_toArray, List.getElem_cons_succ, List.getElem_cons_zero]
  refine wpAnyH_take (i := 3) (oi := _) (v := ?_) rfl (by kernel_rfl) (by kernel_rfl) (by kernel_rfl) (fun _ _ _ h => h) (Or.inl ⟨by rfl, fun Y hY => ?_⟩) hHeld ?_
  rotate_left
  · (go_simp) <;> with_reducible rfl
  try simp only [Act.put, List.setIfInBounds_toArray, List.set_cons_zero, List.set_cons_succ, List.getElem_toArray, List.getElem_cons_succ, List.getElem_cons_zero]
  refine wpAnyH_take (i := 4) (oi := _) (v := ?_) rfl (by kernel_rfl) (by kernel_rfl) (by kernel_rfl) (fun _ _ _ h => h) (Or.inl ⟨by rfl, fun Y hY => ?_⟩) hHeld ?_
  rotate_left
  · obtain ⟨y0, y1, y2⟩ := hY
    (go_simp) <;> with_reducible rfl
  try simp only [Act.put, List.setIfInBounds_toArray, List.set_cons_zero, List.set_cons_succ, List.getElem_toArray, List.getElem_cons_succ, List.getElem_cons_zero]
  refine wpAnyH_take (i := 7) (oi := _) (v := ?_) rfl (by kernel_rfl) (by kernel_rfl) (by kernel_rfl) (fun _ _ _ h => h) (Or.inl ⟨by rfl, fun Y hY => ?_⟩) hHeld ?_
  rotate_left
  · (go_simp) <;> with_reducible rfl
  try simp only [Act.put, List.setIfInBounds_toArray, List.set_cons_zero, List.set_cons_succ, List.getElem_toArray, List.getElem_cons_succ, List.getElem_cons_zero]
  refine wpAnyH_take (i := 8) (oi := _) (v := ?_) rfl (by kernel_rfl) (by kernel_rfl) (by kernel_rfl) (fun _ _ _ h => h) (Or.inl ⟨by rfl, fun Y hY => ?_⟩) hHeld ?_
  rotate_left
  · obtain ⟨y0, y1, y2⟩ := hY
    (go_simp) <;> with_reducible rfl
  try simp only [Act.put, List.setIfInBounds_toArray, List.set_cons_zero, List.set_cons_succ, List.getElem_toArray, List.getElem_cons_succ, List.getElem_cons_zero]
  refine wpAnyH_ready (rs := [2, 6]) (by kernel_rfl) (by simp) ?_
  refine AllReadyH.cons (o := _) rfl (fun KK hKK => ?_) (AllReadyH.cons (o := _) rfl (fun KK hKK => ?_) AllReadyH.nil)
  · clear hHeld
    go_simp
    (with_reducible refine (HC1.out _ Hb0.out).mono ?_)
    rintro e x1 ⟨v1, rfl, hown, hb'⟩
    obtain ⟨A1, k1, rfl⟩ := hown.form
    have Hb1 := Lib.hid (Hb0.out.trans (hb'.mono Hb0.out.size))
    have HO1 := Lib.hid hown
    clear hown hb'
    refine hKK.out _ _ (HS.out _ Hb1.out) (fun hHeld => ?_)
    clear hKK KK
    try simp only [Act.put, List.setIfInBounds_toArray, List.set_cons_zero, List.set_cons_succ, List.getElem_toArray, List.getElem_cons_succ, List.getElem_cons_zero]
    refine wpAnyH_ready (rs := [5, 6]) (by kernel_rfl) (by simp) ?_
    refine AllReadyH.cons (o := _) rfl (fun KK hKK => ?_) (AllReadyH.cons (o := _) rfl (fun KK hKK => ?_) AllReadyH.nil)
    · clear hHeld
      go_simp
      (with_reducible refine (HC2.out _ Hb1.out).mono ?_)
      rintro e x2 ⟨v2, rfl, hown, hb'⟩
      obtain ⟨A2, k2, rfl⟩ := hown.form
      have Hb2 := Lib.hid (Hb1.out.trans (hb'.mono Hb1.out.size))
      have HO2 := Lib.hid hown
      replace HO1 := Lib.hid (HO1.out.below (ndF_rel _) hb')
      clear hown hb'
      refine hKK.out _ _ (HS.out _ Hb2.out) (fun hHeld => ?_)
      clear hKK KK
      try simp only [Act.put, List.setIfInBounds_toArray, List.set_cons_zero, List.set_cons_succ, List.getElem_toArray, List.getElem_cons_succ, List.getElem_cons_zero]
      refine wpAnyH_ready (rs := [6]) (by kernel_rfl) (by simp) ?_
      refine AllReadyH.cons (o := _) rfl (fun KK hKK => ?_) AllReadyH.nil
      clear hHeld
      go_simp
      obtain ⟨xa, hxa⟩ : ∃ xa, xa = (x2.alloc (.cells #[] 85)) := ⟨_, rfl⟩
      rw [← hxa]
      have hba : Below (x2).heap.size (x2) xa := by rw [hxa]; exact ((Below.refl _ _).alloc (Nat.le_refl _) _)
      have Hba := Lib.hid (Hb2.out.trans (hba.mono Hb2.out.size))
      obtain ⟨gb, hgb⟩ : ∃ gb, gb = (x2).heap.size := ⟨_, rfl⟩
      have HE := Lib.hid (show OwnAt xa 85 3 (.slice (some ⟨gb, 0, none⟩) 0 0) 0 [] from by rw [hxa, hgb]; exact ownAt_empty x2 85 3)
      have Hgrow := Lib.hid (show EmptyC gb xa from by rw [hxa, hgb]; exact ⟨_, heap_alloc_new _ _⟩)
      replace HO1 := Lib.hid (HO1.out.below (ndF_rel _) hba)
      replace HO2 := Lib.hid (HO2.out.below (ndF_rel _) hba)
      have Hgb := Lib.hid (show W1.heap.size ≤ gb from by rw [hgb]; exact Hb2.out.size)
      rw [← hgb]
      clear hba hxa hgb
      refine hKK.out _ _ (HS.out _ Hba.out) (fun hHeld => ?_)
      clear hKK KK
      try simp only [Act.put, List.setIfInBounds_toArray, List.set_cons_zero, List.set_cons_succ, List.getElem_toArray, List.getElem_cons_succ, List.getElem_cons_zero]
      refine wpAnyH_ready (rs := [9]) (by kernel_rfl) (by simp) ?_
      refine AllReadyH.cons (o := _) rfl (fun KK hKK => ?_) AllReadyH.nil
      clear hHeld
      refine step_append_src xa rfl (.tmp 9) (.tmp 11) 23 rfl 85 (.agg #[.int .i64 0, .int .i64 0, .int .u32 0]) 3 24 Tryd.underlying23 infoCond rfl (by decide) (.slice (some ⟨gb, 0, none⟩) 0 0) 0 [] rfl HE.out AP np cp us rfl Hul.out (Hus.out _ Hba.out) H1.out (by have := Hnp.out; omega) (by decide) ?_
      intro v3 w8 hown hgr hat
      rw [Nat.zero_add, List.nil_append] at hown
      obtain ⟨A3, k3, rfl⟩ := hown.form
      have hb8 : Below W1.heap.size W1 w8 := Hba.out.grown hgr Hba.out.size (fun g hg => by simp [Value.ownBlock] at hg; subst hg; exact Hgb.out)
      have HO3 := Lib.hid (show OwnC W1.heap.size w8 (.slice A3 np k3) r.pre from ⟨us, by rw [HlP.out]; exact hown, Hr.out, fun g hg => by
        rcases hat with e | e
        · rw [e] at hg; simp [Value.ownBlock] at hg; subst hg; exact Hgb.out
        · rw [e] at hg; injection hg with hg; subst hg; exact Hba.out.size⟩)
      have HO5 := Lib.hid (HO1.out.other hgr Hgrow.out.ne)
      have HO6 := Lib.hid (HO2.out.other hgr Hgrow.out.ne)
      have Hb8 := Lib.hid hb8
      clear hown hgr hat hb8
      refine hKK.out _ _ (HS.out _ Hb8.out) (fun hHeld => ?_)
      clear hKK KK
      try simp only [Act.put, List.setIfInBounds_toArray, List.set_cons_zero, List.set_cons_succ, List.getElem_toArray, List.getElem_cons_succ, List.getElem_cons_zero]
      refine wpAnyH_take (i := 10) (oi := _) (v := ?_) rfl (by kernel_rfl) (by kernel_rfl) (by kernel_rfl) (fun _ _ _ h => h) (Or.inl ⟨by rfl, fun Y hY => ?_⟩) hHeld ?_
      rotate_left
      · (go_simp) <;> with_reducible rfl
      try simp only [Act.put, List.setIfInBounds_toArray, List.set_cons_zero, List.set_cons_succ, List.getElem_toArray, List.getElem_cons_succ, List.getElem_cons_zero]
      have hrg := Hrow2.out _ Hb8.out
      have HRg := Lib.hid hrg
      obtain ⟨z0, z1, z2, zf⟩ := rl_cells hrg
      have zf0 := zf 0
      have zf1 := zf 1
      have zf2 := zf 2
      clear zf hrg
      refine wpAnyH_ready (rs := [11]) (by kernel_rfl) (by simp) ?_
      refine AllReadyH.cons (o := _) rfl (fun KK hKK => ?_) AllReadyH.nil
      clear hHeld
      go_simp
      refine hKK.out _ _ (HS2.out _ _ _ _ Hb8.out) (fun hHeld => ?_)
      clear hKK KK
      try simp only [Act.put, List.setIfInBounds_toArray, List.set_cons_zero, List.set_cons_succ, List.getElem_toArray, List.getElem_cons_succ, List.getElem_cons_zero]
      refine wpAnyH_done (by kernel_rfl) ?_ _
      go_wp2
      (try simp only [Exit.inBlock, Exit.then])
      refine bodyPost_ret (results_cell_row rfl _ _ (W.heap.size + 1) _ _ (0, 0) _ rfl (set3_row _ _ _ HRg.out) Tryd.underlying25 rfl (by kernel_rfl)) rfl ?_
      exact ⟨_, _, _, rfl, (OwnRl.set3 (r := r) ⟨HO5.out, HO6.out, HO3.out⟩ _ _ _ HRg.out).weak HB1.out.size, set3_below _ _ _ (HB1.out.trans (Hb8.out.mono HB1.out.size)) (by omega)⟩
    · clear hHeld
      go_simp
      obtain ⟨xa, hxa⟩ : ∃ xa, xa = (x1.alloc (.cells #[] 85)) := ⟨_, rfl⟩
      rw [← hxa]
      have hba : Below (x1).heap.size (x1) xa := by rw [hxa]; exact ((Below.refl _ _).alloc (Nat.le_refl _) _)
      have Hba := Lib.hid (Hb1.out.trans (hba.mono Hb1.out.size))
      obtain ⟨gb, hgb⟩ : ∃ gb, gb = (x1).heap.size := ⟨_, rfl⟩
      have HE := Lib.hid (show OwnAt xa 85 3 (.slice (some ⟨gb, 0, none⟩) 0 0) 0 [] from by rw [hxa, hgb]; exact ownAt_empty x1 85 3)
      have Hgrow := Lib.hid (show EmptyC gb xa from by rw [hxa, hgb]; exact ⟨_, heap_alloc_new _ _⟩)
      replace HO1 := Lib.hid (HO1.out.below (ndF_rel _) hba)
      have Hgb := Lib.hid (show W1.heap.size ≤ gb from by rw [hgb]; exact Hb1.out.size)
      rw [← hgb]
      clear hba hxa hgb
      refine hKK.out _ _ (HS.out _ Hba.out) (fun hHeld => ?_)
      clear hKK KK
      try simp only [Act.put, List.setIfInBounds_toArray, List.set_cons_zero, List.set_cons_succ, List.getElem_toArray, List.getElem_cons_succ, List.getElem_cons_zero]
      refine wpAnyH_ready (rs := [5]) (by kernel_rfl) (by simp) ?_
      refine AllReadyH.cons (o := _) rfl (fun KK hKK => ?_) AllReadyH.nil
      clear hHeld
      go_simp
      (with_reducible refine (HC2.out _ Hba.out).mono ?_)
      rintro e x2 ⟨v2, rfl, hown, hb'⟩
      obtain ⟨A2, k2, rfl⟩ := hown.form
      have Hb2 := Lib.hid (Hba.out.trans (hb'.mono Hba.out.size))
      have HO2 := Lib.hid hown
      replace HE := Lib.hid (HE.out.below hb' HE.out.lt)
      replace Hgrow := Lib.hid (Hgrow.out.below hb')
      replace HO1 := Lib.hid (HO1.out.below (ndF_rel _) hb')
      clear hown hb'
      refine hKK.out _ _ (HS.out _ Hb2.out) (fun hHeld => ?_)
      clear hKK KK
      try simp only [Act.put, List.setIfInBounds_toArray, List.set_cons_zero, List.set_cons_succ, List.getElem_toArray, List.getElem_cons_succ, List.getElem_cons_zero]
      refine wpAnyH_ready (rs := [9]) (by kernel_rfl) (by simp) ?_
      refine AllReadyH.cons (o := _) rfl (fun KK hKK => ?_) AllReadyH.nil
      clear hHeld
      refine step_append_src x2 rfl (.tmp 9) (.tmp 11) 23 rfl 85 (.agg #[.int .i64 0, .int .i64 0, .int .u32 0]) 3 24 Tryd.underlying23 infoCond rfl (by decide) (.slice (some ⟨gb, 0, none⟩) 0 0) 0 [] rfl HE.out AP np cp us rfl Hul.out (Hus.out _ Hb2.out) H1.out (by have := Hnp.out; omega) (by decide) ?_
      intro v3 w8 hown hgr hat
      rw [Nat.zero_add, List.nil_append] at hown
      obtain ⟨A3, k3, rfl⟩ := hown.form
      have hb8 : Below W1.heap.size W1 w8 := Hb2.out.grown hgr Hb2.out.size (fun g hg => by simp [Value.ownBlock] at hg; subst hg; exact Hgb.out)
      have HO3 := Lib.hid (show OwnC W1.heap.size w8 (.slice A3 np k3) r.pre from ⟨us, by rw [HlP.out]; exact hown, Hr.out, fun g hg => by
        rcases hat with e | e
        · rw [e] at hg; simp [Value.ownBlock] at hg; subst hg; exact Hgb.out
        · rw [e] at hg; injection hg with hg; subst hg; exact Hb2.out.size⟩)
      have HO5 := Lib.hid (HO1.out.other hgr Hgrow.out.ne)
      have HO6 := Lib.hid (HO2.out.other hgr Hgrow.out.ne)
      have Hb8 := Lib.hid hb8
      clear hown hgr hat hb8
      refine hKK.out _ _ (HS.out _ Hb8.out) (fun hHeld => ?_)
      clear hKK KK
      try simp only [Act.put, List.setIfInBounds_toArray, List.set_cons_zero, List.set_cons_succ, List.getElem_toArray, List.getElem_cons_succ, List.getElem_cons_zero]
      refine wpAnyH_take (i := 10) (oi := _) (v := ?_) rfl (by kernel_rfl) (by kernel_rfl) (by kernel_rfl) (fun _ _ _ h => h) (Or.inl ⟨by rfl, fun Y hY => ?_⟩) hHeld ?_
      rotate_left
      · (go_simp) <;> with_reducible rfl
      try simp only [Act.put, List.setIfInBounds_toArray, List.set_cons_zero, List.set_cons_succ, List.getElem_toArray, List.getElem_cons_succ, List.getElem_cons_zero]
      have hrg := Hrow2.out _ Hb8.out
      have HRg := Lib.hid hrg
      obtain ⟨z0, z1, z2, zf⟩ := rl_cells hrg
      have zf0 := zf 0
      have zf1 := zf 1
      have zf2 := zf 2
      clear zf hrg
      refine wpAnyH_ready (rs := [11]) (by kernel_rfl) (by simp) ?_
      refine AllReadyH.cons (o := _) rfl (fun KK hKK => ?_) AllReadyH.nil
      clear hHeld
      go_simp
      refine hKK.out _ _ (HS2.out _ _ _ _ Hb8.out) (fun hHeld => ?_)
      clear hKK KK
      try simp only [Act.put, List.setIfInBounds_toArray, List.set_cons_zero, List.set_cons_succ, List.getElem_toArray, List.getElem_cons_succ, List.getElem_cons_zero]
      refine wpAnyH_done (by kernel_rfl) ?_ _
      go_wp2
      (try simp only [Exit.inBlock, Exit.then])
      refine bodyPost_ret (results_cell_row rfl _ _ (W.heap.size + 1) _ _ (0, 0) _ rfl (set3_row _ _ _ HRg.out) Tryd.underlying25 rfl (by kernel_rfl)) rfl ?_
      exact ⟨_, _, _, rfl, (OwnRl.set3 (r := r) ⟨HO5.out, HO6.out, HO3.out⟩ _ _ _ HRg.out).weak HB1.out.size, set3_below _ _ _ (HB1.out.trans (Hb8.out.mono HB1.out.size)) (by omega)⟩
  · clear hHeld
    go_simp
    obtain ⟨xa, hxa⟩ : ∃ xa, xa = (W1.alloc (.cells #[] 85)).drew := ⟨_, rfl⟩
    rw [← hxa]
    have hba : Below (W1).heap.size (W1) xa := by rw [hxa]; exact ((Below.refl _ _).alloc (Nat.le_refl _) _).drew
    have Hba := Lib.hid (Hbr.out.trans (hba.mono Hbr.out.size))
    obtain ⟨gb, hgb⟩ : ∃ gb, gb = (W1).heap.size := ⟨_, rfl⟩
    have HE := Lib.hid (show OwnAt xa 85 3 (.slice (some ⟨gb, 0, none⟩) 0 0) 0 [] from by rw [hxa, hgb]; exact ownAt_empty W1 85 3)
    have Hgrow := Lib.hid (show EmptyC gb xa from by rw [hxa, hgb]; exact ⟨_, heap_alloc_new _ _⟩)
    have Hgb := Lib.hid (show W1.heap.size ≤ gb from by rw [hgb]; exact Hbr.out.size)
    rw [← hgb]
    clear hba hxa hgb
    refine hKK.out _ _ (HS.out _ Hba.out) (fun hHeld => ?_)
    clear hKK KK
    try simp only [Act.put, List.setIfInBounds_toArray, List.set_cons_zero, List.set_cons_succ, List.getElem_toArray, List.getElem_cons_succ, List.getElem_cons_zero]
    refine wpAnyH_ready (rs := [2]) (by kernel_rfl) (by simp) ?_
    refine AllReadyH.cons (o := _) rfl (fun KK hKK => ?_) AllReadyH.nil
    clear hHeld
    go_simp
    (with_reducible refine (HC1.out _ Hba.out).mono ?_)
    rintro e x1 ⟨v1, rfl, hown, hb'⟩
    obtain ⟨A1, k1, rfl⟩ := hown.form
    have Hb1 := Lib.hid (Hba.out.trans (hb'.mono Hba.out.size))
    have HO1 := Lib.hid hown
    replace HE := Lib.hid (HE.out.below hb' HE.out.lt)
    replace Hgrow := Lib.hid (Hgrow.out.below hb')
    clear hown hb'
    refine hKK.out _ _ (HS.out _ Hb1.out) (fun hHeld => ?_)
    clear hKK KK
    try simp only [Act.put, List.setIfInBounds_toArray, List.set_cons_zero, List.set_cons_succ, List.getElem_toArray, List.getElem_cons_succ, List.getElem_cons_zero]
    refine wpAnyH_ready (rs := [5]) (by kernel_rfl) (by simp) ?_
    refine AllReadyH.cons (o := _) rfl (fun KK hKK => ?_) AllReadyH.nil
    clear hHeld
    go_simp
    (with_reducible refine (HC2.out _ Hb1.out).mono ?_)
    rintro e x2 ⟨v2, rfl, hown, hb'⟩
    obtain ⟨A2, k2, rfl⟩ := hown.form
    have Hb2 := Lib.hid (Hb1.out.trans (hb'.mono Hb1.out.size))
    have HO2 := Lib.hid hown
    replace HE := Lib.hid (HE.out.below hb' HE.out.lt)
    replace Hgrow := Lib.hid (Hgrow.out.below hb')
    replace HO1 := Lib.hid (HO1.out.below (ndF_rel _) hb')
    clear hown hb'
    refine hKK.out _ _ (HS.out _ Hb2.out) (fun hHeld => ?_)
    clear hKK KK
    try simp only [Act.put, List.setIfInBounds_toArray, List.set_cons_zero, List.set_cons_succ, List.getElem_toArray, List.getElem_cons_succ, List.getElem_cons_zero]
    refine wpAnyH_ready (rs := [9]) (by kernel_rfl) (by simp) ?_
    refine AllReadyH.cons (o := _) rfl (fun KK hKK => ?_) AllReadyH.nil
    clear hHeld
    refine step_append_src x2 rfl (.tmp 9) (.tmp 11) 23 rfl 85 (.agg #[.int .i64 0, .int .i64 0, .int .u32 0]) 3 24 Tryd.underlying23 infoCond rfl (by decide) (.slice (some ⟨gb, 0, none⟩) 0 0) 0 [] rfl HE.out AP np cp us rfl Hul.out (Hus.out _ Hb2.out) H1.out (by have := Hnp.out; omega) (by decide) ?_
    intro v3 w8 hown hgr hat
    rw [Nat.zero_add, List.nil_append] at hown
    obtain ⟨A3, k3, rfl⟩ := hown.form
    have hb8 : Below W1.heap.size W1 w8 := Hb2.out.grown hgr Hb2.out.size (fun g hg => by simp [Value.ownBlock] at hg; subst hg; exact Hgb.out)
    have HO3 := Lib.hid (show OwnC W1.heap.size w8 (.slice A3 np k3) r.pre from ⟨us, by rw [HlP.out]; exact hown, Hr.out, fun g hg => by
      rcases hat with e | e
      · rw [e] at hg; simp [Value.ownBlock] at hg; subst hg; exact Hgb.out
      · rw [e] at hg; injection hg with hg; subst hg; exact Hb2.out.size⟩)
    have HO5 := Lib.hid (HO1.out.other hgr Hgrow.out.ne)
    have HO6 := Lib.hid (HO2.out.other hgr Hgrow.out.ne)
    have Hb8 := Lib.hid hb8
    clear hown hgr hat hb8
    refine hKK.out _ _ (HS.out _ Hb8.out) (fun hHeld => ?_)
    clear hKK KK
    try simp only [Act.put, List.setIfInBounds_toArray, List.set_cons_zero, List.set_cons_succ, List.getElem_toArray, List.getElem_cons_succ, List.getElem_cons_zero]
    refine wpAnyH_take (i := 10) (oi := _) (v := ?_) rfl (by kernel_rfl) (by kernel_rfl) (by kernel_rfl) (fun _ _ _ h => h) (Or.inl ⟨by rfl, fun Y hY => ?_⟩) hHeld ?_
    rotate_left
    · (go_simp) <;> with_reducible rfl
    try simp only [Act.put, List.setIfInBounds_toArray, List.set_cons_zero, List.set_cons_succ, List.getElem_toArray, List.getElem_cons_succ, List.getElem_cons_zero]
    have hrg := Hrow2.out _ Hb8.out
    have HRg := Lib.hid hrg
    obtain ⟨z0, z1, z2, zf⟩ := rl_cells hrg
    have zf0 := zf 0
    have zf1 := zf 1
    have zf2 := zf 2
    clear zf hrg
    refine wpAnyH_ready (rs := [11]) (by kernel_rfl) (by simp) ?_
    refine AllReadyH.cons (o := _) rfl (fun KK hKK => ?_) AllReadyH.nil
    clear hHeld
    go_simp
    refine hKK.out _ _ (HS2.out _ _ _ _ Hb8.out) (fun hHeld => ?_)
    clear hKK KK
    try simp only [Act.put, List.setIfInBounds_toArray, List.set_cons_zero, List.set_cons_succ, List.getElem_toArray, List.getElem_cons_succ, List.getElem_cons_zero]
    refine wpAnyH_done (by kernel_rfl) ?_ _
    go_wp2
    (try simp only [Exit.inBlock, Exit.then])
    refine bodyPost_ret (results_cell_row rfl _ _ (W.heap.size + 1) _ _ (0, 0) _ rfl (set3_row _ _ _ HRg.out) Tryd.underlying25 rfl (by kernel_rfl)) rfl ?_
    exact ⟨_, _, _, rfl, (OwnRl.set3 (r := r) ⟨HO5.out, HO6.out, HO3.out⟩ _ _ _ HRg.out).weak HB1.out.size, set3_below _ _ _ (HB1.out.trans (Hb8.out.mono HB1.out.size)) (by omega)⟩
end Go.Proofs.YtmebpgggfppmhaaDoor
end
section
namespace Go.Proofs.YtmebpgggfppmhaaDoor
open Go.RowKit
set_option linter.unusedVariables false
set_option linter.unusedSimpArgs false

set_option maxRecDepth 100000 in
set_option maxHeartbeats 4000000 in
theorem rTurn_any {r : R.Rl} {nl cl nr cr np cp : Nat} {AL AR AP : Option Addr} {W : World} (hR : RlAt W r nl nr np AL AR AP) :
    Calls Tryd.prog 18 #[.agg #[.slice AL nl cl, .slice AR nr cr, .slice AP np cp]] W (TurnPost W r) := by
  obtain ⟨W1, hW1⟩ : ∃ W1, W1 = (W.alloc (.cells #[.slice AL nl cl, .slice AR nr cr, .slice AP np cp] 25)).alloc (.cells #[.slice none 0 0, .slice none 0 0, .slice none 0 0] 25) := ⟨_, rfl⟩
  have hb1 : Below W.heap.size W W1 := by rw [hW1]; exact ((Below.refl _ _).alloc (Nat.le_refl _) _).alloc (by simp) _
  have hrow : W1.heap[W.heap.size]? = some (.cells #[.slice AL nl cl, .slice AR nr cr, .slice AP np cp] 25 (0, 0)) := by rw [hW1]; exact row_alloc (heap_alloc_new W _) _
  have hrow2 : W1.heap[W.heap.size + 1]? = some (.cells #[.slice none 0 0, .slice none 0 0, .slice none 0 0] 25 (0, 0)) := by rw [hW1]; exact new_two W _ _
  have Hrow := Lib.hid (fun (X : World) (h : Below W1.heap.size W1 X) => (h.block _ (Array.getElem?_eq_some_iff.1 hrow).1).trans hrow)
  have Hrow2 := Lib.hid (fun (X : World) (h : Below W1.heap.size W1 X) => (h.block _ (Array.getElem?_eq_some_iff.1 hrow2).1).trans hrow2)
  have Hb1 := Lib.hid hb1
  have HR1 := Lib.hid (hR.below hb1)
  have Hval := Lib.hid (rValidate_rule (cl := cl) (cr := cr) (cp := cp) HR1.out)
  have HW1 := Lib.hid hW1
  obtain ⟨c0, c1, c2, _⟩ := rl_cells hrow
  rw [hW1] at c0 c1 c2
  obtain ⟨e, he⟩ : ∃ e, R.rvalid r = e := ⟨_, rfl⟩
  rw [he] at Hval
  have He := Lib.hid he
  clear hR hb1 hW1 hrow hrow2 he
  by_cases h0 : e = 0
  rotate_left
  · have q : (e != 0) = true := by simpa using h0
    have Hr := Lib.hid (show R.turn r = (⟨[], [], []⟩, false, e) from by unfold R.turn; rw [He.out, if_pos h0])
    clear h0
    go_enter Tryd.func18, Tryd.ntmps18
    go_wp2_with fail
    rw [← HW1.out]
    (with_reducible refine Hval.out.mono ?_)
    rintro e w2 ⟨rfl, hb2⟩
    have Hb2 := Lib.hid hb2
    have hrg := Hrow2.out _ hb2
    have HRg := Lib.hid hrg
    obtain ⟨z0, z1, z2, zf⟩ := rl_cells hrg
    have zf0 := zf 0
    have zf1 := zf 1
    have zf2 := zf 2
    clear hb2 zf hrg c0 c1 c2
    go_wp2
    (try simp only [Exit.inBlock, Exit.then])
    refine bodyPost_ret (results_rl rfl _ _ (W.heap.size + 1) _ _ _ rfl (set3_row _ _ _ HRg.out)) rfl ?_
    unfold TurnPost
    rw [Hr.out]
    refine ⟨_, _, _, rfl, OwnRl.nil_ _ _, Hb1.out.trans (set3_below _ _ _ (Hb2.out.mono ?_) ?_)⟩
    · exact Hb1.out.size
    · omega
  subst h0
  have q : ((0 : Int) != 0) = false := rfl
  have hrok := R.rok_of He.out
  have HlL := Lib.hid HR1.out.sl.len
  have HlR := Lib.hid HR1.out.sr.len
  have HlP := Lib.hid HR1.out.sp.len
  have HC := Lib.hid (show ∀ X, Below W1.heap.size W1 X → Calls Tryd.prog 16 #[.agg #[.slice AR nr cr, .slice AL nl cl, .slice AP np cp]] X (CopyPost X (R.flip r)) from fun X hX => Copy_any (r := R.flip r) (cl := cr) (cr := cl) (cp := cp) (HR1.out.sr.below monoNd hX) (HR1.out.sl.below monoNd hX) (HR1.out.sp.below monoCd hX) (by have := hrok.rlen; have := HlR.out; omega) (by have := hrok.llen; have := HlL.out; omega) (by have := hrok.plen; have := HlP.out; omega) (fun x hx => by
    obtain ⟨k, hk⟩ := List.mem_iff_getElem?.1 hx
    have := R.pnode_small (hrok.rp k x hk); omega) (fun x hx => by
    obtain ⟨k, hk⟩ := List.mem_iff_getElem?.1 hx
    have := R.pnode_small (hrok.lp k x hk); omega))
  clear hrok
  go_enter Tryd.func18, Tryd.ntmps18
  go_wp2_with fail
  rw [← HW1.out]
  (with_reducible refine Hval.out.mono ?_)
  rintro e W2 ⟨rfl, hb2⟩
  have Hb2 := Lib.hid hb2
  obtain ⟨d0, d1, d2, _⟩ := rl_cells (Hrow.out _ hb2)
  clear hb2 c0 c1 c2
  go_wp2_with fail
  (with_reducible refine (HC.out _ Hb2.out).mono ?_)
  rintro e w3 ⟨v1, v2, v3, rfl, hown, hb3⟩
  obtain ⟨A1, k1, rfl⟩ := hown.ol.form
  obtain ⟨A2, k2, rfl⟩ := hown.or_.form
  obtain ⟨A3, k3, rfl⟩ := hown.op.form
  obtain ⟨W4, hW4⟩ : ∃ W4, W4 = w3.alloc (.cells #[.slice A1 (R.flip r).left.length k1, .slice A2 (R.flip r).right.length k2, .slice A3 (R.flip r).pre.length k3] 25) := ⟨_, rfl⟩
  have hb4 : Below w3.heap.size w3 W4 := by rw [hW4]; exact (Below.refl _ _).alloc (Nat.le_refl _) _
  have hr4 : W4.heap[w3.heap.size]? = some (.cells #[.slice A1 (R.flip r).left.length k1, .slice A2 (R.flip r).right.length k2, .slice A3 (R.flip r).pre.length k3] 25 (0, 0)) := by rw [hW4]; exact heap_alloc_new w3 _
  have HRg := Lib.hid hr4
  have HO := Lib.hid (hown.below hb4)
  have Hb4 := Lib.hid (Hb2.out.trans ((hb3.trans (hb4.mono hb3.size)).mono Hb2.out.size))
  obtain ⟨z0, z1, z2, _⟩ := rl_cells hr4
  have HW4 := Lib.hid hW4
  rw [hW4] at z0 z1 z2
  have Hsz := Lib.hid Hb2.out.size
  clear hown hb3 hb4 hr4 hW4 d0 d1 d2
  have Hval2 := Lib.hid (rValidate_rule (cl := k1) (cr := k2) (cp := k3) (r := R.flip r) (W := W4) ⟨HO.out.ol.stAt (ndF_rel _) rfl, HO.out.or_.stAt (ndF_rel _) rfl, HO.out.op.stAt rfl, HR1.out.fr, HR1.out.fl⟩)
  obtain ⟨e2, he2⟩ : ∃ e2, R.rvalid (R.flip r) = e2 := ⟨_, rfl⟩
  rw [he2] at Hval2
  have He2 := Lib.hid he2
  clear he2
  by_cases h2 : e2 = 0
  · have q2 : (e2 != 0) = false := by simpa using h2
    have Hr := Lib.hid (show R.turn r = (R.flip r, true, 0) from by unfold R.turn; rw [He.out, if_neg (by simp), He2.out, if_neg (by simpa using h2)])
    clear h2
    go_wp2_with fail
    rw [← HW4.out]
    (with_reducible refine Hval2.out.mono ?_)
    rintro e w5 ⟨rfl, hb5⟩
    have HO5 := Lib.hid (HO.out.below hb5)
    have hrg5 := (hb5.block _ (Array.getElem?_eq_some_iff.1 HRg.out).1).trans HRg.out
    obtain ⟨y0, y1, y2, _⟩ := rl_cells hrg5
    have Hb5 := Lib.hid (Hb4.out.trans (hb5.mono Hb4.out.size))
    have hr5 := Hrow2.out _ Hb5.out
    have HR5 := Lib.hid hr5
    obtain ⟨x0, x1, x2, xf⟩ := rl_cells hr5
    have xf0 := xf 0
    have xf1 := xf 1
    have xf2 := xf 2
    clear hb5 hrg5 hr5 xf z0 z1 z2
    go_wp2
    (try simp only [Exit.inBlock, Exit.then])
    refine bodyPost_ret (results_rl rfl _ _ (W.heap.size + 1) _ _ _ rfl (set3_row _ _ _ HR5.out)) rfl ?_
    unfold TurnPost
    rw [Hr.out]
    refine ⟨_, _, _, rfl, ?_, Hb1.out.trans (set3_below _ _ _ (Hb5.out.mono Hb1.out.size) (by omega))⟩
    exact (OwnRl.set3 HO5.out _ _ _ HR5.out).weak (Nat.le_trans Hb1.out.size Hb2.out.size)
  · have q2 : (e2 != 0) = true := by simpa using h2
    have Hr := Lib.hid (show R.turn r = (⟨[], [], []⟩, false, 0) from by unfold R.turn; rw [He.out, if_neg (by simp), He2.out, if_pos h2])
    clear h2
    go_wp2_with fail
    rw [← HW4.out]
    (with_reducible refine Hval2.out.mono ?_)
    rintro e w5 ⟨rfl, hb5⟩
    have Hb5 := Lib.hid (Hb4.out.trans (hb5.mono Hb4.out.size))
    have hr5 := Hrow2.out _ Hb5.out
    have HR5 := Lib.hid hr5
    obtain ⟨x0, x1, x2, xf⟩ := rl_cells hr5
    have xf0 := xf 0
    have xf1 := xf 1
    have xf2 := xf 2
    clear hb5 hr5 xf z0 z1 z2
    go_wp2
    (try simp only [Exit.inBlock, Exit.then])
    refine bodyPost_ret (results_rl rfl _ _ (W.heap.size + 1) _ _ _ rfl (set3_row _ _ _ HR5.out)) rfl ?_
    unfold TurnPost
    rw [Hr.out]
    exact ⟨_, _, _, rfl, OwnRl.nil_ _ _, Hb1.out.trans (set3_below _ _ _ (Hb5.out.mono Hb1.out.size) (by omega))⟩
end Go.Proofs.YtmebpgggfppmhaaDoor
end
section
namespace Go.Proofs.YtmebpgggfppmhaaDoor
open Go.RowKit
set_option linter.unusedVariables false
set_option linter.unusedSimpArgs false

/-- a header of numbers whose block lies at B or behind it -/
def IntsAt (B : Nat) (w : World) (A : Option Addr) (n : Nat) : Prop :=
  n = 0 ∨ ∃ g off cur, A = some ⟨g, off, none⟩ ∧ B ≤ g ∧ w.heap[g]? = some (.cells cur 3 (0, 0)) ∧ off + n ≤ cur.size
theorem IntsAt.at_ {B n i : Nat} {w : World} {A : Option Addr} (h : IntsAt B w A n) (hi : i < n) :
    ∃ g off cur u, A = some ⟨g, off, none⟩ ∧ B ≤ g ∧ w.heap[g]? = some (.cells cur 3 (0, 0)) ∧ w.cell? ⟨g, off + i, none⟩ = some u ∧ w.frozen? ⟨g, off + i, none⟩ = false := by
  rcases h with h | ⟨g, off, cur, hA, hB, hg, hs⟩
  · omega
  · refine ⟨g, off, cur, cur[off + i]'(by omega), hA, hB, hg, ?_, frozen_row hg _⟩
    rw [cell_of_row _ _ _ _ _ (0, 0) hg]
    exact Array.getElem?_eq_getElem _
theorem IntsAt.put {B n q j : Nat} {w : World} {A : Option Addr} {cur' : Array Value} (h : IntsAt B w A n) (hq : w.heap[q]? = some (.cells cur' 3 (0, 0))) (u : Value) : IntsAt B (w.setCell ⟨q, j, none⟩ u) A n := by
  rcases h with h | ⟨g, off, cur, hA, hB, hg, hs⟩
  · exact .inl h
  · by_cases e : g = q
    · subst e
      rw [hg] at hq
      injection hq with hq
      injection hq with hq _ _
      subst hq
      exact .inr ⟨g, off, _, hA, hB, heap_setCell_same w g j _ _ u hg, by simp; omega⟩
    · exact .inr ⟨g, off, cur, hA, hB, by rw [heap_setCell_other _ _ _ _ e]; exact hg, hs⟩
theorem IntsAt.below {B n : Nat} {w w' : World} {A : Option Addr} (h : IntsAt B w A n) (hb : Below w.heap.size w w') : IntsAt B w' A n := by
  rcases h with h | ⟨g, off, cur, hA, hB, hg, hs⟩
  · exact .inl h
  · exact .inr ⟨g, off, cur, hA, hB, (hb.block _ (Array.getElem?_eq_some_iff.1 hg).1).trans hg, hs⟩

/-- nodes whose headers and numbers lie at B or behind it -/
def LeftsAt (B : Nat) (w : World) (A : Option Addr) (n : Nat) : Prop :=
  n = 0 ∨ ∃ g off cur, A = some ⟨g, off, none⟩ ∧ w.heap[g]? = some (.cells cur 41 (0, 0)) ∧ ∀ k, k < n → ∃ A2 m c2, cur[off + k * 5 + 3]? = some (.slice A2 m c2) ∧ m ≤ 9223372036854775807 ∧ IntsAt B w A2 m
theorem LeftsAt.below {B n : Nat} {w w' : World} {A : Option Addr} (h : LeftsAt B w A n) (hb : Below w.heap.size w w') : LeftsAt B w' A n := by
  rcases h with h | ⟨g, off, cur, hA, hg, hk⟩
  · exact .inl h
  · refine .inr ⟨g, off, cur, hA, (hb.block _ (Array.getElem?_eq_some_iff.1 hg).1).trans hg, fun k hk' => ?_⟩
    obtain ⟨A2, m, c2, h1, h2, h3⟩ := hk k hk'
    exact ⟨A2, m, c2, h1, h2, h3.below hb⟩
theorem row_ne {w : World} {g q j : Nat} {T : TypeId} {cur cur' : Array Value} {fr : Nat × Nat} (hg : w.heap[g]? = some (.cells cur T fr)) (hT : T ≠ 3) (hq : w.heap[q]? = some (.cells cur' 3 (0, 0))) (u : Value) : (w.setCell ⟨q, j, none⟩ u).heap[g]? = some (.cells cur T fr) := by
  have e : g ≠ q := fun e => by
    subst e
    rw [hg] at hq
    injection hq with hq
    injection hq with _ hq _
    exact hT hq
  rw [heap_setCell_other _ _ _ _ e]; exact hg
theorem LeftsAt.put {B n q j : Nat} {w : World} {A : Option Addr} {cur' : Array Value} (h : LeftsAt B w A n) (hq : w.heap[q]? = some (.cells cur' 3 (0, 0))) (u : Value) : LeftsAt B (w.setCell ⟨q, j, none⟩ u) A n := by
  rcases h with h | ⟨g, off, cur, hA, hg, hk⟩
  · exact .inl h
  · refine .inr ⟨g, off, cur, hA, row_ne hg (by decide) hq u, fun k hk' => ?_⟩
    obtain ⟨A2, m, c2, h1, h2, h3⟩ := hk k hk'
    exact ⟨A2, m, c2, h1, h2, h3.put hq u⟩
theorem LeftsAt.of_own {B n c : Nat} {A : Option Addr} {w : World} {nds : List T.Nd} (h : OwnR (NdF B) B w (.slice A n c) nds) (hn : nds.length = n) : LeftsAt B w A n := by
  rcases Nat.eq_zero_or_pos n with h0 | h0
  · exact .inl h0
  · obtain ⟨x, g, off, cur, A2, c2, hx, hA, hB, hg, hc, hf⟩ := h.cells_ hn h0
    refine .inr ⟨g, off, cur, hA, hg, fun k hk => ?_⟩
    obtain ⟨x, g', off', cur', A2, c2, hx, hA', hB, hg', hc, hf⟩ := h.cells_ hn hk
    rw [hA] at hA'
    injection hA' with hA'
    injection hA' with e1 e2 _
    subst e1 e2
    rw [hg] at hg'
    injection hg' with hg'
    injection hg' with hg' _ _
    subst hg'
    refine ⟨A2, x.args.length, c2, hc 3 _ rfl, ?_, ?_⟩
    · obtain ⟨A3, c3, e1, e2, _⟩ := hf
      exact e2.le
    · obtain ⟨A3, c3, e1, e2, _, _, e3⟩ := hf
      simp only [ndC, List.cons.injEq, Value.slice.injEq] at e1
      obtain ⟨_, _, _, ⟨e4, _, e5⟩, _⟩ := e1
      subst e4 e5
      rcases e2.2 with ⟨e, h0⟩ | ⟨g2, off2, cap, cur2, e, hg2, q1, q2, q3, q4⟩
      · exact .inl h0
      · cases e
        refine .inr ⟨g2, off2, cur2, rfl, e3 _ rfl, hg2, ?_⟩
        omega
theorem LeftsAt.at_ {B n k : Nat} {w : World} {A : Option Addr} (h : LeftsAt B w A n) (hk : k < n) :
    ∃ g off A2 m c2, A = some ⟨g, off, none⟩ ∧ (∃ cur, w.heap[g]? = some (.cells cur 41 (0, 0)) ∧ cur[off + k * 5 + 3]? = some (.slice A2 m c2)) ∧ m ≤ 9223372036854775807 ∧ IntsAt B w A2 m := by
  rcases h with h | ⟨g, off, cur, hA, hg, hk'⟩
  · omega
  · obtain ⟨A2, m, c2, h1, h2, h3⟩ := hk' k hk
    exact ⟨g, off, A2, m, c2, hA, ⟨cur, hg, h1⟩, h2, h3⟩

namespace R
theorem turn_cases (r : Rl) : (∃ e, turn r = (⟨[], [], []⟩, false, e)) ∨ (turn r = (flip r, true, 0) ∧ turn (flip r) = (r, true, 0)) := by
  by_cases h : rvalid r = 0
  · by_cases h2 : rvalid (flip r) = 0
    · right
      have e : flip (flip r) = r := rfl
      refine ⟨by unfold turn; rw [if_neg (by simpa using h), if_neg (by simpa using h2)], ?_⟩
      unfold turn
      rw [if_neg (by simpa using h2), e, if_neg (by simpa using h)]
    · left
      exact ⟨0, by unfold turn; rw [if_neg (by simpa using h), if_pos h2]⟩
  · left
    exact ⟨rvalid r, by unfold turn; rw [if_pos h]⟩
theorem rlong_small {r : Rl} (h : rlong r = false) : r.left.length ≤ 60 ∧ r.right.length ≤ 60 ∧ r.pre.length ≤ 60 ∧ (∀ x ∈ r.left, x.args.length ≤ 20) ∧ (∀ x ∈ r.right, x.args.length ≤ 20) := by
  unfold rlong T.long at h
  simp only [Bool.or_eq_false_iff, decide_eq_false_iff_not, List.any_eq_false, decide_eq_true_eq] at h
  obtain ⟨⟨⟨⟨h1, h2⟩, h3⟩, _, h4⟩, _, h5⟩ := h
  exact ⟨by omega, by omega, by omega, fun x hx => by have := h4 x hx; omega, fun x hx => by have := h5 x hx; omega⟩
end R

set_option maxRecDepth 100000 in
set_option maxHeartbeats 4000000 in
theorem ruleTurns_any {r : R.Rl} {nl cl nr cr np cp : Nat} {AL AR AP : Option Addr} {W : World} (hR : RlAt W r nl nr np AL AR AP) (hT : TabAt W) :
    Calls Tryd.prog 4 #[.agg #[.slice AL nl cl, .slice AR nr cr, .slice AP np cp]] W fun e W' => e = .returned (.bool true) ∧ Below W.heap.size W W' := by
  obtain ⟨W1, hW1⟩ : ∃ W1, W1 = W.alloc (.cells #[.slice AL nl cl, .slice AR nr cr, .slice AP np cp] 25) := ⟨_, rfl⟩
  have hb1 : Below W.heap.size W W1 := by rw [hW1]; exact (Below.refl _ _).alloc (Nat.le_refl _) _
  have hrow : W1.heap[W.heap.size]? = some (.cells #[.slice AL nl cl, .slice AR nr cr, .slice AP np cp] 25 (0, 0)) := by rw [hW1]; exact heap_alloc_new W _
  obtain ⟨c0, c1, c2, _⟩ := rl_cells hrow
  have Hrow := Lib.hid (fun (X : World) (h : Below W1.heap.size W1 X) => rl_cells ((h.block _ (Array.getElem?_eq_some_iff.1 hrow).1).trans hrow))
  have Hb1 := Lib.hid hb1
  have HT := Lib.hid (hT.below hb1)
  have HR1 := Lib.hid (hR.below hb1)
  have Hlg := Lib.hid (rLong_any (cl := cl) (cr := cr) (cp := cp) HR1.out)
  have Hkn := Lib.hid (fun X (h : Below W1.heap.size W1 X) => known_any X (HT.out.below h))
  have HW1 := Lib.hid hW1
  obtain ⟨lg, hlg⟩ : ∃ lg, R.rlong r = lg := ⟨_, rfl⟩
  rw [hlg] at Hlg
  rw [hW1] at c0 c1 c2
  clear hR hb1 hW1 hrow hT
  cases lg with
  | true =>
    clear hlg
    go_enter Tryd.func4, Tryd.ntmps4
    go_wp2_with fail
    rw [← HW1.out]
    (with_reducible refine Hlg.out.mono ?_)
    rintro e w2 ⟨rfl, hb2⟩
    have Hb2 := Lib.hid hb2
    clear hb2 c0 c1 c2
    go_wp2_with fail
    (with_reducible refine (Hkn.out _ Hb2.out).mono ?_)
    rintro e w3 ⟨rfl, hb3⟩
    have Hb3 := Lib.hid (Hb1.out.trans ((Hb2.out.trans (hb3.mono Hb2.out.size)).mono Hb1.out.size))
    clear hb3
    go_wp2
    go_ret
    exact ⟨rfl, Hb3.out⟩
  | false =>
    have hsm := R.rlong_small hlg
    have Hcp := Lib.hid (fun X (h : Below W1.heap.size W1 X) => Copy_any (cl := cl) (cr := cr) (cp := cp) (HR1.out.sl.below monoNd h) (HR1.out.sr.below monoNd h) (HR1.out.sp.below monoCd h) (by have := HR1.out.sl.len; omega) (by have := HR1.out.sr.len; omega) (by have := HR1.out.sp.len; omega) (fun x hx => by have := hsm.2.2.2.1 x hx; omega) (fun x hx => by have := hsm.2.2.2.2 x hx; omega))
    clear hsm hlg
    obtain ⟨t0, is, er, ht⟩ : ∃ t0 is er, R.turn r = (t0, is, er) := ⟨_, _, _, rfl⟩
    have Hfl := Lib.hid (show R.flr t0.left ∧ R.flr t0.right from by
      rcases R.turn_cases r with ⟨e, h⟩ | ⟨h, _⟩
      · rw [ht] at h
        injection h with h _
        subst h
        exact ⟨fun x hx => by simp at hx, fun x hx => by simp at hx⟩
      · rw [ht] at h
        injection h with h _
        subst h
        exact ⟨HR1.out.fr, HR1.out.fl⟩)
    have Htr := Lib.hid (show is = true → t0 = R.flip r ∧ R.turn t0 = (r, true, 0) from fun hi => by
      rcases R.turn_cases r with ⟨e, h⟩ | ⟨h, h2⟩
      · rw [ht] at h
        injection h with _ h
        injection h with h _
        rw [hi] at h; cases h
      · rw [ht] at h
        injection h with h _
        subst h
        exact ⟨rfl, h2⟩)
    have Htp := Lib.hid (show ∀ X e X', TurnPost X r e X' → ∃ A1 k1 A2 k2 A3 k3, e = .returned (.tuple #[.agg #[.slice A1 t0.left.length k1, .slice A2 t0.right.length k2, .slice A3 t0.pre.length k3], .bool is, .int .i64 er]) ∧ OwnRl X.heap.size X' (.slice A1 t0.left.length k1) (.slice A2 t0.right.length k2) (.slice A3 t0.pre.length k3) t0 ∧ Below X.heap.size X X' from fun X e X' ⟨v1, v2, v3, h1, h2, h3⟩ => by
      rw [ht] at h1 h2
      obtain ⟨A1, k1, rfl⟩ := h2.ol.form
      obtain ⟨A2, k2, rfl⟩ := h2.or_.form
      obtain ⟨A3, k3, rfl⟩ := h2.op.form
      exact ⟨A1, k1, A2, k2, A3, k3, h1, h2, h3⟩)
    clear ht
    have qe : (er != er) = false := by simp
    have qm : (is != is) = false := by simp
    go_enter Tryd.func4, Tryd.ntmps4
    go_wp2_with fail
    rw [← HW1.out]
    (with_reducible refine Hlg.out.mono ?_)
    rintro e w2 ⟨rfl, hb2⟩
    have Hb2 := Lib.hid hb2
    obtain ⟨d0, d1, d2, _⟩ := Hrow.out _ hb2
    clear hb2 c0 c1 c2
    go_wp2_with fail
    (with_reducible refine (Hcp.out _ Hb2.out).mono ?_)
    rintro e w3 ⟨v1, v2, v3, rfl, hown, hb3⟩
    obtain ⟨O1, o1, rfl⟩ := hown.ol.form
    obtain ⟨O2, o2, rfl⟩ := hown.or_.form
    obtain ⟨O3, o3, rfl⟩ := hown.op.form
    obtain ⟨W4, hW4⟩ : ∃ W4, W4 = w3.alloc (.cells #[.slice O1 r.left.length o1, .slice O2 r.right.length o2, .slice O3 r.pre.length o3] 25) := ⟨_, rfl⟩
    have hb4 : Below w3.heap.size w3 W4 := by rw [hW4]; exact (Below.refl _ _).alloc (Nat.le_refl _) _
    have hr4 : W4.heap[w3.heap.size]? = some (.cells #[.slice O1 r.left.length o1, .slice O2 r.right.length o2, .slice O3 r.pre.length o3] 25 (0, 0)) := by rw [hW4]; exact heap_alloc_new w3 _
    have HrO := Lib.hid (fun (X : World) (h : Below W4.heap.size W4 X) => rl_cells ((h.block _ (Array.getElem?_eq_some_iff.1 hr4).1).trans hr4))
    have HO4 := Lib.hid (hown.below hb4)
    have HRo := Lib.hid (show RlAt W4 r r.left.length r.right.length r.pre.length O1 O2 O3 from ⟨HO4.out.ol.stAt (ndF_rel _) rfl, HO4.out.or_.stAt (ndF_rel _) rfl, HO4.out.op.stAt rfl, HR1.out.fl, HR1.out.fr⟩)
    have Hb4 := Lib.hid (Hb2.out.trans ((hb3.trans (hb4.mono hb3.size)).mono Hb2.out.size))
    obtain ⟨z0, z1, z2, _⟩ := rl_cells hr4
    have HW4 := Lib.hid hW4
    rw [hW4] at z0 z1 z2
    clear hown hb3 hb4 hr4 hW4 d0 d1 d2
    have Htu := Lib.hid (gTurn_any (cl := o1) (cr := o2) (cp := o3) HRo.out)
    go_wp2_with fail
    rw [← HW4.out]
    (with_reducible refine Htu.out.mono ?_)
    intro e w5 hp5
    obtain ⟨A1, k1, A2, k2, A3, k3, rfl, hown, hb5⟩ := Htp.out _ _ _ hp5
    obtain ⟨W6, hW6⟩ : ∃ W6, W6 = w5.alloc (.cells #[.slice A1 t0.left.length k1, .slice A2 t0.right.length k2, .slice A3 t0.pre.length k3] 25) := ⟨_, rfl⟩
    have hb6 : Below w5.heap.size w5 W6 := by rw [hW6]; exact (Below.refl _ _).alloc (Nat.le_refl _) _
    have hr6 : W6.heap[w5.heap.size]? = some (.cells #[.slice A1 t0.left.length k1, .slice A2 t0.right.length k2, .slice A3 t0.pre.length k3] 25 (0, 0)) := by rw [hW6]; exact heap_alloc_new w5 _
    have HrA := Lib.hid (fun (X : World) (h : Below W6.heap.size W6 X) => (h.block _ (Array.getElem?_eq_some_iff.1 hr6).1).trans hr6)
    have HO6 := Lib.hid (hown.below hb6)
    have HRa := Lib.hid (show RlAt W6 t0 t0.left.length t0.right.length t0.pre.length A1 A2 A3 from ⟨HO6.out.ol.stAt (ndF_rel _) rfl, HO6.out.or_.stAt (ndF_rel _) rfl, HO6.out.op.stAt rfl, Hfl.out.1, Hfl.out.2⟩)
    have Hb46 := Lib.hid (hb5.trans (hb6.mono hb5.size))
    have Hb6 := Lib.hid (Hb4.out.trans (Hb46.out.mono Hb4.out.size))
    have HLf := Lib.hid (LeftsAt.of_own HO6.out.ol rfl)
    obtain ⟨d0, d1, d2, _⟩ := Hrow.out _ Hb6.out
    have HW6 := Lib.hid hW6
    rw [hW6] at d0 d1 d2
    clear hown hb5 hb6 hr6 hW6 hp5 z0 z1 z2
    have Htr6 := Lib.hid (rTurn_any (cl := cl) (cr := cr) (cp := cp) (HR1.out.below Hb6.out))
    go_wp2_with fail
    rw [← HW6.out]
    (with_reducible refine Htr6.out.mono ?_)
    intro e w7 hp7
    obtain ⟨B1, l1, B2, l2, B3, l3, rfl, hown, hb7⟩ := Htp.out _ _ _ hp7
    obtain ⟨W8, hW8⟩ : ∃ W8, W8 = w7.alloc (.cells #[.slice B1 t0.left.length l1, .slice B2 t0.right.length l2, .slice B3 t0.pre.length l3] 25) := ⟨_, rfl⟩
    have hb8 : Below w7.heap.size w7 W8 := by rw [hW8]; exact (Below.refl _ _).alloc (Nat.le_refl _) _
    have hr8 : W8.heap[w7.heap.size]? = some (.cells #[.slice B1 t0.left.length l1, .slice B2 t0.right.length l2, .slice B3 t0.pre.length l3] 25 (0, 0)) := by rw [hW8]; exact heap_alloc_new w7 _
    have HO8 := Lib.hid (hown.below hb8)
    have HRb := Lib.hid (show RlAt W8 t0 t0.left.length t0.right.length t0.pre.length B1 B2 B3 from ⟨HO8.out.ol.stAt (ndF_rel _) rfl, HO8.out.or_.stAt (ndF_rel _) rfl, HO8.out.op.stAt rfl, Hfl.out.1, Hfl.out.2⟩)
    have Hb68 := Lib.hid (hb7.trans (hb8.mono hb7.size))
    obtain ⟨y0, y1, y2, _⟩ := rl_cells (HrA.out _ Hb68.out)
    obtain ⟨z0, z1, z2, _⟩ := rl_cells hr8
    have HW8 := Lib.hid hW8
    rw [hW8] at y0 y1 y2 z0 z1 z2
    clear hown hb7 hb8 hr8 hW8 hp7 d0 d1 d2
    have Hsm := Lib.hid (rSame_any (cl := k1) (cr := k2) (cp := k3) (cl' := l1) (cr' := l2) (cp' := l3) (HRa.out.below Hb68.out) HRb.out)
    rw [decide_eq_true (rfl : t0 = t0)] at Hsm
    go_wp2_with fail
    rw [← HW8.out]
    (with_reducible refine Hsm.out.mono ?_)
    rintro e w9 ⟨rfl, hb9⟩
    have Hb69 := Lib.hid (Hb68.out.trans (hb9.mono Hb68.out.size))
    have Hb9 := Lib.hid (Hb6.out.trans (Hb69.out.mono Hb6.out.size))
    clear hb9 y0 y1 y2 z0 z1 z2
    cases is with
    | false =>
      go_wp2_with fail
      (with_reducible refine (Hkn.out _ Hb9.out).mono ?_)
      rintro e w10 ⟨rfl, hb10⟩
      have Hb10 := Lib.hid (Hb1.out.trans ((Hb9.out.trans (hb10.mono Hb9.out.size)).mono Hb1.out.size))
      clear hb10
      go_wp2
      go_ret
      exact ⟨rfl, Hb10.out⟩
    | true =>
      have Htt := Lib.hid (Htr.out rfl).2
      have Htu9 := Lib.hid (gTurn_any (cl := k1) (cr := k2) (cp := k3) (HRa.out.below Hb69.out))
      obtain ⟨y0, y1, y2, _⟩ := rl_cells (HrA.out _ Hb69.out)
      go_wp2_with fail
      (with_reducible refine Htu9.out.mono ?_)
      rintro e w10 ⟨v1, v2, v3, hret, hown, hb10⟩
      rw [Htt.out] at hret hown
      subst hret
      obtain ⟨B1, l1, rfl⟩ := hown.ol.form
      obtain ⟨B2, l2, rfl⟩ := hown.or_.form
      obtain ⟨B3, l3, rfl⟩ := hown.op.form
      obtain ⟨WB, hWB⟩ : ∃ WB, WB = w10.alloc (.cells #[.slice B1 r.left.length l1, .slice B2 r.right.length l2, .slice B3 r.pre.length l3] 25) := ⟨_, rfl⟩
      have hbB : Below w10.heap.size w10 WB := by rw [hWB]; exact (Below.refl _ _).alloc (Nat.le_refl _) _
      have hrB : WB.heap[w10.heap.size]? = some (.cells #[.slice B1 r.left.length l1, .slice B2 r.right.length l2, .slice B3 r.pre.length l3] 25 (0, 0)) := by rw [hWB]; exact heap_alloc_new w10 _
      have HOB := Lib.hid (hown.below hbB)
      have HRB := Lib.hid (show RlAt WB r r.left.length r.right.length r.pre.length B1 B2 B3 from ⟨HOB.out.ol.stAt (ndF_rel _) rfl, HOB.out.or_.stAt (ndF_rel _) rfl, HOB.out.op.stAt rfl, HR1.out.fl, HR1.out.fr⟩)
      have Hb6B := Lib.hid (Hb69.out.trans ((hb10.trans (hbB.mono hb10.size)).mono Hb69.out.size))
      have HbB := Lib.hid (Hb6.out.trans (Hb6B.out.mono Hb6.out.size))
      obtain ⟨z0, z1, z2, _⟩ := rl_cells hrB
      obtain ⟨d0, d1, d2, _⟩ := Hrow.out _ HbB.out
      have HWB := Lib.hid hWB
      rw [hWB] at d0 d1 d2 z0 z1 z2
      clear hown hb10 hbB hrB hWB y0 y1 y2
      have Hsm2 := Lib.hid (rSame_any (cl := l1) (cr := l2) (cp := l3) (cl' := cl) (cr' := cr) (cp' := cp) HRB.out (HR1.out.below HbB.out))
      rw [decide_eq_true (rfl : r = r)] at Hsm2
      go_wp2_with fail
      rw [← HWB.out]
      (with_reducible refine Hsm2.out.mono ?_)
      rintro e w12 ⟨rfl, hb12⟩
      have Hb612 := Lib.hid (Hb6B.out.trans (hb12.mono Hb6B.out.size))
      have Hb412 := Lib.hid (Hb46.out.trans (Hb612.out.mono Hb46.out.size))
      have HL12 := Lib.hid (HLf.out.below Hb612.out)
      have HA12 := Lib.hid (HrA.out _ Hb612.out)
      obtain ⟨n, hn⟩ : ∃ n, n = t0.left.length := ⟨_, rfl⟩
      obtain ⟨ga, hga⟩ : ∃ ga, ga = w5.heap.size := ⟨_, rfl⟩
      have Hn9 := Lib.hid (show n ≤ 9223372036854775807 from by rw [hn]; exact HRa.out.sl.le)
      rw [← hn] at HL12 HA12
      rw [← hga] at HA12 ⊢
      clear hb12 d0 d1 d2 z0 z1 z2 hn hga
      go_wp2
      go_loopg [13] (n + 1) (fun gg i wr => ∃ j : Nat, j ≤ n ∧ i = .int .i64 (j : Int) ∧ gg + j = n + 1 ∧ Hid (Below W4.heap.size W4 wr) ∧ Hid (wr.heap[ga]? = some (.cells #[.slice A1 n k1, .slice A2 t0.right.length k2, .slice A3 t0.pre.length k3] 25 (0, 0))) ∧ Hid (LeftsAt W4.heap.size wr A1 n))
      case atStart => exact ⟨0, Nat.zero_le _, rfl, rfl, Hb412, HA12, HL12⟩
      case round =>
        obtain ⟨j, hj, rfl, hgk, Hbw, Hra, Hlf⟩ := hrel
        obtain ⟨gO, rfl⟩ : ∃ g, g = gk := ⟨_, rfl⟩
        obtain ⟨w13, rfl⟩ : ∃ w, w = wr := ⟨_, rfl⟩
        have HgO := Lib.hid hgk; clear hgk
        obtain ⟨y0, y1, y2, _⟩ := rl_cells Hra.out
        have hn9 := Hn9.out
        by_cases hjn : j < n
        · obtain ⟨g, off, A4, m, c4, rfl, hcu, hm9, hin⟩ := Hlf.out.at_ hjn
          have Hm9 := Lib.hid hm9
          have Hcu := Lib.hid hcu
          have Hin := Lib.hid hin
          clear hcu hm9 hin
          go_wp2
          clear y0 y1 y2
          go_loopg [14] (m + 1) (fun gg i wr => ∃ q : Nat, q ≤ m ∧ i = .int .i64 (q : Int) ∧ gg + q = m + 1 ∧ Hid (Below W4.heap.size W4 wr) ∧ Hid (wr.heap[ga]? = some (.cells #[.slice (some ⟨g, off, none⟩) n k1, .slice A2 t0.right.length k2, .slice A3 t0.pre.length k3] 25 (0, 0))) ∧ Hid (LeftsAt W4.heap.size wr (some ⟨g, off, none⟩) n) ∧ Hid (∃ cur, wr.heap[g]? = some (.cells cur 41 (0, 0)) ∧ cur[off + j * 5 + 3]? = some (.slice A4 m c4)) ∧ Hid (IntsAt W4.heap.size wr A4 m))
          case atStart => exact ⟨0, Nat.zero_le _, rfl, rfl, Hbw, Hra, Hlf, Hcu, Hin⟩
          case round =>
            obtain ⟨q, hq, rfl, hgk, Hbw4, Hra4, Hlf4, Hcu4, Hin4⟩ := hrel
            obtain ⟨w4, rfl⟩ : ∃ w, w = wr := ⟨_, rfl⟩
            have Hgk := Lib.hid hgk; clear hgk
            obtain ⟨y0, y1, y2, _⟩ := rl_cells Hra4.out
            have m9 := Hm9.out
            have x3 : w4.cell? ⟨g, off + j * 5 + 3, none⟩ = some (.slice A4 m c4) := by
              obtain ⟨cur, h1, h2⟩ := Hcu4.out
              rw [cell_of_row _ _ _ _ _ (0, 0) h1]; exact h2
            by_cases hqm : q < m
            · obtain ⟨g2, off2, cur2, u, rfl, hB2, hg2, hc2, hf2⟩ := Hin4.out.at_ hqm
              have HbX := Lib.hid (Hbw4.out.setCell (p := ⟨g2, off2 + q, none⟩) hB2 (.int .i64 (-1)))
              have HraX := Lib.hid (row_ne (j := off2 + q) Hra4.out (by decide) hg2 (.int .i64 (-1)))
              have HlfX := Lib.hid (Hlf4.out.put (j := off2 + q) hg2 (.int .i64 (-1)))
              have HinX := Lib.hid (Hin4.out.put (j := off2 + q) hg2 (.int .i64 (-1)))
              have HcuX := Lib.hid (show ∃ cur, (w4.setCell ⟨g2, off2 + q, none⟩ (.int .i64 (-1))).heap[g]? = some (.cells cur 41 (0, 0)) ∧ cur[off + j * 5 + 3]? = some (.slice (some ⟨g2, off2, none⟩) m c4) from by
                obtain ⟨cur, h1, h2⟩ := Hcu4.out
                exact ⟨cur, row_ne h1 (by decide) hg2 _, h2⟩)
              clear hB2 hg2
              go_wp2
              go_roundg (gk - 1)
              case measure => have := Hgk.out; omega
              case rel =>
                have := Hgk.out
                exact ⟨q + 1, by omega, by go_num, by omega, HbX, HraX, HlfX, HcuX, HinX⟩
            · obtain rfl : q = m := by omega
              go_wp2
              go_roundg (gO - 1)
              case measure => have := HgO.out; omega
              case rel =>
                have := HgO.out
                exact ⟨j + 1, by omega, by go_num, by omega, Hbw4, Hra4, Hlf4⟩
        · obtain rfl : j = n := by omega
          have Hbw1 := Lib.hid (Hb4.out.trans (Hbw.out.mono Hb4.out.size))
          obtain ⟨z0, z1, z2, _⟩ := HrO.out _ Hbw.out
          obtain ⟨d0, d1, d2, _⟩ := Hrow.out _ Hbw1.out
          have Hsm3 := Lib.hid (rSame_any (cl := o1) (cr := o2) (cp := o3) (cl' := cl) (cr' := cr) (cp' := cp) (HRo.out.below Hbw.out) (HR1.out.below Hbw1.out))
          rw [decide_eq_true (rfl : r = r)] at Hsm3
          go_wp2_with fail
          (with_reducible refine Hsm3.out.mono ?_)
          rintro e w14 ⟨rfl, hb14⟩
          have Hb14 := Lib.hid (Hbw1.out.trans (hb14.mono Hbw1.out.size))
          clear hb14 y0 y1 y2 z0 z1 z2 d0 d1 d2
          go_wp2_with fail
          (with_reducible refine (Hkn.out _ Hb14.out).mono ?_)
          rintro e w15 ⟨rfl, hb15⟩
          have Hb15 := Lib.hid (Hb1.out.trans ((Hb14.out.trans (hb15.mono Hb14.out.size)).mono Hb1.out.size))
          clear hb15
          go_wp2
          go_ret
          exact ⟨rfl, Hb15.out⟩
end Go.Proofs.YtmebpgggfppmhaaDoor
end
