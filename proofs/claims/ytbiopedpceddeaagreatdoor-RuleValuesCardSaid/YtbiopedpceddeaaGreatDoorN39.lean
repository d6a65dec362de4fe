/- Walks of the program's layer of bits: Breaks, for words and flags that are right. -/
import Derived.Test.YtbiopedpceddeaaGreatDoorN38
import Derived.BigQuiet
import Derived.Test.YtbiopedpceddeaaGreatDoorN10
set_option linter.unusedVariables false
set_option linter.unusedSimpArgs false
namespace Go.Proofs.YtbiopedpceddeaaGreatDoor
open Go.RowKit Go.Maps Go.Shelf
set_option linter.unusedVariables false
set_option linter.unusedSimpArgs false

theorem op_cells {w : World} {g : Nat} {T : TypeId} {a0 a1 a2 : Value} (h : w.heap[g]? = some (.cells #[a0, a1, a2] T (0, 0))) : w.cell? ⟨g, 0, none⟩ = some a0 ∧ w.cell? ⟨g, 1, none⟩ = some a1 ∧ w.cell? ⟨g, 2, none⟩ = some a2 := by
  refine ⟨?_, ?_, ?_⟩
  all_goals rw [cell_of_row _ _ _ _ _ (0, 0) h]; rfl
theorem neq_fn (g : Nat) (w : World) : (binOp .neq 162 (.func (.func g) #[] #[]) .nilFunc).run Tryz.prog w = .ok (.bool true) w := by
  kernel_rfl
theorem neq_nil (w : World) : (binOp .neq 162 .nilFunc .nilFunc).run Tryz.prog w = .ok (.bool false) w := by
  kernel_rfl
theorem eql_fn (g : Nat) (w : World) : (binOp .eql 161 (.func (.func g) #[] #[]) .nilFunc).run Tryz.prog w = .ok (.bool false) w := by
  kernel_rfl
theorem eql_nil (w : World) : (binOp .eql 161 .nilFunc .nilFunc).run Tryz.prog w = .ok (.bool true) w := by
  kernel_rfl
theorem shl_half {n : Int} (h0 : 1 ≤ n) (h1 : n ≤ 32) : wrap64 (2 ^ (n.toNat - 1)) = B.pw (n - 1) ∧ wrap64 (-B.pw (n - 1)) = -B.pw (n - 1) ∧ wrap64 (n - 1) = n - 1 := by
  have h2 := B.pw_le31 (n := n - 1) (by omega)
  have h3 := B.pw_pos (n - 1)
  refine ⟨?_, B.wrap64_id (by omega) (by omega), B.wrap64_id (by omega) (by omega)⟩
  rw [B.pw_sub h0]
  exact B.wrap64_id (by omega) (by omega)
theorem flag_bits {fl : Int} (h0 : 0 ≤ fl) (h1 : fl ≤ 7) : (bits .and .i64 fl 4 != 0) = decide (fl / 4 % 2 = 1) ∧ (bits .and .i64 fl 1 != 0) = decide (fl % 2 = 1) ∧ (bits .and .i64 fl 2 != 0) = decide (fl / 2 % 2 = 1) := by
  have h : fl = 0 ∨ fl = 1 ∨ fl = 2 ∨ fl = 3 ∨ fl = 4 ∨ fl = 5 ∨ fl = 6 ∨ fl = 7 := by omega
  rcases h with rfl | rfl | rfl | rfl | rfl | rfl | rfl | rfl <;> decide

set_option maxRecDepth 100000 in
set_option maxHeartbeats 4000000 in
theorem pBreaks_ok (op fl n a b : Int) (w : World) (hop : (Lit.int .i64 op).wf = true) (hf0 : 0 ≤ fl) (hf1 : fl ≤ 7) (ha : 0 ≤ a) (hb : 0 ≤ b) (hok : B.okOp op n a b = true) : Calls Tryz.prog 108 #[.int .i64 op, .int .i64 fl, .int .i64 n, .int .u32 a, .int .u32 b] w fun e w' =>
    e = .returned (.tuple #[.bool (B.brk op fl n a b), .int .i64 0]) ∧ Below w.heap.size w w' := by
  have HA := Lib.hid (askedW_any op n a b w hop)
  have hw := okOp_wds hok ha hb
  rw [hok] at HA
  have Hw := Lib.hid hw
  have q0 : decide (fl < 0) = false := by simp; omega
  have q7 : decide (7 < fl) = false := by simp; omega
  obtain ⟨e4, e1, e2⟩ := flag_bits hf0 hf1
  obtain ⟨x4, hx4⟩ : ∃ x, x = decide (fl / 4 % 2 = 1) := ⟨_, rfl⟩
  obtain ⟨x1, hx1⟩ : ∃ x, x = decide (fl % 2 = 1) := ⟨_, rfl⟩
  obtain ⟨x2, hx2⟩ : ∃ x, x = decide (fl / 2 % 2 = 1) := ⟨_, rfl⟩
  obtain ⟨E, hE⟩ : ∃ E, E = (x4 && (B.isLf op && B.lf op n a b)) := ⟨_, rfl⟩
  obtain ⟨p, hp⟩ : ∃ p, p = B.whP op a b := ⟨_, rfl⟩
  obtain ⟨y, hy⟩ : ∃ y, y = (if op = 11 then b else B.sg n b) := ⟨_, rfl⟩
  obtain ⟨q, hq⟩ : ∃ q, q = B.whP op (B.sg n a) y := ⟨_, rfl⟩
  have hbrk : B.brk op fl n a b = (B.has op n a b && (E || (B.isWh op && ((x1 && (decide (p < 0) || decide (B.pw n - 1 < p))) || (x2 && (decide (q < -B.pw (n - 1)) || decide (B.pw (n - 1) ≤ q))))))) := by
    unfold B.brk B.has
    have hU := B.out_whP (op := op) (a := a) (b := b) (show -4611686018427387904 < 0 by decide) (B.pw_hi hw.n1)
    have hS := B.out_whP (op := op) (a := B.sg n a) (b := y) (B.pw_lo (n := n) (by have := hw.n1; omega)) (B.pw_hi (n := n - 1) (by have := hw.n1; omega))
    rw [← hU, ← hy, ← hS, ← hx4, ← hx1, ← hx2, ← hE, ← hp, ← hq]
    have e : decide (B.pw (n - 1) - 1 < q) = decide (B.pw (n - 1) ≤ q) := by rw [Bool.eq_iff_iff]; simp only [decide_eq_true_eq]; omega
    unfold B.out
    rw [e]
  rw [← hx4] at e4
  rw [← hx1] at e1
  rw [← hx2] at e2
  obtain ⟨r, hr⟩ : ∃ r, B.brk op fl n a b = r := ⟨_, rfl⟩
  rw [hr] at hbrk ⊢
  have Hr := Lib.hid hbrk
  have HE := Lib.hid hE
  have Hy := Lib.hid hy
  have Hp := Lib.hid hp
  have Hq := Lib.hid hq
  clear hbrk hE hx4 hx1 hx2 hr hok hf0 hf1 hw hy hp hq
  cases hx : B.do_ op n a b with
  | none =>
    have hh : B.has op n a b = false := by unfold B.has; rw [hx]; rfl
    have Hh := Lib.hid hh
    have Hf := Lib.hid (show r = false from by rw [Hr.out, hh]; rfl)
    clear hx hh e4 e1 e2
    go_enter Tryz.func108, Tryz.ntmps108
    go_wp2_with fail
    refine HA.out.mono ?_
    rintro e w1 ⟨u, rfl, hbw, hsz, hcase⟩
    obtain ⟨bm, hel⟩ : ∃ bm, ElW bm w1 op u () := by
      rcases hcase with ⟨_, h⟩ | ⟨h, _⟩
      · exact h
      · cases h
    obtain ⟨f, caps, v1, v2, own, rfl, ⟨hv1, hv2⟩, hl, eg, ho, hd⟩ := hel
    have hst1 : ∀ W A m, (store A v1 m).run Tryz.prog W = stored Tryz.prog W A v1 m := fun W A m => run_store _ W A v1 m hv1
    have hst2 : ∀ W A m, (store A v2 m).run Tryz.prog W = stored Tryz.prog W A v2 m := fun W A m => run_store _ W A v2 m hv2
    have con := hd (w1.alloc (.cells #[.func (.func f) #[] caps, v1, v2] 164)) (fun B0 hB => Below.heap_alloc _ _ _ (ho B0 hB).1) n a b Hw.out
    rw [Hh.out] at con
    have Hcon := Lib.hid con; clear con
    clear hv1 hv2 hcase ho hd hl
    go_wp2_with fail
    refine Hcon.out.mono ?_
    rintro e w2 ⟨rfl, hdr⟩
    go_wp2
    go_ret2
    exact ⟨by rw [Hf.out]; rfl, (hbw.alloc hbw.size _).dr hdr⟩
  | some d =>
    have hh : B.has op n a b = true := by unfold B.has; rw [hx]; rfl
    have Hh := Lib.hid hh
    have Hs := Lib.hid (show (B.do_ op n a b).isSome = true from hh)
    clear hx hh
    go_enter Tryz.func108, Tryz.ntmps108
    go_wp2_with fail
    refine HA.out.mono ?_
    rintro e w1 ⟨u, rfl, hbw, hsz, hcase⟩
    obtain ⟨bm, hel⟩ : ∃ bm, ElW bm w1 op u () := by
      rcases hcase with ⟨_, h⟩ | ⟨h, _⟩
      · exact h
      · cases h
    obtain ⟨f, caps, v1, v2, own, rfl, ⟨hv1, hv2⟩, hl, eg, ho, hd⟩ := hel
    have hst1 : ∀ W A m, (store A v1 m).run Tryz.prog W = stored Tryz.prog W A v1 m := fun W A m => run_store _ W A v1 m hv1
    have hst2 : ∀ W A m, (store A v2 m).run Tryz.prog W = stored Tryz.prog W A v2 m := fun W A m => run_store _ W A v2 m hv2
    obtain ⟨wb, hwb⟩ : ∃ wb, wb = w1.alloc (.cells #[.func (.func f) #[] caps, v1, v2] 164) := ⟨_, rfl⟩
    have con := hd wb (fun B0 hB => by rw [hwb]; exact Below.heap_alloc _ _ _ (ho B0 hB).1) n a b Hw.out
    rw [Hh.out] at con
    have Hcon := Lib.hid con; clear con
    have hrow : wb.heap[w1.heap.size]? = some (.cells #[.func (.func f) #[] caps, v1, v2] 164 (0, 0)) := by rw [hwb]; exact heap_alloc_new w1 _
    have Hrow := Lib.hid (fun X (h : Dr wb X) => op_cells (((h.below wb.heap.size).block _ (Array.getElem?_eq_some_iff.1 hrow).1).trans hrow))
    have Hbb := Lib.hid (show Below w.heap.size w wb from by rw [hwb]; exact hbw.alloc hbw.size _)
    have Hl := Lib.hid hl
    clear hv1 hv2 hcase ho hd hl hrow
    go_upto_region 4 with (fail)
    rw [← hwb]
    clear hwb
    obtain ⟨c0, c1, c2⟩ := Hrow.out wb (Dr.refl _)
    go_wp2_with fail
    refine Hcon.out.mono ?_
    rintro e w3 ⟨rfl, hdr⟩
    have Hd3 := Lib.hid hdr
    clear c0 c1 c2 hdr Hcon
    go_upto_region 7 with (fail)
    go_cut [64] (fun s64 wx => s64 = .bool E ∧ Hid (Dr wb wx))
    case first =>
      obtain ⟨c0, c1, c2⟩ := Hrow.out _ Hd3.out
      cases x4 with
      | false =>
        go_wp2_with fail
        go_meet
        exact ⟨by rw [HE.out]; rfl, Hd3⟩
      | true =>
        rcases Hl.out.2 with ⟨hlf, g, rfl, eg2, hg⟩ | ⟨hlf, rfl⟩
        · have HG := Lib.hid (hg n a b w3 Hw.out Hs.out)
          have Hlf := Lib.hid hlf
          have eg3 := fun args w => eg2 args w
          have kn := neq_fn g
          clear hlf hg
          go_wp2_with fail
          refine HG.out.mono ?_
          rintro e w4 ⟨rfl, hd4⟩
          have Hd4 := Lib.hid (Hd3.out.trans hd4)
          clear hd4 c0 c1 c2
          go_wp2_with fail
          go_meet
          exact ⟨by rw [HE.out, Hlf.out]; rfl, Hd4⟩
        · have Hlf := Lib.hid hlf
          have kn := neq_nil
          clear hlf
          go_wp2_with fail
          go_meet
          exact ⟨by rw [HE.out, Hlf.out]; rfl, Hd3⟩
    case rest =>
      obtain ⟨rfl, Hdx⟩ := hcut
      cases E with
      | true =>
        have Hf := Lib.hid (show r = true from by rw [Hr.out, Hh.out]; rfl)
        go_wp2
        go_ret2
        exact ⟨by rw [Hf.out]; rfl, Hbb.out.dr Hdx.out⟩
      | false =>
        have hr2 := Hr.out
        rw [Hh.out, Bool.true_and, Bool.false_or] at hr2
        have Hr2 := Lib.hid hr2
        clear hr2 Hr
        obtain ⟨c0, c1, c2⟩ := Hrow.out _ Hdx.out
        rcases Hl.out.1 with ⟨hwh, g, rfl, eg2, hg⟩ | ⟨hwh, rfl⟩
        rotate_left
        · have Hf := Lib.hid (show r = false from by rw [Hr2.out, hwh]; rfl)
          clear hwh
          have kn := eql_nil
          go_wp2
          go_ret2
          exact ⟨by rw [Hf.out]; rfl, Hbb.out.dr Hdx.out⟩
        · have hr2 := Hr2.out
          rw [hwh, Bool.true_and] at hr2
          have Hr3 := Lib.hid hr2
          clear hr2 Hr2 hwh
          have eg3 := fun args w => eg2 args w
          have kn := eql_fn g
          have HG := Lib.hid hg
          have hpl := B.pw_le Hw.out.n1
          have ha3 := Hw.out.a1
          have hb3 := Hw.out.b1
          have ha0 := Hw.out.a0
          have hb0 := Hw.out.b0
          have hn0 := Hw.out.n0
          have hn1 := Hw.out.n1
          have hbs : op = 11 → 0 ≤ b ∧ b ≤ 31 := fun e => by
            have h := Hs.out
            subst e
            rw [B.do_11] at h
            split at h
            · cases h
            · omega
          have hga := HG.out a b
          rw [← Hp.out] at hga
          have HGa := Lib.hid (fun W => hga W ⟨by omega, by omega⟩ ⟨by omega, by omega⟩ hbs)
          have hlo := B.sg_lo (n := n) (a := a) (by omega) ha0
          have hhi := B.sg_hi (n := n) (a := a) (by omega) ha3
          have hlob := B.sg_lo (n := n) (a := b) (by omega) hb0
          have hhib := B.sg_hi (n := n) (a := b) (by omega) hb3
          have hp31 := B.pw_le31 (n := n - 1) (by omega)
          have hy0 : -4294967295 ≤ y ∧ y ≤ 4294967295 := by rw [Hy.out]; split <;> exact ⟨by omega, by omega⟩
          have hgq := HG.out (B.sg n a) y
          rw [← Hq.out] at hgq
          have HGq := Lib.hid (fun W => hgq W ⟨by omega, by omega⟩ hy0 (fun e => by rw [Hy.out, if_pos e]; exact hbs e))
          have HM := Lib.hid (fun W => mask_any n W (by omega) hn1)
          have HSa := Lib.hid (fun W => signed_any n a W hn0 hn1 ha0 ha3)
          have HSb := Lib.hid (fun W => signed_any n b W hn0 hn1 hb0 hb3)
          have hpw := B.pw_pos (n - 1)
          have hpn := B.pw_pos n
          obtain ⟨mk, hmk⟩ : ∃ mk, mk = B.pw n - 1 := ⟨_, rfl⟩
          obtain ⟨hf, hhf⟩ : ∃ hf, hf = B.pw (n - 1) := ⟨_, rfl⟩
          obtain ⟨sa, hsa⟩ : ∃ sa, sa = B.sg n a := ⟨_, rfl⟩
          rw [← hmk, ← hhf] at Hr3
          rw [← hmk] at HM
          rw [← hsa] at HGq HSa
          obtain ⟨hshl, hneg, hn1s⟩ := shl_half hn0 hn1
          rw [← hhf] at hshl hneg
          have wa : wrap64 a = a := B.wrap64_id (by omega) (by omega)
          have wb2 : wrap64 b = b := B.wrap64_id (by omega) (by omega)
          have wm : wrap64 mk = mk := by rw [hmk]; exact B.wrap64_id (by omega) (by omega)
          have Hshl := Lib.hid hshl
          have Hneg := Lib.hid hneg
          have Hn1s := Lib.hid hn1s
          have Hn0 := Lib.hid hn0
          have Hn1 := Lib.hid hn1
          have Hb0 := Lib.hid hb0
          clear hg hga hgq hlo hhi hlob hhib hy0 hbs hpl hp31 hmk hhf hsa hshl hneg hn1s hn0 hn1 hb0 ha0 ha3 hb3 hpw hpn
          go_upto_if 70 with (fail)
          clear c0 c2
          go_cut [16] (fun s16 wx => Hid ((x1 && (decide (p < 0) || decide (mk < p))) = false) ∧ Hid (Dr wb wx))
          case first =>
            cases x1 with
            | false =>
              go_wp2_with fail
              go_meet
              exact ⟨Lib.hid rfl, Hdx⟩
            | true =>
              by_cases hp0 : p < 0
              · have hd0 : decide (p < 0) = true := by simpa using hp0
                have Hf := Lib.hid (show r = true from by rw [Hr3.out, hd0]; rfl)
                clear hp0
                go_wp2_with fail
                refine (HGa.out _).mono ?_
                rintro e w4 ⟨rfl, rfl⟩
                go_wp2
                go_ret2
                exact ⟨by rw [Hf.out]; rfl, Hbb.out.dr Hdx.out⟩
              · have hd0 : decide (p < 0) = false := by simpa using hp0
                by_cases hp1 : mk < p
                · have hd1 : decide (mk < p) = true := by simpa using hp1
                  have Hf := Lib.hid (show r = true from by rw [Hr3.out, hd0, hd1]; rfl)
                  clear hp0 hp1
                  go_wp2_with fail
                  refine (HGa.out _).mono ?_
                  rintro e w4 ⟨rfl, rfl⟩
                  go_wp2_with fail
                  refine (HM.out _).mono ?_
                  rintro e w4 ⟨rfl, rfl⟩
                  go_wp2
                  go_ret2
                  exact ⟨by rw [Hf.out]; rfl, Hbb.out.dr Hdx.out⟩
                · have hd1 : decide (mk < p) = false := by simpa using hp1
                  have Hd := Lib.hid (show (true && (decide (p < 0) || decide (mk < p))) = false from by rw [hd0, hd1]; rfl)
                  clear hp0 hp1
                  go_wp2_with fail
                  refine (HGa.out _).mono ?_
                  rintro e w4 ⟨rfl, rfl⟩
                  go_wp2_with fail
                  refine (HM.out _).mono ?_
                  rintro e w4 ⟨rfl, rfl⟩
                  go_wp2_with fail
                  go_meet
                  exact ⟨Hd, Hdx⟩
          case rest =>
            obtain ⟨Hx1, Hdy⟩ := hcut
            have hr4 := Hr3.out
            rw [Hx1.out, Bool.false_or] at hr4
            have Hr4 := Lib.hid hr4
            clear hr4 Hr3 Hx1
            obtain ⟨c0, c1, c2⟩ := Hrow.out _ Hdy.out
            clear c0 c2
            cases x2 with
            | false =>
              have Hf := Lib.hid (show r = false from by rw [Hr4.out]; rfl)
              go_wp2
              go_ret2
              exact ⟨by rw [Hf.out]; rfl, Hbb.out.dr Hdy.out⟩
            | true =>
              have hr5 := Hr4.out
              rw [Bool.true_and] at hr5
              have Hr5 := Lib.hid hr5
              clear hr5 Hr4
              have hshl := Hshl.out
              have hneg := Hneg.out
              have hn1s := Hn1s.out
              have hn0 := Hn0.out
              have hn1 := Hn1.out
              obtain ⟨b1, hb1⟩ : ∃ b1, decide (q < -hf) = b1 := ⟨_, rfl⟩
              obtain ⟨b2, hb2⟩ : ∃ b2, decide (hf ≤ q) = b2 := ⟨_, rfl⟩
              rw [hb1, hb2] at Hr5
              by_cases h11 : op = 11
              · have q11 : (op == 11) = true := by simpa using h11
                have hyb : y = b := by rw [Hy.out, if_pos h11]
                subst hyb
                clear h11
                go_wp2_with fail
                refine (HSb.out _).mono ?_
                rintro e w4 ⟨rfl, rfl⟩
                go_upto_region 20 with (fail)
                obtain ⟨ov⟩ := ov_ex wc
                have o1 := ov.cell c1
                have K1 := Lib.hid (fun u => calls_over_same (ov := ov) (HSa.out (ov.f u)))
                have K2 := Lib.hid (fun u => calls_over_same (ov := ov) (HGq.out (ov.f u)))
                refine wp_region_ovq ov (by kernel_rfl) (by kernel_rfl) ?_
                repeat (go_big_quiet_step (first | (go_at_call 103; with_reducible exact K1.out _) | (with_reducible exact K2.out _)))
                refine wpQuiet_nil ?_
                rintro _ ⟨u, rfl⟩
                have Hbo := Lib.hid ((Hbb.out.dr Hdy.out).trans ((ov.below u).mono (Hbb.out.dr Hdy.out).size))
                clear o1 c1 K1 K2 HGa HGq HM HSa HSb hn1s hn0 hn1 wa wb2 wm kn eg3 eg2 e1 e2 e4 eg hst1 hst2 q0 q7 q11 Hl Hrow
                generalize ov.f u = w5 at *
                cases b1 with
                | true =>
                  have Hf := Lib.hid (show r = true from by rw [Hr5.out]; rfl)
                  go_wp2
                  go_ret2
                  exact ⟨by rw [Hf.out]; rfl, Hbo.out⟩
                | false =>
                  cases b2 with
                  | true =>
                    have Hf := Lib.hid (show r = true from by rw [Hr5.out]; rfl)
                    go_wp2
                    go_ret2
                    exact ⟨by rw [Hf.out]; rfl, Hbo.out⟩
                  | false =>
                    have Hf := Lib.hid (show r = false from by rw [Hr5.out]; rfl)
                    go_wp2
                    go_ret2
                    exact ⟨by rw [Hf.out]; rfl, Hbo.out⟩
              · have q11 : (op == 11) = false := by simpa using h11
                have hyb : y = B.sg n b := by rw [Hy.out, if_neg h11]
                rw [← hyb] at HSb
                clear h11 hyb
                go_wp2_with fail
                refine (HSb.out _).mono ?_
                rintro e w4 ⟨rfl, rfl⟩
                go_upto_region 20 with (fail)
                obtain ⟨ov⟩ := ov_ex wc
                have o1 := ov.cell c1
                have K1 := Lib.hid (fun u => calls_over_same (ov := ov) (HSa.out (ov.f u)))
                have K2 := Lib.hid (fun u => calls_over_same (ov := ov) (HGq.out (ov.f u)))
                refine wp_region_ovq ov (by kernel_rfl) (by kernel_rfl) ?_
                repeat (go_big_quiet_step (first | (go_at_call 103; with_reducible exact K1.out _) | (with_reducible exact K2.out _)))
                refine wpQuiet_nil ?_
                rintro _ ⟨u, rfl⟩
                have Hbo := Lib.hid ((Hbb.out.dr Hdy.out).trans ((ov.below u).mono (Hbb.out.dr Hdy.out).size))
                clear o1 c1 K1 K2 HGa HGq HM HSa HSb hn1s hn0 hn1 wa wb2 wm kn eg3 eg2 e1 e2 e4 eg hst1 hst2 q0 q7 q11 Hl Hrow
                generalize ov.f u = w5 at *
                cases b1 with
                | true =>
                  have Hf := Lib.hid (show r = true from by rw [Hr5.out]; rfl)
                  go_wp2
                  go_ret2
                  exact ⟨by rw [Hf.out]; rfl, Hbo.out⟩
                | false =>
                  cases b2 with
                  | true =>
                    have Hf := Lib.hid (show r = true from by rw [Hr5.out]; rfl)
                    go_wp2
                    go_ret2
                    exact ⟨by rw [Hf.out]; rfl, Hbo.out⟩
                  | false =>
                    have Hf := Lib.hid (show r = false from by rw [Hr5.out]; rfl)
                    go_wp2
                    go_ret2
                    exact ⟨by rw [Hf.out]; rfl, Hbo.out⟩
end Go.Proofs.YtbiopedpceddeaaGreatDoor
