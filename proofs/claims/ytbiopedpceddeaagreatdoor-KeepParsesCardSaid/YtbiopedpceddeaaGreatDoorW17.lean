/- Merged: C4Z10. -/
import Derived.Test.YtbiopedpceddeaaGreatDoorW16
set_option linter.unusedVariables false
set_option linter.unusedSimpArgs false
namespace Go.Proofs.YtbiopedpceddeaaGreatDoor
open Go.RowKit
set_option linter.unusedVariables false
set_option linter.unusedSimpArgs false

theorem R.okTyped_false {r : R.Rl} (h : r.left.all (T.typed r.left) = false ∨ r.right.all (T.typed r.right) = false ∨ ¬ R.rootW r.left ≤ 1 ∨ R.rootW r.right ≠ R.rootW r.left) : R.okTyped r = false := by
  unfold R.okTyped
  rcases h with h | h | h | h
  · rw [h]; simp
  · rw [h]; simp
  · rw [decide_eq_false h]; simp
  · rw [decide_eq_false h]; simp

set_option maxRecDepth 100000 in
set_option maxHeartbeats 16000000 in
theorem rValidate_rule {r : R.Rl} {nl cl nr cr np cp : Nat} {AL AR AP : Option Addr} {W : World} (hR : RlAt W r nl nr np AL AR AP) :
    Calls Tryz.prog 19 #[.agg #[.slice AL nl cl, .slice AR nr cr, .slice AP np cp]] W fun e W' => e = .returned (.int .i64 (R.rvalid r)) ∧ Below W.heap.size W W' := by
  have hlL := hR.sl.le
  have hlR := hR.sr.le
  have hlP := hR.sp.le
  have HlL := Lib.hid hR.sl.len
  have HlR := Lib.hid hR.sr.len
  have HlP := Lib.hid hR.sp.len
  obtain ⟨sA, hsA⟩ : ∃ sA : Nat → Option Addr, sA = fun k => if k = 0 then AL else AR := ⟨_, rfl⟩
  obtain ⟨sN, hsN⟩ : ∃ sN : Nat → Nat, sN = fun k => if k = 0 then nl else nr := ⟨_, rfl⟩
  obtain ⟨sC, hsC⟩ : ∃ sC : Nat → Nat, sC = fun k => if k = 0 then cl else cr := ⟨_, rfl⟩
  obtain ⟨W2, hW2⟩ : ∃ W2, W2 = (W.alloc (.cells #[.slice AL nl cl, .slice AR nr cr, .slice AP np cp] 33)).alloc (.cells #[.slice AL nl cl, .slice AR nr cr] 22) := ⟨_, rfl⟩
  have hb2 : Below W.heap.size W W2 := by rw [hW2]; exact ((Below.refl _ _).alloc (Nat.le_refl _) _).alloc (by simp) _
  have hr0 : W2.heap[W.heap.size]? = some (.cells #[.slice AL nl cl, .slice AR nr cr, .slice AP np cp] 33 (0, 0)) := by rw [hW2]; exact row_alloc (heap_alloc_new W _) _
  have hr1 : W2.heap[W.heap.size + 1]? = some (.cells #[.slice AL nl cl, .slice AR nr cr] 22 (0, 0)) := by rw [hW2]; exact new_two W _ _
  have HR2 := Lib.hid (hR.below hb2)
  have Hc := Lib.hid (show ∀ X, Below W2.heap.size W2 X → X.cell? ⟨W.heap.size, 0, none⟩ = some (.slice AL nl cl) ∧ X.cell? ⟨W.heap.size, 1, none⟩ = some (.slice AR nr cr) ∧ X.cell? ⟨W.heap.size, 2, none⟩ = some (.slice AP np cp) from fun X hX => by
    obtain ⟨h0, h1, h2, _⟩ := rl_cells ((hX.block _ (Array.getElem?_eq_some_iff.1 hr0).1).trans hr0)
    exact ⟨h0, h1, h2⟩)
  have Hd := Lib.hid (show ∀ X, Below W2.heap.size W2 X → ∀ s, s < 2 → X.cell? ⟨W.heap.size + 1, s, none⟩ = some (.slice (sA s) (sN s) (sC s)) from fun X hX s hs => by
    have h := (hX.block _ (Array.getElem?_eq_some_iff.1 hr1).1).trans hr1
    rw [cell_of_row _ _ _ _ _ (0, 0) h, hsA, hsN, hsC]
    rcases (show s = 0 ∨ s = 1 by omega) with rfl | rfl <;> rfl)
  have HSt := Lib.hid (show ∀ X, Below W2.heap.size W2 X → ∀ s, s < 2 → StAt 5 NdR X (sA s) (sN s) (R.side r s) from fun X hX s hs => by
    have h := HR2.out.below hX
    rw [hsA, hsN]
    rcases (show s = 0 ∨ s = 1 by omega) with rfl | rfl
    · exact h.sl
    · exact h.sr)
  have HsN := Lib.hid (show sN 0 = nl ∧ sN 1 = nr from by rw [hsN]; exact ⟨rfl, rfl⟩)
  have Hb2 := Lib.hid hb2
  have HW2 := Lib.hid hW2
  have HsL := Lib.hid (show ∀ s, s < 2 → sN s ≤ 9223372036854775807 from fun s hs => (HSt.out W2 (Below.refl _ _) s hs).le)
  have HsE := Lib.hid (show ∀ s, s < 2 → (R.side r s).length = sN s from fun s hs => (HSt.out W2 (Below.refl _ _) s hs).len)
  obtain ⟨e, he⟩ : ∃ e, R.rvalid r = e := ⟨_, rfl⟩
  rw [he]
  have He := Lib.hid he
  obtain ⟨z0, z1, z2⟩ := Hc.out W2 (Below.refl _ _)
  have y0 := Hd.out W2 (Below.refl _ _) 0 (by omega)
  rw [hW2] at z0 z1 z2
  clear hR hb2 hr0 hr1 hW2 hsA hsN hsC he y0
  go_enter Tryz.func19, Tryz.ntmps19
  go_wp2
  rw [← HW2.out]
  clear z0 z1 z2
  go_loop [4] (fun i => ∃ s : Nat, s ≤ 2 ∧ i = .int .i64 (s : Int) ∧ Hid (∀ k, k < s → 1 ≤ sN k ∧ sN k ≤ 12)) (fun i => 2 - (intOf i).toNat)
  case atStart => exact ⟨0, by omega, rfl, Lib.hid (fun k hk => by omega)⟩
  case round =>
    obtain ⟨s, hs, rfl, Hall⟩ := hrel
    by_cases hs2 : s < 2
    · have y := Hd.out W2 (Below.refl _ _) s hs2
      have hsl := HsL.out s hs2
      by_cases h1 : sN s < 1
      · have q1 : decide ((sN s : Int) < 1) = true := by simp; omega
        have Hr := Lib.hid (show e = 3 from by
          rw [← He.out]
          refine R.rvalid_len ?_
          have := HsN.out
          rw [HlL.out, HlR.out, HlP.out]
          rcases (show s = 0 ∨ s = 1 by omega) with rfl | rfl <;> omega)
        clear h1
        go_wp2
        go_ret
        exact ⟨ret_int Hr.out.symm, Hb2.out⟩
      have q1 : decide ((sN s : Int) < 1) = false := by simp; omega
      by_cases h2 : 12 < sN s
      · have q2 : decide (12 < (sN s : Int)) = true := by simp; omega
        have Hr := Lib.hid (show e = 3 from by
          rw [← He.out]
          refine R.rvalid_len ?_
          have := HsN.out
          rw [HlL.out, HlR.out, HlP.out]
          rcases (show s = 0 ∨ s = 1 by omega) with rfl | rfl <;> omega)
        clear h1 h2
        go_wp2
        go_ret
        exact ⟨ret_int Hr.out.symm, Hb2.out⟩
      have q2 : decide (12 < (sN s : Int)) = false := by simp; omega
      have Ht := Lib.hid (show ∀ k, k < s + 1 → 1 ≤ sN k ∧ sN k ≤ 12 from fun k hk => by
        rcases Nat.lt_or_ge k s with h | h
        · exact Hall.out k h
        · obtain rfl : k = s := by omega
          omega)
      clear h1 h2
      go_wp2
      go_round
      case rel => exact ⟨s + 1, by omega, by go_num, Ht⟩
      case measure => simp [intOf]; omega
    obtain rfl : s = 2 := by omega
    have Hln := Hall
    obtain ⟨_, _, c2⟩ := Hc.out W2 (Below.refl _ _)
    clear hs2
    by_cases hp4 : 4 < np
    · have q2 : decide (4 < (np : Int)) = true := by simp; omega
      have Hr := Lib.hid (show e = 3 from by
        rw [← He.out]
        refine R.rvalid_len ?_
        rw [HlL.out, HlR.out, HlP.out]
        omega)
      clear hp4
      go_wp2
      go_ret
      exact ⟨ret_int Hr.out.symm, Hb2.out⟩
    have q2 : decide (4 < (np : Int)) = false := by simp; omega
    have Hnext := Lib.hid (show e = if (R.okSide r 0 && R.okSide r 1) = false then 1 else if (r.pre.all R.cdOk) = false then 1 else if R.okTyped r = false then 6 else if ((r.right.all fun x => (!decide (x.op = 33 ∨ x.op = 34)) || R.occ r.left x.op x.imm) && (r.pre.all fun c => R.occ r.left 34 c.hole)) = false then 7 else 0 from by
      rw [← He.out]
      refine R.rvalid_next ?_
      have h0 := Hln.out 0 (by omega)
      have h1 := Hln.out 1 (by omega)
      have := HsN.out
      rw [HlL.out, HlR.out, HlP.out]
      omega)
    have hnp4 : np ≤ 4 := by omega
    clear hp4 He
    go_wp2
    clear c2 q2
    go_loopg [5] 3 (fun gg i wr => ∃ s : Nat, s ≤ 2 ∧ i = .int .i64 (s : Int) ∧ gg + s = 3 ∧ Hid (Below W2.heap.size W2 wr) ∧ Hid (∀ k, k < s → R.okSide r k = true))
    case atStart => exact ⟨0, by omega, rfl, rfl, Lib.hid (Below.refl _ _), Lib.hid (fun k hk => by omega)⟩
    case round =>
      obtain ⟨s, hs, rfl, hgk, Hbw, Hok⟩ := hrel
      obtain ⟨gO, rfl⟩ : ∃ g, g = gk := ⟨_, rfl⟩
      obtain ⟨w3, rfl⟩ : ∃ w, w = wr := ⟨_, rfl⟩
      have HgO := Lib.hid hgk; clear hgk
      by_cases hs2 : s < 2
      · have hsl := HsL.out s hs2
        have qs : decide ((s : Int) < 2) = true := by simp; omega
        go_wp2
        clear qs
        go_loopg [6] (sN s + 1) (fun gg i w4 => ∃ j : Nat, j ≤ sN s ∧ i = .int .i64 (j : Int) ∧ gg + j = sN s + 1 ∧ Hid (Below W2.heap.size W2 w4) ∧ Hid (∀ i x, i < j → (R.side r s)[i]? = some x → R.pnode (R.side r s) ((s : Int) == 1) i x = true))
        case atStart => exact ⟨0, Nat.zero_le _, rfl, rfl, Hbw, Lib.hid (fun i x hi => by omega)⟩
        case round =>
          obtain ⟨j, hj, rfl, hgk, Hbw4, Hpn⟩ := hrel
          obtain ⟨w4, rfl⟩ : ∃ w, w = wr := ⟨_, rfl⟩
          have Hgk := Lib.hid hgk; clear hgk
          have y := Hd.out w4 Hbw4.out s hs2
          by_cases hjn : j < sN s
          · obtain ⟨x, hx⟩ : ∃ x, (R.side r s)[j]? = some x := ⟨_, List.getElem?_eq_getElem (by rw [HsE.out s hs2]; exact hjn)⟩
            have Hcall := Lib.hid (rargument_pat (cp := sC s) (left := ((s : Int) == 0)) (HSt.out w4 Hbw4.out s hs2) hjn x hx)
            have eb : (!((s : Int) == 0)) = ((s : Int) == 1) := by rcases (show s = 0 ∨ s = 1 by omega) with rfl | rfl <;> rfl
            rw [eb] at Hcall
            have Hx := Lib.hid hx
            obtain ⟨b, hb⟩ : ∃ b, R.pnode (R.side r s) ((s : Int) == 1) j x = b := ⟨_, rfl⟩
            rw [hb] at Hcall
            have Hb := Lib.hid hb
            clear hx hb eb
            cases b with
            | false =>
              have Hr := Lib.hid (show e = 1 from by
                have hf : R.okSide r s = false := R.okSide_bad Hx.out Hb.out
                rw [Hnext.out, if_pos]
                rcases (show s = 0 ∨ s = 1 by omega) with rfl | rfl
                · rw [hf]; rfl
                · rw [hf]; simp)
              go_wp2_with fail
              (with_reducible refine Hcall.out.mono ?_)
              rintro e w5 ⟨rfl, hb5⟩
              have Hb5 := Lib.hid (Hb2.out.trans ((Hbw4.out.trans (hb5.mono Hbw4.out.size)).mono Hb2.out.size))
              clear hb5 y
              go_wp2
              go_ret
              exact ⟨ret_int Hr.out.symm, Hb5.out⟩
            | true =>
              have Ht := Lib.hid (show ∀ i x, i < j + 1 → (R.side r s)[i]? = some x → R.pnode (R.side r s) ((s : Int) == 1) i x = true from fun i z hi hz => by
                rcases Nat.lt_or_ge i j with h | h
                · exact Hpn.out i z h hz
                · obtain rfl : i = j := by omega
                  rw [Hx.out] at hz
                  cases hz
                  exact Hb.out)
              go_wp2_with fail
              (with_reducible refine Hcall.out.mono ?_)
              rintro e w5 ⟨rfl, hb5⟩
              have Hb5 := Lib.hid (Hbw4.out.trans (hb5.mono Hbw4.out.size))
              clear hb5 y
              go_wp2
              go_roundg (gk - 1)
              case measure => have := Hgk.out; omega
              case rel =>
                have := Hgk.out
                exact ⟨j + 1, by omega, by go_num, by omega, Hb5, Ht⟩
          · obtain rfl : j = sN s := by omega
            have Ht := Lib.hid (show ∀ k, k < s + 1 → R.okSide r k = true from fun k hk => by
              rcases Nat.lt_or_ge k s with h | h
              · exact Hok.out k h
              · obtain rfl : k = s := by omega
                exact R.okSide_iff.2 fun i x hx => Hpn.out i x (by have := (List.getElem?_eq_some_iff.1 hx).1; rw [HsE.out k hs2] at this; exact this) hx)
            go_wp2
            go_roundg (gO - 1)
            case measure => have := HgO.out; omega
            case rel =>
              have := HgO.out
              exact ⟨s + 1, by omega, by go_num, by omega, Hbw4, Ht⟩
      obtain rfl : s = 2 := by omega
      have Hn2 := Lib.hid (show e = if (r.pre.all R.cdOk) = false then 1 else if R.okTyped r = false then 6 else if ((r.right.all fun x => (!decide (x.op = 33 ∨ x.op = 34)) || R.occ r.left x.op x.imm) && (r.pre.all fun c => R.occ r.left 34 c.hole)) = false then 7 else 0 from by
        rw [Hnext.out, if_neg]
        rw [Hok.out 0 (by omega), Hok.out 1 (by omega)]
        simp)
      have HokL := Lib.hid (show ∀ i x, r.left[i]? = some x → R.pnode r.left false i x = true from R.okSide_iff.1 (Hok.out 0 (by omega)))
      have HokR := Lib.hid (show ∀ i x, r.right[i]? = some x → R.pnode r.right true i x = true from R.okSide_iff.1 (Hok.out 1 (by omega)))
      clear hs2
      go_wp2
      go_loopg [7] (np + 1) (fun gg i wr => ∃ j : Nat, j ≤ np ∧ i = .int .i64 (j : Int) ∧ gg + j = np + 1 ∧ Hid (Below W2.heap.size W2 wr) ∧ Hid ((r.pre.take j).all R.cdOk = true))
      case atStart => exact ⟨0, Nat.zero_le _, rfl, rfl, Hbw, Lib.hid rfl⟩
      case round =>
        obtain ⟨j, hj, rfl, hgk, Hbw4, Hcd⟩ := hrel
        obtain ⟨w4, rfl⟩ : ∃ w, w = wr := ⟨_, rfl⟩
        have Hgk := Lib.hid hgk; clear hgk
        obtain ⟨_, _, y2⟩ := Hc.out w4 Hbw4.out
        by_cases hjn : j < np
        · obtain ⟨x, b, off, hx, hA, hb, d0, d1, d2, i0, i1⟩ := cd_cells ((HR2.out.below Hbw4.out).sp) hjn
          subst hA
          have Hcall := Lib.hid (rcond_any x w4)
          have Hx := Lib.hid hx
          obtain ⟨bb, hbb⟩ : ∃ bb, R.cdOk x = bb := ⟨_, rfl⟩
          rw [hbb] at Hcall
          have Hbb := Lib.hid hbb
          clear hx hb i0 i1 hbb
          cases bb with
          | false =>
            have Hr := Lib.hid (show e = 1 from by
              rw [Hn2.out, if_pos]
              rw [List.all_eq_false]
              exact ⟨x, List.mem_of_getElem? Hx.out, by rw [Hbb.out]; simp⟩)
            go_wp2_with fail
            (with_reducible refine Hcall.out.mono ?_)
            rintro e w5 ⟨rfl, hb5⟩
            have Hb5 := Lib.hid (Hb2.out.trans ((Hbw4.out.trans (hb5.mono Hbw4.out.size)).mono Hb2.out.size))
            clear hb5 y2 d0 d1 d2
            go_wp2
            go_ret
            exact ⟨ret_int Hr.out.symm, Hb5.out⟩
          | true =>
            have Ht := Lib.hid (show (r.pre.take (j + 1)).all R.cdOk = true from by rw [take_next Hx.out, List.all_append, Hcd.out]; simp [Hbb.out])
            go_wp2_with fail
            (with_reducible refine Hcall.out.mono ?_)
            rintro e w5 ⟨rfl, hb5⟩
            have Hb5 := Lib.hid (Hbw4.out.trans (hb5.mono Hbw4.out.size))
            clear hb5 y2 d0 d1 d2
            go_wp2
            go_roundg (gk - 1)
            case measure => have := Hgk.out; omega
            case rel =>
              have := Hgk.out
              exact ⟨j + 1, by omega, by go_num, by omega, Hb5, Ht⟩
        obtain rfl : j = np := by omega
        have Hcds := Lib.hid (show r.pre.all R.cdOk = true from by
          have := Hcd.out
          rw [List.take_of_length_le (by rw [HlP.out]; exact Nat.le_refl _)] at this
          exact this)
        have Hn3 := Lib.hid (show e = if R.okTyped r = false then 6 else if ((r.right.all fun x => (!decide (x.op = 33 ∨ x.op = 34)) || R.occ r.left x.op x.imm) && (r.pre.all fun c => R.occ r.left 34 c.hole)) = false then 7 else 0 from by rw [Hn2.out, if_neg (by rw [Hcds.out]; simp)])
        have Hpn := Lib.hid (show ∀ s, s < 2 → ∃ right, ∀ i x, (R.side r s)[i]? = some x → R.pnode (R.side r s) right i x = true from fun s hs => by
          rcases (show s = 0 ∨ s = 1 by omega) with rfl | rfl
          · exact ⟨false, HokL.out⟩
          · exact ⟨true, HokR.out⟩)
        clear hjn Hcd
        go_wp2
        clear y2
        go_loopg [8] 3 (fun gg i wr => ∃ s : Nat, s ≤ 2 ∧ i = .int .i64 (s : Int) ∧ gg + s = 3 ∧ Hid (Below W2.heap.size W2 wr) ∧ Hid (∀ k, k < s → (R.side r k).all (T.typed (R.side r k)) = true))
        case atStart => exact ⟨0, by omega, rfl, rfl, Hbw4, Lib.hid (fun k hk => by omega)⟩
        case round =>
          obtain ⟨s, hs, rfl, hgk, Hbw, Htp⟩ := hrel
          obtain ⟨gO, rfl⟩ : ∃ g, g = gk := ⟨_, rfl⟩
          obtain ⟨w6, rfl⟩ : ∃ w, w = wr := ⟨_, rfl⟩
          have HgO := Lib.hid hgk; clear hgk
          by_cases hs2 : s < 2
          · have hsl := HsL.out s hs2
            have qs : decide ((s : Int) < 2) = true := by simp; omega
            go_wp2
            clear qs
            go_loopg [9] (sN s + 1) (fun gg i w4 => ∃ j : Nat, j ≤ sN s ∧ i = .int .i64 (j : Int) ∧ gg + j = sN s + 1 ∧ Hid (Below W2.heap.size W2 w4) ∧ Hid (((R.side r s).take j).all (T.typed (R.side r s)) = true))
            case atStart => exact ⟨0, Nat.zero_le _, rfl, rfl, Hbw, Lib.hid rfl⟩
            case round =>
              obtain ⟨q, hq, rfl, hgk, Hbw7, Hty⟩ := hrel
              obtain ⟨w7, rfl⟩ : ∃ w, w = wr := ⟨_, rfl⟩
              have Hgk7 := Lib.hid hgk; clear hgk
              have y := Hd.out w7 Hbw7.out s hs2
              by_cases hqn : q < sN s
              · have hSs := HSt.out w7 Hbw7.out s hs2
                obtain ⟨x, b, off, A, c, hx, hA, hb, d0, d1, d2, d3, d4, hsx, i0, i1⟩ := nd_cells hSs hqn
                have HSs := Lib.hid hSs
                have Hx := Lib.hid hx
                have Hsx := Lib.hid hsx
                obtain ⟨ov⟩ := ov_ex w7
                obtain ⟨bb, hbb⟩ : ∃ bb, T.typed (R.side r s) x = bb := ⟨_, rfl⟩
                have Hbb := Lib.hid hbb
                have HQ := Lib.hid (show ∀ u, Calls Tryz.prog 68 #[.slice (sA s) (sN s) (sC s), .agg #[.int .i64 x.op, .int .i64 x.w, .int .i64 x.fl, .slice A x.args.length c, .int .u32 x.imm]] (ov.f u) (fun e w' => e = .returned (.bool bb) ∧ ∃ m, w' = ov.f m) from fun u => by
                  obtain ⟨right, hp⟩ := Hpn.out s hs2
                  have hpx := hp q x Hx.out
                  have hl := R.pnode_len hpx
                  have := rtyped_any (R.side r s) x (sN s) (sC s) (sA s) A c (ov.f u) (HSs.out.below monoNd (ov.below u)) (Hsx.out.below (monoInt _) (ov.below u)) hl.1 hl.2 (fun a ha => by have := R.pnode_args hpx a ha; omega)
                  rw [hbb] at this
                  exact calls_over this)
                have o0 := ov.cell y
                have p0 := ov.cell d0
                have p1 := ov.cell d1
                have p2 := ov.cell d2
                have p3 := ov.cell d3
                have p4 := ov.cell d4
                rw [hA] at o0 y HQ
                clear hx hb hsx i0 i1 hbb d0 d1 d2 d3 d4 hSs
                cases bb with
                | false =>
                  have Hr := Lib.hid (show e = 6 from by
                    have hf : (R.side r s).all (T.typed (R.side r s)) = false := by
                      rw [List.all_eq_false]
                      exact ⟨x, List.mem_of_getElem? Hx.out, by rw [Hbb.out]; simp⟩
                    rw [Hn3.out, if_pos]
                    rcases (show s = 0 ∨ s = 1 by omega) with rfl | rfl
                    · exact R.okTyped_false (.inl hf)
                    · exact R.okTyped_false (.inr (.inl hf)))
                  go_wp2
                  refine wp_region_ovq ov (by kernel_rfl) (by kernel_rfl) ?_
                  repeat (go_big_quiet_step ((go_at_call 68; with_reducible exact HQ.out _)))
                  refine wpQuiet_nil ?_
                  rintro _ ⟨u, rfl⟩
                  have Hb8 := Lib.hid (Hb2.out.trans ((Hbw7.out.trans ((ov.below u).mono Hbw7.out.size)).mono Hb2.out.size))
                  clear o0 p0 p1 p2 p3 p4 y
                  generalize ov.f u = w8 at *
                  go_wp2
                  go_ret
                  exact ⟨ret_int Hr.out.symm, Hb8.out⟩
                | true =>
                  have Ht := Lib.hid (show ((R.side r s).take (q + 1)).all (T.typed (R.side r s)) = true from by rw [take_next Hx.out, List.all_append, Hty.out]; simp [Hbb.out])
                  go_wp2
                  refine wp_region_ovq ov (by kernel_rfl) (by kernel_rfl) ?_
                  repeat (go_big_quiet_step ((go_at_call 68; with_reducible exact HQ.out _)))
                  refine wpQuiet_nil ?_
                  rintro _ ⟨u, rfl⟩
                  have Hb8 := Lib.hid (Hbw7.out.trans ((ov.below u).mono Hbw7.out.size))
                  clear o0 p0 p1 p2 p3 p4 y
                  generalize ov.f u = w8 at *
                  go_wp2
                  go_roundg (gk - 1)
                  case measure => have := Hgk7.out; omega
                  case rel =>
                    have := Hgk7.out
                    exact ⟨q + 1, by omega, by go_num, by omega, Hb8, Ht⟩
              · obtain rfl : q = sN s := by omega
                have Ht := Lib.hid (show ∀ k, k < s + 1 → (R.side r k).all (T.typed (R.side r k)) = true from fun k hk => by
                  rcases Nat.lt_or_ge k s with h | h
                  · exact Htp.out k h
                  · obtain rfl : k = s := by omega
                    have := Hty.out
                    rw [List.take_of_length_le (by rw [HsE.out k hs2]; exact Nat.le_refl _)] at this
                    exact this)
                go_wp2
                go_roundg (gO - 1)
                case measure => have := HgO.out; omega
                case rel =>
                  have := HgO.out
                  exact ⟨s + 1, by omega, by go_num, by omega, Hbw7, Ht⟩
          obtain rfl : s = 2 := by omega
          have Ht0 := Lib.hid (show r.left.all (T.typed r.left) = true from Htp.out 0 (by omega))
          have Ht1 := Lib.hid (show r.right.all (T.typed r.right) = true from Htp.out 1 (by omega))
          obtain ⟨ml, hml⟩ : ∃ m, nl = m + 1 := ⟨nl - 1, by have := (Hln.out 0 (by omega)).1; have := HsN.out; omega⟩
          obtain ⟨mr, hmr⟩ : ∃ m, nr = m + 1 := ⟨nr - 1, by have := (Hln.out 1 (by omega)).1; have := HsN.out; omega⟩
          have hml12 : ml ≤ 11 := by have := (Hln.out 0 (by omega)).2; have := HsN.out; omega
          have hmr12 : mr ≤ 11 := by have := (Hln.out 1 (by omega)).2; have := HsN.out; omega
          subst hml
          subst hmr
          have hR6 := HR2.out.below Hbw.out
          obtain ⟨xl, bl, offl, Al, cxl, hxl, hAL, hbl, l0, l1, l2, l3, l4, _, _, _⟩ := nd_cells hR6.sl (j := ml) (by omega)
          obtain ⟨xr, br, offr, Ar, cxr, hxr, hAR, hbr, r0, r1, r2, r3, r4, _, _, _⟩ := nd_cells hR6.sr (j := mr) (by omega)
          obtain ⟨y0, y1, y2⟩ := Hc.out w6 Hbw.out
          rw [hAL] at y0
          rw [hAR] at y1
          have hrl : R.rootW r.left = xl.w := by unfold R.rootW; rw [HlL.out, List.getD_eq_getElem?_getD, show ml + 1 - 1 = ml by omega, hxl]; rfl
          have hrr : R.rootW r.right = xr.w := by unfold R.rootW; rw [HlR.out, List.getD_eq_getElem?_getD, show mr + 1 - 1 = mr by omega, hxr]; rfl
          have Hty := Lib.hid (show R.okTyped r = (decide (xl.w ≤ 1) && decide (xr.w = xl.w)) from by unfold R.okTyped; rw [Ht0.out, Ht1.out, hrl, hrr]; rfl)
          have HAL := Lib.hid hAL
          have HAR := Lib.hid hAR
          have eml : (ml : Int) + 1 - 1 = (ml : Int) := by omega
          have emr : (mr : Int) + 1 - 1 = (mr : Int) := by omega
          clear hs2 hR6 hxl hxr hbl hbr hrl hrr l0 l2 l3 l4 r0 r2 r3 r4 y2 hAL hAR
          go_wp2
          go_quiet (fail)
          generalize hW8 : w6.drewN _ = w8
          have Hb8 := Lib.hid (Hbw.out.dr ⟨_, hW8.symm⟩)
          clear hW8 y0 y1 l1 r1
          by_cases hww : xl.w = xr.w
          rotate_left
          · have q1 : (xl.w != xr.w) = true := by simpa using hww
            have Hr := Lib.hid (show e = 6 from by rw [Hn3.out, if_pos]; rw [Hty.out, decide_eq_false (show ¬ xr.w = xl.w from fun h => hww h.symm)]; simp)
            clear hww
            go_wp2
            go_ret
            exact ⟨ret_int Hr.out.symm, Hb2.out.trans (Hb8.out.mono Hb2.out.size)⟩
          have q1 : (xl.w != xr.w) = false := by simpa using hww
          by_cases hw1 : 1 < xl.w
          · have q2 : decide (1 < xl.w) = true := by simpa using hw1
            have Hr := Lib.hid (show e = 6 from by rw [Hn3.out, if_pos]; rw [Hty.out, decide_eq_false (show ¬ xl.w ≤ 1 by omega)]; rfl)
            clear hww hw1
            go_wp2
            go_ret
            exact ⟨ret_int Hr.out.symm, Hb2.out.trans (Hb8.out.mono Hb2.out.size)⟩
          have q2 : decide (1 < xl.w) = false := by simpa using hw1
          have Hn4 := Lib.hid (show e = if ((r.right.all fun x => (!decide (x.op = 33 ∨ x.op = 34)) || R.occ r.left x.op x.imm) && (r.pre.all fun c => R.occ r.left 34 c.hole)) = false then 7 else 0 from by
            rw [Hn3.out, if_neg]
            rw [Hty.out, decide_eq_true (show xl.w ≤ 1 by omega), decide_eq_true hww.symm]
            simp)
          have hord := R.pnode_ord HokL.out
          have hpos : 1 ≤ r.left.length := by rw [HlL.out]; omega
          have hroot := T.root_rep hord hpos
          have Hocc := Lib.hid (show ∀ o i, R.occ r.left o i = R.names (T.canon (T.root r.left)) o i from fun o i => R.occ_canon hord (by omega) hroot o i)
          rw [HlL.out, show ((ml + 1 : Nat) : Int) - 1 = (ml : Int) by omega] at hroot
          have Hsh := Lib.hid (Shared_any (ct := cl) ((HR2.out.below Hb8.out).sl) hord (by omega) (fun x hx => by
            obtain ⟨k, hk⟩ := List.mem_iff_getElem?.1 hx
            have := R.pnode_small (HokL.out k x hk); omega) (show ml < ml + 1 by omega) (T.root r.left) hroot)
          obtain ⟨y0, y1, y2⟩ := Hc.out w8 Hb8.out
          clear hww hw1 hord hpos hroot
          go_wp2_with fail
          (with_reducible refine Hsh.out.mono ?_)
          rintro e w9 ⟨v9, rfl, hown9, hb9⟩
          obtain ⟨A9, c9, rfl⟩ := hown9.form
          have Hb9 := Lib.hid (Hb8.out.trans (hb9.mono Hb8.out.size))
          have HS9 := Lib.hid (hown9.stAt (ndF_rel _) rfl)
          obtain ⟨nc, hnc⟩ : ∃ nc, (T.canon (T.root r.left)).length = nc := ⟨_, rfl⟩
          rw [hnc] at HS9 ⊢
          clear hown9 hb9 y0 y1 y2 hnc
          have Hnm := Lib.hid (show ∀ X, Below w9.heap.size w9 X → ∀ o i, Calls Tryz.prog 69 #[.slice A9 nc c9, .int .i64 o, .int .u32 i] X fun e W' => e = .returned (.bool (R.occ r.left o i)) ∧ X = W' from fun X hX o i => by
            have := rnames_any (T.canon (T.root r.left)) nc c9 A9 o i X (HS9.out.below monoNd hX)
            rw [← Hocc.out] at this
            exact this)
          obtain ⟨y0, y1, y2⟩ := Hc.out w9 Hb9.out
          go_wp2
          clear y0 y1 y2
          go_loopg [13] (mr + 2) (fun gg i wr => ∃ j : Nat, j ≤ mr + 1 ∧ i = .int .i64 (j : Int) ∧ gg + j = mr + 2 ∧ Hid (Below w9.heap.size w9 wr) ∧ Hid ((r.right.take j).all (fun x => (!decide (x.op = 33 ∨ x.op = 34)) || R.occ r.left x.op x.imm) = true))
          case atStart => exact ⟨0, by omega, rfl, rfl, Lib.hid (Below.refl _ _), Lib.hid rfl⟩
          case round =>
            obtain ⟨q, hq, rfl, hgk, Hbwq, Hoq⟩ := hrel
            obtain ⟨wq, rfl⟩ : ∃ w, w = wr := ⟨_, rfl⟩
            have Hgkq := Lib.hid hgk; clear hgk
            have Hbq := Lib.hid (Hb9.out.trans (Hbwq.out.mono Hb9.out.size))
            obtain ⟨y0, y1, y2⟩ := Hc.out wq Hbq.out
            by_cases hqn : q < mr + 1
            · obtain ⟨x, b, off, A, c, hx, hA, hb, d0, d1, d2, d3, d4, hsx, i0, i1⟩ := nd_cells ((HR2.out.below Hbq.out).sr) hqn
              subst hA
              obtain ⟨X1, hX1⟩ : ∃ X1, X1 = wq.alloc (.cells #[.int .i64 x.op, .int .i64 x.w, .int .i64 x.fl, .slice A x.args.length c, .int .u32 x.imm] 62) := ⟨_, rfl⟩
              have hbX : Below wq.heap.size wq X1 := by rw [hX1]; exact (Below.refl _ _).alloc (Nat.le_refl _) _
              have hrX : X1.heap[wq.heap.size]? = some (.cells #[.int .i64 x.op, .int .i64 x.w, .int .i64 x.fl, .slice A x.args.length c, .int .u32 x.imm] 62 (0, 0)) := by rw [hX1]; exact heap_alloc_new wq _
              obtain ⟨x0, x1, x2, x3, x4⟩ := nd5_cells hrX
              have HbX := Lib.hid (Hbwq.out.trans (hbX.mono Hbwq.out.size))
              have Hx := Lib.hid hx
              have HX1 := Lib.hid hX1
              have Hca := Lib.hid (Hnm.out X1 HbX.out x.op x.imm)
              rw [hX1] at x0 x1 x2 x3 x4
              clear hx hb hsx i0 i1 hX1 hbX hrX
              by_cases ho : x.op = 33 ∨ x.op = 34
              · obtain ⟨bb, hbb⟩ : ∃ bb, R.occ r.left x.op x.imm = bb := ⟨_, rfl⟩
                rw [hbb] at Hca
                have Hbb := Lib.hid hbb
                have Ho := Lib.hid ho
                clear hbb
                cases bb with
                | true =>
                  have Ht := Lib.hid (show (r.right.take (q + 1)).all (fun x => (!decide (x.op = 33 ∨ x.op = 34)) || R.occ r.left x.op x.imm) = true from by rw [take_next Hx.out, List.all_append, Hoq.out]; simp [Hbb.out])
                  by_cases h33 : x.op = 33
                  · have p1 : (x.op == 33) = true := by simpa using h33
                    clear ho h33
                    go_wp2_with fail
                    rw [← HX1.out]
                    (with_reducible refine Hca.out.mono ?_)
                    rintro e w10 ⟨rfl, rfl⟩
                    clear x0 x1 x2 x3 x4 d0 d1 d2 d3 d4 y0 y1 y2
                    go_wp2
                    go_roundg (gk - 1)
                    case measure => have := Hgkq.out; omega
                    case rel =>
                      have := Hgkq.out
                      exact ⟨q + 1, by omega, by go_num, by omega, HbX, Ht⟩
                  · have p1 : (x.op == 33) = false := by simpa using h33
                    have p2 : (x.op == 34) = true := by simp; omega
                    clear ho h33
                    go_wp2_with fail
                    rw [← HX1.out]
                    (with_reducible refine Hca.out.mono ?_)
                    rintro e w10 ⟨rfl, rfl⟩
                    clear x0 x1 x2 x3 x4 d0 d1 d2 d3 d4 y0 y1 y2
                    go_wp2
                    go_roundg (gk - 1)
                    case measure => have := Hgkq.out; omega
                    case rel =>
                      have := Hgkq.out
                      exact ⟨q + 1, by omega, by go_num, by omega, HbX, Ht⟩
                | false =>
                  have Hr := Lib.hid (show e = 7 from by
                    have hf : (r.right.all fun x => (!decide (x.op = 33 ∨ x.op = 34)) || R.occ r.left x.op x.imm) = false := by
                      rw [List.all_eq_false]
                      exact ⟨x, List.mem_of_getElem? Hx.out, by rw [Hbb.out, decide_eq_true Ho.out]; simp⟩
                    rw [Hn4.out, if_pos]
                    rw [hf]; rfl)
                  by_cases h33 : x.op = 33
                  · have p1 : (x.op == 33) = true := by simpa using h33
                    clear ho h33
                    go_wp2_with fail
                    rw [← HX1.out]
                    (with_reducible refine Hca.out.mono ?_)
                    rintro e w10 ⟨rfl, rfl⟩
                    clear x0 x1 x2 x3 x4 d0 d1 d2 d3 d4 y0 y1 y2
                    go_wp2
                    go_ret
                    exact ⟨ret_int Hr.out.symm, Hb2.out.trans ((Hb9.out.trans (HbX.out.mono Hb9.out.size)).mono Hb2.out.size)⟩
                  · have p1 : (x.op == 33) = false := by simpa using h33
                    have p2 : (x.op == 34) = true := by simp; omega
                    clear ho h33
                    go_wp2_with fail
                    rw [← HX1.out]
                    (with_reducible refine Hca.out.mono ?_)
                    rintro e w10 ⟨rfl, rfl⟩
                    clear x0 x1 x2 x3 x4 d0 d1 d2 d3 d4 y0 y1 y2
                    go_wp2
                    go_ret
                    exact ⟨ret_int Hr.out.symm, Hb2.out.trans ((Hb9.out.trans (HbX.out.mono Hb9.out.size)).mono Hb2.out.size)⟩
              · have p1 : (x.op == 33) = false := by simp; omega
                have p2 : (x.op == 34) = false := by simp; omega
                have Ht := Lib.hid (show (r.right.take (q + 1)).all (fun x => (!decide (x.op = 33 ∨ x.op = 34)) || R.occ r.left x.op x.imm) = true from by rw [take_next Hx.out, List.all_append, Hoq.out]; simp only [List.all_cons, List.all_nil, decide_eq_false ho, Bool.not_false, Bool.true_or, Bool.true_and, Bool.and_true])
                clear ho
                go_wp2
                rw [← HX1.out]
                clear x0 x1 x2 x3 x4 d0 d1 d2 d3 d4 y0 y1 y2
                go_roundg (gk - 1)
                case measure => have := Hgkq.out; omega
                case rel =>
                  have := Hgkq.out
                  exact ⟨q + 1, by omega, by go_num, by omega, HbX, Ht⟩
            obtain rfl : q = mr + 1 := by omega
            have Hall := Lib.hid (show (r.right.all fun x => (!decide (x.op = 33 ∨ x.op = 34)) || R.occ r.left x.op x.imm) = true from by
              have := Hoq.out
              rw [List.take_of_length_le (by rw [HlR.out]; exact Nat.le_refl _)] at this
              exact this)
            have Hn5 := Lib.hid (show e = if (r.pre.all fun c => R.occ r.left 34 c.hole) = false then 7 else 0 from by rw [Hn4.out, Hall.out, Bool.true_and])
            clear hqn Hoq
            go_wp2
            clear y0 y1 y2
            go_loopg [15] (j + 1) (fun gg i wr => ∃ q : Nat, q ≤ j ∧ i = .int .i64 (q : Int) ∧ gg + q = j + 1 ∧ Hid (Below w9.heap.size w9 wr) ∧ Hid ((r.pre.take q).all (fun c => R.occ r.left 34 c.hole) = true))
            case atStart => exact ⟨0, Nat.zero_le _, rfl, rfl, Hbwq, Lib.hid rfl⟩
            case round =>
              obtain ⟨q, hq, rfl, hgk, Hbwq, Hoq⟩ := hrel
              obtain ⟨wq, rfl⟩ : ∃ w, w = wr := ⟨_, rfl⟩
              have Hgk15 := Lib.hid hgk; clear hgk
              have Hbq := Lib.hid (Hb9.out.trans (Hbwq.out.mono Hb9.out.size))
              obtain ⟨y0, y1, y2⟩ := Hc.out wq Hbq.out
              by_cases hqn : q < j
              · obtain ⟨x, b, off, hx, hA, hb, d0, d1, d2, i0, i1⟩ := cd_cells ((HR2.out.below Hbq.out).sp) hqn
                subst hA
                have hok : R.cdOk x = true := List.all_eq_true.1 Hcds.out x (List.mem_of_getElem? hx)
                unfold R.cdOk at hok
                simp only [Bool.and_eq_true, decide_eq_true_eq] at hok
                obtain ⟨⟨⟨⟨o1, o2⟩, o3⟩, o4⟩, _⟩ := hok
                have Hca := Lib.hid (Hnm.out wq Hbwq.out 34 x.hole)
                have Hx := Lib.hid hx
                obtain ⟨bb, hbb⟩ : ∃ bb, R.occ r.left 34 x.hole = bb := ⟨_, rfl⟩
                rw [hbb] at Hca
                have Hbb := Lib.hid hbb
                clear hx hb i0 i1 hbb
                cases bb with
                | true =>
                  have Ht := Lib.hid (show (r.pre.take (q + 1)).all (fun c => R.occ r.left 34 c.hole) = true from by rw [take_next Hx.out, List.all_append, Hoq.out]; simp [Hbb.out])
                  go_wp2_with fail
                  (with_reducible refine Hca.out.mono ?_)
                  rintro e w10 ⟨rfl, rfl⟩
                  go_wp2
                  go_roundg (gk - 1)
                  case measure => have := Hgk15.out; omega
                  case rel =>
                    have := Hgk15.out
                    exact ⟨q + 1, by omega, by go_num, by omega, Hbwq, Ht⟩
                | false =>
                  have Hr := Lib.hid (show e = 7 from by
                    rw [Hn5.out, if_pos]
                    rw [List.all_eq_false]
                    exact ⟨x, List.mem_of_getElem? Hx.out, by rw [Hbb.out]; simp⟩)
                  go_wp2_with fail
                  (with_reducible refine Hca.out.mono ?_)
                  rintro e w10 ⟨rfl, rfl⟩
                  go_wp2
                  go_ret
                  exact ⟨ret_int Hr.out.symm, Hb2.out.trans (Hbq.out.mono Hb2.out.size)⟩
              · obtain rfl : q = j := by omega
                have Hr := Lib.hid (show e = 0 from by
                  have := Hoq.out
                  rw [List.take_of_length_le (by rw [HlP.out]; exact Nat.le_refl _)] at this
                  rw [Hn5.out, if_neg (by rw [this]; simp)])
                go_wp2
                go_ret
                exact ⟨ret_int Hr.out.symm, Hb2.out.trans (Hbq.out.mono Hb2.out.size)⟩
end Go.Proofs.YtbiopedpceddeaaGreatDoor
