/- Part. -/
import Derived.Test.YtbiopedpceddeaaGreatDoorQz08
import Derived.Test.YtbiopedpceddeaaGreatDoorRows
import Derived.Lib.LaidTab
import Derived.FnData
import Derived.Lib.ItoaNum
import Derived.Lib.Join
set_option linter.unusedVariables false
set_option linter.unusedSimpArgs false
set_option maxRecDepth 100000
set_option maxHeartbeats 16000000
namespace Go.Proofs.YtbiopedpceddeaaGreatDoor
section
open Go.RowKit
theorem R.okTyped_false {r : R.Rl} (h : r.left.all (T.typed r.left) = false ∨ r.right.all (T.typed r.right) = false ∨ ¬ R.rootW r.left ≤ 1 ∨ R.rootW r.right ≠ R.rootW r.left) : R.okTyped r = false := by
 unfold R.okTyped
 rcases h with h | h | h | h
 · rw [h]; simp
 · rw [h]; simp
 · rw [decide_eq_false h]; simp
 · rw [decide_eq_false h]; simp
theorem rValidate_rule {r : R.Rl} {nl cl nr cr np cp : Nat} {AL AR AP : Option Addr} {W : World} (hR : RlAt W r nl nr np AL AR AP) :
 Calls Tryz.prog 19 #[.agg #[.slice AL nl cl, .slice AR nr cr, .slice AP np cp]] W fun e W' => e = .returned (.int .i64 (R.rvalid r)) ∧ Below W.heap.size W W' := by
 have hlL := hR.sl.le
 have hlR := hR.sr.le
 have hlP := hR.sp.le
 have HlL := kH hR.sl.len
 have HlR := kH hR.sr.len
 have HlP := kH hR.sp.len
 obtain ⟨sA, hsA⟩ : ∃ sA : Nat → Option Addr, sA = fun k => if k = 0 then AL else AR := ⟨_, rfl⟩
 obtain ⟨sN, hsN⟩ : ∃ sN : Nat → Nat, sN = fun k => if k = 0 then nl else nr := ⟨_, rfl⟩
 obtain ⟨sC, hsC⟩ : ∃ sC : Nat → Nat, sC = fun k => if k = 0 then cl else cr := ⟨_, rfl⟩
 obtain ⟨W2, hW2⟩ : ∃ W2, W2 = (W.alloc (.cells #[.slice AL nl cl, .slice AR nr cr, .slice AP np cp] 33)).alloc (.cells #[.slice AL nl cl, .slice AR nr cr] 22) := ⟨_, rfl⟩
 have hb2 : Below W.heap.size W W2 := by rw [hW2]; exact (al0).alloc (by simp) _
 have hr0 : W2.heap[W.heap.size]? = some (.cells #[.slice AL nl cl, .slice AR nr cr, .slice AP np cp] 33 (0, 0)) := by rw [hW2]; exact row_alloc (heap_alloc_new W _) _
 have hr1 : W2.heap[W.heap.size + 1]? = some (.cells #[.slice AL nl cl, .slice AR nr cr] 22 (0, 0)) := by rw [hW2]; exact new_two W _ _
 have HR2 := kH (hR.below hb2)
 have Hc := kH (show ∀ X, Below W2.heap.size W2 X → X.cell? ⟨W.heap.size, 0, none⟩ = some (.slice AL nl cl) ∧ X.cell? ⟨W.heap.size, 1, none⟩ = some (.slice AR nr cr) ∧ X.cell? ⟨W.heap.size, 2, none⟩ = some (.slice AP np cp) from fun X hX => by
  obtain ⟨h0, h1, h2, _⟩ := rl_cells ((hX.block _ (gA hr0).1).trans hr0)
  exact ⟨h0, h1, h2⟩)
 have Hd := kH (show ∀ X, Below W2.heap.size W2 X → ∀ s, s < 2 → X.cell? ⟨W.heap.size + 1, s, none⟩ = some (.slice (sA s) (sN s) (sC s)) from fun X hX s hs => by
  have h := (hX.block _ (gA hr1).1).trans hr1
  rw [cell_of_row _ _ _ _ _ (0, 0) h, hsA, hsN, hsC]
  rcases (show s = 0 ∨ s = 1 by omega) with rfl | rfl <;> rfl)
 have HSt := kH (show ∀ X, Below W2.heap.size W2 X → ∀ s, s < 2 → StAt 5 NdR X (sA s) (sN s) (R.side r s) from fun X hX s hs => by
  have h := HR2.out.below hX
  rw [hsA, hsN]
  rcases (show s = 0 ∨ s = 1 by omega) with rfl | rfl
  · exact h.sl
  · exact h.sr)
 have HsN := kH (show sN 0 = nl ∧ sN 1 = nr from by rw [hsN]; exact ⟨rfl, rfl⟩)
 have Hb2 := kH hb2
 have HW2 := kH hW2
 have HsL := kH (show ∀ s, s < 2 → sN s ≤ 9223372036854775807 from fun s hs => (HSt.out W2 (Below.refl _ _) s hs).le)
 have HsE := kH (show ∀ s, s < 2 → (R.side r s).length = sN s from fun s hs => (HSt.out W2 (Below.refl _ _) s hs).len)
 obtain ⟨e, he⟩ : ∃ e, R.rvalid r = e := ⟨_, rfl⟩
 rw [he]
 have He := kH he
 obtain ⟨z0, z1, z2⟩ := Hc.out W2 (Below.refl _ _)
 have y0 := Hd.out W2 (Below.refl _ _) 0 (by omega)
 rw [hW2] at z0 z1 z2
 clear hR hb2 hr0 hr1 hW2 hsA hsN hsC he y0
 go_enter Tryz.func19, Tryz.ntmps19
 go_wp2
 rw [← HW2.out]
 clear z0 z1 z2
 go_loop [4] (fun i => ∃ s : Nat, s ≤ 2 ∧ i = .int .i64 (s : Int) ∧ Hid (∀ k, k < s → 1 ≤ sN k ∧ sN k ≤ 12)) (fun i => 2 - (intOf i).toNat)
 case atStart => exact ⟨0, by omega, rfl, kH (fun k hk => by omega)⟩
 case round =>
  obtain ⟨s, hs, rfl, Hall⟩ := hrel
  by_cases hs2 : s < 2
  · have y := Hd.out W2 (Below.refl _ _) s hs2
    have hsl := HsL.out s hs2
    by_cases h1 : sN s < 1
    · have q1 : decide ((sN s : Int) < 1) = true := by simp; omega
      have Hr := kH (show e = 3 from by
       rw [← He.out]
       refine R.rvalid_len ?_
       have := HsN.out
       rw [HlL.out, HlR.out, HlP.out]
       rcases (show s = 0 ∨ s = 1 by omega) with rfl | rfl <;> omega)
      clear h1
      go_wp2
      go_ret
      exact ⟨ret_int Hr.out.symm, Hb2.out⟩
    have q1 : decide ((sN s : Int) < 1) = false := by simp; omega
    by_cases h2 : 12 < sN s
    · have q2 : decide (12 < (sN s : Int)) = true := by simp; omega
      have Hr := kH (show e = 3 from by
       rw [← He.out]
       refine R.rvalid_len ?_
       have := HsN.out
       rw [HlL.out, HlR.out, HlP.out]
       rcases (show s = 0 ∨ s = 1 by omega) with rfl | rfl <;> omega)
      clear h1 h2
      go_wp2
      go_ret
      exact ⟨ret_int Hr.out.symm, Hb2.out⟩
    have q2 : decide (12 < (sN s : Int)) = false := by simp; omega
    have Ht := kH (show ∀ k, k < s + 1 → 1 ≤ sN k ∧ sN k ≤ 12 from fun k hk => by
     rcases Nat.lt_or_ge k s with h | h
     · exact Hall.out k h
     · obtain rfl : k = s := by omega
       omega)
    clear h1 h2
    go_wp2
    go_round
    case rel => exact ⟨s + 1, by omega, by go_num, Ht⟩
    case measure => simp [intOf]; omega
  obtain rfl : s = 2 := by omega
  have Hln := Hall
  obtain ⟨_, _, c2⟩ := Hc.out W2 (Below.refl _ _)
  clear hs2
  by_cases hp4 : 4 < np
  · have q2 : decide (4 < (np : Int)) = true := by simp; omega
    have Hr := kH (show e = 3 from by
     rw [← He.out]
     refine R.rvalid_len ?_
     rw [HlL.out, HlR.out, HlP.out]
     omega)
    clear hp4
    go_wp2
    go_ret
    exact ⟨ret_int Hr.out.symm, Hb2.out⟩
  have q2 : decide (4 < (np : Int)) = false := by simp; omega
  have Hnext := kH (show e = if (R.okSide r 0 && R.okSide r 1) = false then 1 else if (r.pre.all R.cdOk) = false then 1 else if R.okTyped r = false then 6 else if ((r.right.all fun x => (!decide (x.op = 33 ∨ x.op = 34)) || R.occ r.left x.op x.imm) && (r.pre.all fun c => R.occ r.left 34 c.hole)) = false then 7 else 0 from by
   rw [← He.out]
   refine R.rvalid_next ?_
   have h0 := Hln.out 0 (by omega)
   have h1 := Hln.out 1 (by omega)
   have := HsN.out
   rw [HlL.out, HlR.out, HlP.out]
   omega)
  have hnp4 : np ≤ 4 := by omega
  clear hp4 He
  go_wp2
  clear c2 q2
  go_loopg [5] 3 (fun gg i wr => ∃ s : Nat, s ≤ 2 ∧ i = .int .i64 (s : Int) ∧ gg + s = 3 ∧ Hid (Below W2.heap.size W2 wr) ∧ Hid (∀ k, k < s → R.okSide r k = true))
  case atStart => exact ⟨0, by omega, rfl, rfl, kH (Below.refl _ _), kH (fun k hk => by omega)⟩
  case round =>
   obtain ⟨s, hs, rfl, hgk, Hbw, Hok⟩ := hrel
   obtain ⟨gO, rfl⟩ : ∃ g, g = gk := ⟨_, rfl⟩
   obtain ⟨w3, rfl⟩ : ∃ w, w = wr := ⟨_, rfl⟩
   have HgO := kH hgk; clear hgk
   by_cases hs2 : s < 2
   · have hsl := HsL.out s hs2
     have qs : decide ((s : Int) < 2) = true := by simp; omega
     go_wp2
     clear qs
     go_loopg [6] (sN s + 1) (fun gg i w4 => ∃ j : Nat, j ≤ sN s ∧ i = .int .i64 (j : Int) ∧ gg + j = sN s + 1 ∧ Hid (Below W2.heap.size W2 w4) ∧ Hid (∀ i x, i < j → (R.side r s)[i]? = some x → R.pnode (R.side r s) ((s : Int) == 1) i x = true))
     case atStart => exact ⟨0, Nat.zero_le _, rfl, rfl, Hbw, kH (fun i x hi => by omega)⟩
     case round =>
      obtain ⟨j, hj, rfl, hgk, Hbw4, Hpn⟩ := hrel
      obtain ⟨w4, rfl⟩ : ∃ w, w = wr := ⟨_, rfl⟩
      have Hgk := kH hgk; clear hgk
      have y := Hd.out w4 Hbw4.out s hs2
      by_cases hjn : j < sN s
      · obtain ⟨x, hx⟩ : ∃ x, (R.side r s)[j]? = some x := ⟨_, List.getElem?_eq_getElem (by rw [HsE.out s hs2]; exact hjn)⟩
        have Hcall := kH (rargument_pat (cp := sC s) (left := ((s : Int) == 0)) (HSt.out w4 Hbw4.out s hs2) hjn x hx)
        have eb : (!((s : Int) == 0)) = ((s : Int) == 1) := by rcases (show s = 0 ∨ s = 1 by omega) with rfl | rfl <;> rfl
        rw [eb] at Hcall
        have Hx := kH hx
        obtain ⟨b, hb⟩ : ∃ b, R.pnode (R.side r s) ((s : Int) == 1) j x = b := ⟨_, rfl⟩
        rw [hb] at Hcall
        have Hb := kH hb
        clear hx hb eb
        cases b with
        | false =>
         have Hr := kH (show e = 1 from by
          have hf : R.okSide r s = false := R.okSide_bad Hx.out Hb.out
          rw [Hnext.out, if_pos]
          rcases (show s = 0 ∨ s = 1 by omega) with rfl | rfl
          · rw [hf]; rfl
          · rw [hf]; simp)
         go_wp2_with fail
         (with_reducible refine Hcall.out.mono ?_)
         rintro e w5 ⟨rfl, hb5⟩
         have Hb5 := kH (Hb2.out.trans ((Hbw4.out.trans (hb5.mono Hbw4.out.size)).mono Hb2.out.size))
         clear hb5 y
         go_wp2
         go_ret
         exact ⟨ret_int Hr.out.symm, Hb5.out⟩
        | true =>
         have Ht := kH (show ∀ i x, i < j + 1 → (R.side r s)[i]? = some x → R.pnode (R.side r s) ((s : Int) == 1) i x = true from fun i z hi hz => by
          rcases Nat.lt_or_ge i j with h | h
          · exact Hpn.out i z h hz
          · obtain rfl : i = j := by omega
            rw [Hx.out] at hz
            cases hz
            exact Hb.out)
         go_wp2_with fail
         (with_reducible refine Hcall.out.mono ?_)
         rintro e w5 ⟨rfl, hb5⟩
         have Hb5 := kH (Hbw4.out.trans (hb5.mono Hbw4.out.size))
         clear hb5 y
         go_wp2
         go_roundg (gk - 1)
         case measure => have := Hgk.out; omega
         case rel =>
          have := Hgk.out
          exact ⟨j + 1, by omega, by go_num, by omega, Hb5, Ht⟩
      · obtain rfl : j = sN s := by omega
        have Ht := kH (show ∀ k, k < s + 1 → R.okSide r k = true from fun k hk => by
         rcases Nat.lt_or_ge k s with h | h
         · exact Hok.out k h
         · obtain rfl : k = s := by omega
           exact R.okSide_iff.2 fun i x hx => Hpn.out i x (by have := (List.getElem?_eq_some_iff.1 hx).1; rw [HsE.out k hs2] at this; exact this) hx)
        go_wp2
        go_roundg (gO - 1)
        case measure => have := HgO.out; omega
        case rel =>
         have := HgO.out
         exact ⟨s + 1, by omega, by go_num, by omega, Hbw4, Ht⟩
   obtain rfl : s = 2 := by omega
   have Hn2 := kH (show e = if (r.pre.all R.cdOk) = false then 1 else if R.okTyped r = false then 6 else if ((r.right.all fun x => (!decide (x.op = 33 ∨ x.op = 34)) || R.occ r.left x.op x.imm) && (r.pre.all fun c => R.occ r.left 34 c.hole)) = false then 7 else 0 from by
    rw [Hnext.out, if_neg]
    rw [Hok.out 0 (by omega), Hok.out 1 (by omega)]
    simp)
   have HokL := kH (show ∀ i x, r.left[i]? = some x → R.pnode r.left false i x = true from R.okSide_iff.1 (Hok.out 0 (by omega)))
   have HokR := kH (show ∀ i x, r.right[i]? = some x → R.pnode r.right true i x = true from R.okSide_iff.1 (Hok.out 1 (by omega)))
   clear hs2
   go_wp2
   go_loopg [7] (np + 1) (fun gg i wr => ∃ j : Nat, j ≤ np ∧ i = .int .i64 (j : Int) ∧ gg + j = np + 1 ∧ Hid (Below W2.heap.size W2 wr) ∧ Hid ((r.pre.take j).all R.cdOk = true))
   case atStart => exact ⟨0, Nat.zero_le _, rfl, rfl, Hbw, kH rfl⟩
   case round =>
    obtain ⟨j, hj, rfl, hgk, Hbw4, Hcd⟩ := hrel
    obtain ⟨w4, rfl⟩ : ∃ w, w = wr := ⟨_, rfl⟩
    have Hgk := kH hgk; clear hgk
    obtain ⟨_, _, y2⟩ := Hc.out w4 Hbw4.out
    by_cases hjn : j < np
    · obtain ⟨x, b, off, hx, hA, hb, d0, d1, d2, i0, i1⟩ := cd_cells ((HR2.out.below Hbw4.out).sp) hjn
      subst hA
      have Hcall := kH (rcond_any x w4)
      have Hx := kH hx
      obtain ⟨bb, hbb⟩ : ∃ bb, R.cdOk x = bb := ⟨_, rfl⟩
      rw [hbb] at Hcall
      have Hbb := kH hbb
      clear hx hb i0 i1 hbb
      cases bb with
      | false =>
       have Hr := kH (show e = 1 from by
        rw [Hn2.out, if_pos]
        rw [List.all_eq_false]
        exact ⟨x, List.mem_of_getElem? Hx.out, by rw [Hbb.out]; simp⟩)
       go_wp2_with fail
       (with_reducible refine Hcall.out.mono ?_)
       rintro e w5 ⟨rfl, hb5⟩
       have Hb5 := kH (Hb2.out.trans ((Hbw4.out.trans (hb5.mono Hbw4.out.size)).mono Hb2.out.size))
       clear hb5 y2 d0 d1 d2
       go_wp2
       go_ret
       exact ⟨ret_int Hr.out.symm, Hb5.out⟩
      | true =>
       have Ht := kH (show (r.pre.take (j + 1)).all R.cdOk = true from by rw [take_next Hx.out, List.all_append, Hcd.out]; simp [Hbb.out])
       go_wp2_with fail
       (with_reducible refine Hcall.out.mono ?_)
       rintro e w5 ⟨rfl, hb5⟩
       have Hb5 := kH (Hbw4.out.trans (hb5.mono Hbw4.out.size))
       clear hb5 y2 d0 d1 d2
       go_wp2
       go_roundg (gk - 1)
       case measure => have := Hgk.out; omega
       case rel =>
        have := Hgk.out
        exact ⟨j + 1, by omega, by go_num, by omega, Hb5, Ht⟩
    obtain rfl : j = np := by omega
    have Hcds := kH (show r.pre.all R.cdOk = true from by
     have := Hcd.out
     rw [List.take_of_length_le (by rw [HlP.out]; exact Nat.le_refl _)] at this
     exact this)
    have Hn3 := kH (show e = if R.okTyped r = false then 6 else if ((r.right.all fun x => (!decide (x.op = 33 ∨ x.op = 34)) || R.occ r.left x.op x.imm) && (r.pre.all fun c => R.occ r.left 34 c.hole)) = false then 7 else 0 from by rw [Hn2.out, if_neg (by rw [Hcds.out]; simp)])
    have Hpn := kH (show ∀ s, s < 2 → ∃ right, ∀ i x, (R.side r s)[i]? = some x → R.pnode (R.side r s) right i x = true from fun s hs => by
     rcases (show s = 0 ∨ s = 1 by omega) with rfl | rfl
     · exact ⟨false, HokL.out⟩
     · exact ⟨true, HokR.out⟩)
    clear hjn Hcd
    go_wp2
    clear y2
    go_loopg [8] 3 (fun gg i wr => ∃ s : Nat, s ≤ 2 ∧ i = .int .i64 (s : Int) ∧ gg + s = 3 ∧ Hid (Below W2.heap.size W2 wr) ∧ Hid (∀ k, k < s → (R.side r k).all (T.typed (R.side r k)) = true))
    case atStart => exact ⟨0, by omega, rfl, rfl, Hbw4, kH (fun k hk => by omega)⟩
    case round =>
     obtain ⟨s, hs, rfl, hgk, Hbw, Htp⟩ := hrel
     obtain ⟨gO, rfl⟩ : ∃ g, g = gk := ⟨_, rfl⟩
     obtain ⟨w6, rfl⟩ : ∃ w, w = wr := ⟨_, rfl⟩
     have HgO := kH hgk; clear hgk
     by_cases hs2 : s < 2
     · have hsl := HsL.out s hs2
       have qs : decide ((s : Int) < 2) = true := by simp; omega
       go_wp2
       clear qs
       go_loopg [9] (sN s + 1) (fun gg i w4 => ∃ j : Nat, j ≤ sN s ∧ i = .int .i64 (j : Int) ∧ gg + j = sN s + 1 ∧ Hid (Below W2.heap.size W2 w4) ∧ Hid (((R.side r s).take j).all (T.typed (R.side r s)) = true))
       case atStart => exact ⟨0, Nat.zero_le _, rfl, rfl, Hbw, kH rfl⟩
       case round =>
        obtain ⟨q, hq, rfl, hgk, Hbw7, Hty⟩ := hrel
        obtain ⟨w7, rfl⟩ : ∃ w, w = wr := ⟨_, rfl⟩
        have Hgk7 := kH hgk; clear hgk
        have y := Hd.out w7 Hbw7.out s hs2
        by_cases hqn : q < sN s
        · have hSs := HSt.out w7 Hbw7.out s hs2
          obtain ⟨x, b, off, A, c, hx, hA, hb, d0, d1, d2, d3, d4, hsx, i0, i1⟩ := nd_cells hSs hqn
          have HSs := kH hSs
          have Hx := kH hx
          have Hsx := kH hsx
          obtain ⟨ov⟩ := ov_ex w7
          obtain ⟨bb, hbb⟩ : ∃ bb, T.typed (R.side r s) x = bb := ⟨_, rfl⟩
          have Hbb := kH hbb
          have HQ := kH (show ∀ u, Calls Tryz.prog 68 #[.slice (sA s) (sN s) (sC s), .agg #[.int .i64 x.op, .int .i64 x.w, .int .i64 x.fl, .slice A x.args.length c, .int .u32 x.imm]] (ov.f u) (fun e w' => e = .returned (.bool bb) ∧ ∃ m, w' = ov.f m) from fun u => by
           obtain ⟨right, hp⟩ := Hpn.out s hs2
           have hpx := hp q x Hx.out
           have hl := R.pnode_len hpx
           have := rtyped_any (R.side r s) x (sN s) (sC s) (sA s) A c (ov.f u) (HSs.out.below monoNd (ov.below u)) (Hsx.out.below (monoInt _) (ov.below u)) hl.1 hl.2 (fun a ha => by have := R.pnode_args hpx a ha; omega)
           rw [hbb] at this
           exact calls_over this)
          have o0 := ov.cell y
          have p0 := ov.cell d0
          have p1 := ov.cell d1
          have p2 := ov.cell d2
          have p3 := ov.cell d3
          have p4 := ov.cell d4
          rw [hA] at o0 y HQ
          clear hx hb hsx i0 i1 hbb d0 d1 d2 d3 d4 hSs
          cases bb with
          | false =>
           have Hr := kH (show e = 6 from by
            have hf : (R.side r s).all (T.typed (R.side r s)) = false := by
             rw [List.all_eq_false]
             exact ⟨x, List.mem_of_getElem? Hx.out, by rw [Hbb.out]; simp⟩
            rw [Hn3.out, if_pos]
            rcases (show s = 0 ∨ s = 1 by omega) with rfl | rfl
            · exact R.okTyped_false (.inl hf)
            · exact R.okTyped_false (.inr (.inl hf)))
           go_wp2
           refine wp_region_ovq ov (by kernel_rfl) (by kernel_rfl) ?_
           repeat (go_big_quiet_step ((go_at_call 68; with_reducible exact HQ.out _)))
           refine wpQuiet_nil ?_
           rintro _ ⟨u, rfl⟩
           have Hb8 := kH (Hb2.out.trans ((Hbw7.out.trans ((ov.below u).mono Hbw7.out.size)).mono Hb2.out.size))
           clear o0 p0 p1 p2 p3 p4 y
           generalize ov.f u = w8 at *
           go_wp2
           go_ret
           exact ⟨ret_int Hr.out.symm, Hb8.out⟩
          | true =>
           have Ht := kH (show ((R.side r s).take (q + 1)).all (T.typed (R.side r s)) = true from by rw [take_next Hx.out, List.all_append, Hty.out]; simp [Hbb.out])
           go_wp2
           refine wp_region_ovq ov (by kernel_rfl) (by kernel_rfl) ?_
           repeat (go_big_quiet_step ((go_at_call 68; with_reducible exact HQ.out _)))
           refine wpQuiet_nil ?_
           rintro _ ⟨u, rfl⟩
           have Hb8 := kH (Hbw7.out.trans ((ov.below u).mono Hbw7.out.size))
           clear o0 p0 p1 p2 p3 p4 y
           generalize ov.f u = w8 at *
           go_wp2
           go_roundg (gk - 1)
           case measure => have := Hgk7.out; omega
           case rel =>
            have := Hgk7.out
            exact ⟨q + 1, by omega, by go_num, by omega, Hb8, Ht⟩
        · obtain rfl : q = sN s := by omega
          have Ht := kH (show ∀ k, k < s + 1 → (R.side r k).all (T.typed (R.side r k)) = true from fun k hk => by
           rcases Nat.lt_or_ge k s with h | h
           · exact Htp.out k h
           · obtain rfl : k = s := by omega
             have := Hty.out
             rw [List.take_of_length_le (by rw [HsE.out k hs2]; exact Nat.le_refl _)] at this
             exact this)
          go_wp2
          go_roundg (gO - 1)
          case measure => have := HgO.out; omega
          case rel =>
           have := HgO.out
           exact ⟨s + 1, by omega, by go_num, by omega, Hbw7, Ht⟩
     obtain rfl : s = 2 := by omega
     have Ht0 := kH (show r.left.all (T.typed r.left) = true from Htp.out 0 (by omega))
     have Ht1 := kH (show r.right.all (T.typed r.right) = true from Htp.out 1 (by omega))
     obtain ⟨ml, hml⟩ : ∃ m, nl = m + 1 := ⟨nl - 1, by have := (Hln.out 0 (by omega)).1; have := HsN.out; omega⟩
     obtain ⟨mr, hmr⟩ : ∃ m, nr = m + 1 := ⟨nr - 1, by have := (Hln.out 1 (by omega)).1; have := HsN.out; omega⟩
     have hml12 : ml ≤ 11 := by have := (Hln.out 0 (by omega)).2; have := HsN.out; omega
     have hmr12 : mr ≤ 11 := by have := (Hln.out 1 (by omega)).2; have := HsN.out; omega
     subst hml
     subst hmr
     have hR6 := HR2.out.below Hbw.out
     obtain ⟨xl, bl, offl, Al, cxl, hxl, hAL, hbl, l0, l1, l2, l3, l4, _, _, _⟩ := nd_cells hR6.sl (j := ml) (by omega)
     obtain ⟨xr, br, offr, Ar, cxr, hxr, hAR, hbr, r0, r1, r2, r3, r4, _, _, _⟩ := nd_cells hR6.sr (j := mr) (by omega)
     obtain ⟨y0, y1, y2⟩ := Hc.out w6 Hbw.out
     rw [hAL] at y0
     rw [hAR] at y1
     have hrl : R.rootW r.left = xl.w := by unfold R.rootW; rw [HlL.out, List.getD_eq_getElem?_getD, show ml + 1 - 1 = ml by omega, hxl]; rfl
     have hrr : R.rootW r.right = xr.w := by unfold R.rootW; rw [HlR.out, List.getD_eq_getElem?_getD, show mr + 1 - 1 = mr by omega, hxr]; rfl
     have Hty := kH (show R.okTyped r = (decide (xl.w ≤ 1) && decide (xr.w = xl.w)) from by unfold R.okTyped; rw [Ht0.out, Ht1.out, hrl, hrr]; rfl)
     have HAL := kH hAL
     have HAR := kH hAR
     have eml : (ml : Int) + 1 - 1 = (ml : Int) := by omega
     have emr : (mr : Int) + 1 - 1 = (mr : Int) := by omega
     clear hs2 hR6 hxl hxr hbl hbr hrl hrr l0 l2 l3 l4 r0 r2 r3 r4 y2 hAL hAR
     go_wp2
     go_quiet (fail)
     generalize hW8 : w6.drewN _ = w8
     have Hb8 := kH (Hbw.out.dr ⟨_, hW8.symm⟩)
     clear hW8 y0 y1 l1 r1
     by_cases hww : xl.w = xr.w
     rotate_left
     · have q1 : (xl.w != xr.w) = true := by simpa using hww
       have Hr := kH (show e = 6 from by rw [Hn3.out, if_pos]; rw [Hty.out, decide_eq_false (show ¬ xr.w = xl.w from fun h => hww h.symm)]; simp)
       clear hww
       go_wp2
       go_ret
       exact ⟨ret_int Hr.out.symm, Hb2.out.trans (Hb8.out.mono Hb2.out.size)⟩
     have q1 : (xl.w != xr.w) = false := by simpa using hww
     by_cases hw1 : 1 < xl.w
     · have q2 : decide (1 < xl.w) = true := by simpa using hw1
       have Hr := kH (show e = 6 from by rw [Hn3.out, if_pos]; rw [Hty.out, decide_eq_false (show ¬ xl.w ≤ 1 by omega)]; rfl)
       clear hww hw1
       go_wp2
       go_ret
       exact ⟨ret_int Hr.out.symm, Hb2.out.trans (Hb8.out.mono Hb2.out.size)⟩
     have q2 : decide (1 < xl.w) = false := by simpa using hw1
     have Hn4 := kH (show e = if ((r.right.all fun x => (!decide (x.op = 33 ∨ x.op = 34)) || R.occ r.left x.op x.imm) && (r.pre.all fun c => R.occ r.left 34 c.hole)) = false then 7 else 0 from by
      rw [Hn3.out, if_neg]
      rw [Hty.out, decide_eq_true (show xl.w ≤ 1 by omega), decide_eq_true hww.symm]
      simp)
     have hord := R.pnode_ord HokL.out
     have hpos : 1 ≤ r.left.length := by rw [HlL.out]; omega
     have hroot := T.root_rep hord hpos
     have Hocc := kH (show ∀ o i, R.occ r.left o i = R.names (T.canon (T.root r.left)) o i from fun o i => R.occ_canon hord (by omega) hroot o i)
     rw [HlL.out, show ((ml + 1 : Nat) : Int) - 1 = (ml : Int) by omega] at hroot
     have Hsh := kH (Shared_any (ct := cl) ((HR2.out.below Hb8.out).sl) hord (by omega) (fun x hx => by
      obtain ⟨k, hk⟩ := List.mem_iff_getElem?.1 hx
      have := R.pnode_small (HokL.out k x hk); omega) (show ml < ml + 1 by omega) (T.root r.left) hroot)
     obtain ⟨y0, y1, y2⟩ := Hc.out w8 Hb8.out
     clear hww hw1 hord hpos hroot
     go_wp2_with fail
     (with_reducible refine Hsh.out.mono ?_)
     rintro e w9 ⟨v9, rfl, hown9, hb9⟩
     obtain ⟨A9, c9, rfl⟩ := hown9.form
     have Hb9 := kH (Hb8.out.trans (hb9.mono Hb8.out.size))
     have HS9 := kH (hown9.stAt (ndF_rel _) rfl)
     obtain ⟨nc, hnc⟩ : ∃ nc, (T.canon (T.root r.left)).length = nc := ⟨_, rfl⟩
     rw [hnc] at HS9 ⊢
     clear hown9 hb9 y0 y1 y2 hnc
     have Hnm := kH (show ∀ X, Below w9.heap.size w9 X → ∀ o i, Calls Tryz.prog 69 #[.slice A9 nc c9, .int .i64 o, .int .u32 i] X fun e W' => e = .returned (.bool (R.occ r.left o i)) ∧ X = W' from fun X hX o i => by
      have := rnames_any (T.canon (T.root r.left)) nc c9 A9 o i X (HS9.out.below monoNd hX)
      rw [← Hocc.out] at this
      exact this)
     obtain ⟨y0, y1, y2⟩ := Hc.out w9 Hb9.out
     go_wp2
     clear y0 y1 y2
     go_loopg [13] (mr + 2) (fun gg i wr => ∃ j : Nat, j ≤ mr + 1 ∧ i = .int .i64 (j : Int) ∧ gg + j = mr + 2 ∧ Hid (Below w9.heap.size w9 wr) ∧ Hid ((r.right.take j).all (fun x => (!decide (x.op = 33 ∨ x.op = 34)) || R.occ r.left x.op x.imm) = true))
     case atStart => exact ⟨0, by omega, rfl, rfl, kH (Below.refl _ _), kH rfl⟩
     case round =>
      obtain ⟨q, hq, rfl, hgk, Hbwq, Hoq⟩ := hrel
      obtain ⟨wq, rfl⟩ : ∃ w, w = wr := ⟨_, rfl⟩
      have Hgkq := kH hgk; clear hgk
      have Hbq := kH (Hb9.out.trans (Hbwq.out.mono Hb9.out.size))
      obtain ⟨y0, y1, y2⟩ := Hc.out wq Hbq.out
      by_cases hqn : q < mr + 1
      · obtain ⟨x, b, off, A, c, hx, hA, hb, d0, d1, d2, d3, d4, hsx, i0, i1⟩ := nd_cells ((HR2.out.below Hbq.out).sr) hqn
        subst hA
        obtain ⟨X1, hX1⟩ : ∃ X1, X1 = wq.alloc (.cells #[.int .i64 x.op, .int .i64 x.w, .int .i64 x.fl, .slice A x.args.length c, .int .u32 x.imm] 62) := ⟨_, rfl⟩
        have hbX : Below wq.heap.size wq X1 := by rw [hX1]; exact al0
        have hrX : X1.heap[wq.heap.size]? = some (.cells #[.int .i64 x.op, .int .i64 x.w, .int .i64 x.fl, .slice A x.args.length c, .int .u32 x.imm] 62 (0, 0)) := by rw [hX1]; exact heap_alloc_new wq _
        obtain ⟨x0, x1, x2, x3, x4⟩ := nd5_cells hrX
        have HbX := kH (Hbwq.out.trans (hbX.mono Hbwq.out.size))
        have Hx := kH hx
        have HX1 := kH hX1
        have Hca := kH (Hnm.out X1 HbX.out x.op x.imm)
        rw [hX1] at x0 x1 x2 x3 x4
        clear hx hb hsx i0 i1 hX1 hbX hrX
        by_cases ho : x.op = 33 ∨ x.op = 34
        · obtain ⟨bb, hbb⟩ : ∃ bb, R.occ r.left x.op x.imm = bb := ⟨_, rfl⟩
          rw [hbb] at Hca
          have Hbb := kH hbb
          have Ho := kH ho
          clear hbb
          cases bb with
          | true =>
           have Ht := kH (show (r.right.take (q + 1)).all (fun x => (!decide (x.op = 33 ∨ x.op = 34)) || R.occ r.left x.op x.imm) = true from by rw [take_next Hx.out, List.all_append, Hoq.out]; simp [Hbb.out])
           by_cases h33 : x.op = 33
           · have p1 : (x.op == 33) = true := by simpa using h33
             clear ho h33
             go_wp2_with fail
             rw [← HX1.out]
             (with_reducible refine Hca.out.mono ?_)
             rintro e w10 ⟨rfl, rfl⟩
             clear x0 x1 x2 x3 x4 d0 d1 d2 d3 d4 y0 y1 y2
             go_wp2
             go_roundg (gk - 1)
             case measure => have := Hgkq.out; omega
             case rel =>
              have := Hgkq.out
              exact ⟨q + 1, by omega, by go_num, by omega, HbX, Ht⟩
           · have p1 : (x.op == 33) = false := by simpa using h33
             have p2 : (x.op == 34) = true := by simp; omega
             clear ho h33
             go_wp2_with fail
             rw [← HX1.out]
             (with_reducible refine Hca.out.mono ?_)
             rintro e w10 ⟨rfl, rfl⟩
             clear x0 x1 x2 x3 x4 d0 d1 d2 d3 d4 y0 y1 y2
             go_wp2
             go_roundg (gk - 1)
             case measure => have := Hgkq.out; omega
             case rel =>
              have := Hgkq.out
              exact ⟨q + 1, by omega, by go_num, by omega, HbX, Ht⟩
          | false =>
           have Hr := kH (show e = 7 from by
            have hf : (r.right.all fun x => (!decide (x.op = 33 ∨ x.op = 34)) || R.occ r.left x.op x.imm) = false := by
             rw [List.all_eq_false]
             exact ⟨x, List.mem_of_getElem? Hx.out, by rw [Hbb.out, decide_eq_true Ho.out]; simp⟩
            rw [Hn4.out, if_pos]
            rw [hf]; rfl)
           by_cases h33 : x.op = 33
           · have p1 : (x.op == 33) = true := by simpa using h33
             clear ho h33
             go_wp2_with fail
             rw [← HX1.out]
             (with_reducible refine Hca.out.mono ?_)
             rintro e w10 ⟨rfl, rfl⟩
             clear x0 x1 x2 x3 x4 d0 d1 d2 d3 d4 y0 y1 y2
             go_wp2
             go_ret
             exact ⟨ret_int Hr.out.symm, Hb2.out.trans ((Hb9.out.trans (HbX.out.mono Hb9.out.size)).mono Hb2.out.size)⟩
           · have p1 : (x.op == 33) = false := by simpa using h33
             have p2 : (x.op == 34) = true := by simp; omega
             clear ho h33
             go_wp2_with fail
             rw [← HX1.out]
             (with_reducible refine Hca.out.mono ?_)
             rintro e w10 ⟨rfl, rfl⟩
             clear x0 x1 x2 x3 x4 d0 d1 d2 d3 d4 y0 y1 y2
             go_wp2
             go_ret
             exact ⟨ret_int Hr.out.symm, Hb2.out.trans ((Hb9.out.trans (HbX.out.mono Hb9.out.size)).mono Hb2.out.size)⟩
        · have p1 : (x.op == 33) = false := by simp; omega
          have p2 : (x.op == 34) = false := by simp; omega
          have Ht := kH (show (r.right.take (q + 1)).all (fun x => (!decide (x.op = 33 ∨ x.op = 34)) || R.occ r.left x.op x.imm) = true from by rw [take_next Hx.out, List.all_append, Hoq.out]; simp only [List.all_cons, List.all_nil, decide_eq_false ho, Bool.not_false, Bool.true_or, Bool.true_and, Bool.and_true])
          clear ho
          go_wp2
          rw [← HX1.out]
          clear x0 x1 x2 x3 x4 d0 d1 d2 d3 d4 y0 y1 y2
          go_roundg (gk - 1)
          case measure => have := Hgkq.out; omega
          case rel =>
           have := Hgkq.out
           exact ⟨q + 1, by omega, by go_num, by omega, HbX, Ht⟩
      obtain rfl : q = mr + 1 := by omega
      have Hall := kH (show (r.right.all fun x => (!decide (x.op = 33 ∨ x.op = 34)) || R.occ r.left x.op x.imm) = true from by
       have := Hoq.out
       rw [List.take_of_length_le (by rw [HlR.out]; exact Nat.le_refl _)] at this
       exact this)
      have Hn5 := kH (show e = if (r.pre.all fun c => R.occ r.left 34 c.hole) = false then 7 else 0 from by rw [Hn4.out, Hall.out, Bool.true_and])
      clear hqn Hoq
      go_wp2
      clear y0 y1 y2
      go_loopg [15] (j + 1) (fun gg i wr => ∃ q : Nat, q ≤ j ∧ i = .int .i64 (q : Int) ∧ gg + q = j + 1 ∧ Hid (Below w9.heap.size w9 wr) ∧ Hid ((r.pre.take q).all (fun c => R.occ r.left 34 c.hole) = true))
      case atStart => exact ⟨0, Nat.zero_le _, rfl, rfl, Hbwq, kH rfl⟩
      case round =>
       obtain ⟨q, hq, rfl, hgk, Hbwq, Hoq⟩ := hrel
       obtain ⟨wq, rfl⟩ : ∃ w, w = wr := ⟨_, rfl⟩
       have Hgk15 := kH hgk; clear hgk
       have Hbq := kH (Hb9.out.trans (Hbwq.out.mono Hb9.out.size))
       obtain ⟨y0, y1, y2⟩ := Hc.out wq Hbq.out
       by_cases hqn : q < j
       · obtain ⟨x, b, off, hx, hA, hb, d0, d1, d2, i0, i1⟩ := cd_cells ((HR2.out.below Hbq.out).sp) hqn
         subst hA
         have hok : R.cdOk x = true := List.all_eq_true.1 Hcds.out x (List.mem_of_getElem? hx)
         unfold R.cdOk at hok
         simp only [Bool.and_eq_true, decide_eq_true_eq] at hok
         obtain ⟨⟨⟨⟨o1, o2⟩, o3⟩, o4⟩, _⟩ := hok
         have Hca := kH (Hnm.out wq Hbwq.out 34 x.hole)
         have Hx := kH hx
         obtain ⟨bb, hbb⟩ : ∃ bb, R.occ r.left 34 x.hole = bb := ⟨_, rfl⟩
         rw [hbb] at Hca
         have Hbb := kH hbb
         clear hx hb i0 i1 hbb
         cases bb with
         | true =>
          have Ht := kH (show (r.pre.take (q + 1)).all (fun c => R.occ r.left 34 c.hole) = true from by rw [take_next Hx.out, List.all_append, Hoq.out]; simp [Hbb.out])
          go_wp2_with fail
          (with_reducible refine Hca.out.mono ?_)
          rintro e w10 ⟨rfl, rfl⟩
          go_wp2
          go_roundg (gk - 1)
          case measure => have := Hgk15.out; omega
          case rel =>
           have := Hgk15.out
           exact ⟨q + 1, by omega, by go_num, by omega, Hbwq, Ht⟩
         | false =>
          have Hr := kH (show e = 7 from by
           rw [Hn5.out, if_pos]
           rw [List.all_eq_false]
           exact ⟨x, List.mem_of_getElem? Hx.out, by rw [Hbb.out]; simp⟩)
          go_wp2_with fail
          (with_reducible refine Hca.out.mono ?_)
          rintro e w10 ⟨rfl, rfl⟩
          go_wp2
          go_ret
          exact ⟨ret_int Hr.out.symm, Hb2.out.trans (Hbq.out.mono Hb2.out.size)⟩
       · obtain rfl : q = j := by omega
         have Hr := kH (show e = 0 from by
          have := Hoq.out
          rw [List.take_of_length_le (by rw [HlP.out]; exact Nat.le_refl _)] at this
          rw [Hn5.out, if_neg (by rw [this]; simp)])
         go_wp2
         go_ret
         exact ⟨ret_int Hr.out.symm, Hb2.out.trans (Hbq.out.mono Hb2.out.size)⟩
end
section
open Go.RowKit
theorem st_row {w : World} {g n : Nat} {ty : TypeId} {cells : Array Value} {xs : List T.Nd} (hr : w.heap[g]? = some (.cells cells ty (0, 0))) (hl : xs.length = n) (hn : n ≤ 100)
 (h : ∀ k x, xs[k]? = some x → ∃ A c, (∀ j u, (ndC x A c)[j]? = some u → cells[k * 5 + j]? = some u) ∧ SlAt (IntR .i64) w A x.args.length x.args ∧ 0 ≤ x.imm ∧ x.imm < 4294967296) : StAt 5 NdR w (some ⟨g, 0, none⟩) n xs := by
 refine ⟨hl, by omega, fun k x hx => ?_⟩
 obtain ⟨A, c, h1, h2, h3⟩ := h k x hx
 refine ⟨g, 0, ndC x A c, rfl, (gA hr).1, rfl, fun j u hu => ?_, A, c, rfl, h2, h3⟩
 rw [cell_of_row _ _ _ _ _ (0, 0) hr, show 0 + k * 5 + j = k * 5 + j by omega]
 exact h1 j u hu
theorem sl_row {w : World} {g : Nat} {ty : TypeId} {xs : List Int} (hr : w.heap[g]? = some (.cells (xs.map (Value.int .i64)).toArray ty (0, 0))) (hn : xs.length ≤ 100) : SlAt (IntR .i64) w (some ⟨g, 0, none⟩) xs.length xs := by
 refine ⟨rfl, by omega, fun k x hx => ⟨g, 0, .int .i64 x, rfl, (gA hr).1, ?_, rfl⟩⟩
 rw [cell_of_row _ _ _ _ _ (0, 0) hr, show 0 + k = k by omega]
 simp [hx]
theorem alloc_row {W w : World} {o : Obj} (h : W.alloc o = w) : w.heap[W.heap.size]? = some o ∧ w.heap.size = W.heap.size + 1 := by
 rw [← h]
 exact ⟨heap_alloc_new W o, by simp⟩
theorem row_step' {W w : World} {o o' : Obj} {g : Nat} (h : W.alloc o = w) (hr : W.heap[g]? = some o') : w.heap[g]? = some o' := by
 rw [← h]
 exact row_alloc hr _
end
section
open Go.ChangeShapes Go.WideShapes Go.ChangeAt Go.RowKit Go.Deep
theorem cellsRule : Tryz.prog.cellsOf 33 = 3 := by kernel_rfl
theorem cellsNodes : Tryz.prog.cellsOf 22 = 1 := by kernel_rfl
theorem cellsConds : Tryz.prog.cellsOf 31 = 1 := by kernel_rfl
theorem cellsCond : Tryz.prog.cellsOf 88 = 3 := by kernel_rfl
def NdRf (W : World) (us : List Value) (x : T.Nd) : Prop := NdR W us x ∧ -9223372036854775808 ≤ x.fl ∧ x.fl ≤ 9223372036854775807
theorem readsNodeF {H : Type} {enc : TypeId × Value → H} {W : World} {fs : Array Field} (hfs : fs.size = 5) (hty : ∀ (j : Nat) (f : Field), fs[j]? = some f → f.type = (#[3, 3, 3, 60, 26]).getD j 0) : ReadsSt enc Tryz.prog W fs NdRf := by
 intro n us hl hu
 have get : ∀ j, j < 5 → ∃ u y, us[j]? = some u ∧ DataW.trod enc Tryz.prog W 0 (fun _ => true) true n ((#[3, 3, 3, 60, 26]).getD j 0) [u] = some y := fun j hj => by
  have hj' : j < fs.size := by omega
  obtain ⟨u, y, h1, h2⟩ := hu j fs[j] (Array.getElem?_eq_getElem hj')
  rw [hty j _ (Array.getElem?_eq_getElem hj')] at h2
  exact ⟨u, y, h1, h2⟩
 obtain ⟨u0, y0, g0, h0⟩ := get 0 (by omega)
 obtain ⟨u1, y1, g1, h1⟩ := get 1 (by omega)
 obtain ⟨u2, y2, g2, h2⟩ := get 2 (by omega)
 obtain ⟨u3, y3, g3, h3⟩ := get 3 (by omega)
 obtain ⟨u4, y4, g4, h4⟩ := get 4 (by omega)
 obtain ⟨a, e0, _, _⟩ := DataW.trod_int Tryz.underlying3 h0
 obtain ⟨b, e1, _, _⟩ := DataW.trod_int Tryz.underlying3 h1
 obtain ⟨c, e2, _, hc⟩ := DataW.trod_int Tryz.underlying3 h2
 obtain ⟨l, A, cp, e3, s3⟩ := readsSl (enc := enc) (W := W) Tryz.underlying60 cellsIntN (readsInt Tryz.underlying3) n u3 y3 h3
 obtain ⟨d, e4, d0, d1⟩ := readsWord (enc := enc) (W := W) Tryz.underlying26 n u4 y4 h4
 have e0' := (List.cons.inj e0).1
 have e1' := (List.cons.inj e1).1
 have e2' := (List.cons.inj e2).1
 simp [Lit.wf, IntKind.min, IntKind.max, IntKind.signed, IntKind.bits] at hc
 rw [hfs] at hl
 refine ⟨⟨a, b, c, l, d⟩, ⟨A, cp, ?_, s3, d0, d1⟩, by show _ ≤ c; omega, by show c ≤ _; omega⟩
 match us, hl, g0, g1, g2, g3, g4 with
 | [v0, v1, v2, v3, v4], _, g0, g1, g2, g3, g4 =>
  simp at g0 g1 g2 g3 g4
  subst g0 g1 g2 g3 g4
  rw [e0', e1', e2', e3, e4]
  rfl
theorem stf {W : World} {A : Option Addr} {n : Nat} {xs : List T.Nd} (h : StAt 5 NdRf W A n xs) : StAt 5 NdR W A n xs ∧ R.flr xs := by
 refine ⟨⟨h.1, h.2.1, fun k x hx => ?_⟩, fun y hy => ?_⟩
 · obtain ⟨b, off, us, e1, e2, e3, e4, e5⟩ := h.2.2 k x hx
   exact ⟨b, off, us, e1, e2, e3, e4, e5.1⟩
 · obtain ⟨j, hj⟩ := List.mem_iff_getElem?.1 hy
   obtain ⟨b, off, us, e1, e2, e3, e4, e5⟩ := h.2.2 j y hj
   exact e5.2
theorem readsCond {H : Type} {enc : TypeId × Value → H} {W : World} {fs : Array Field} (hfs : fs.size = 3) (hty : ∀ (j : Nat) (f : Field), fs[j]? = some f → f.type = (#[3, 3, 26]).getD j 0) : ReadsSt enc Tryz.prog W fs CdR := by
 intro n us hl hu
 have get : ∀ j, j < 3 → ∃ u y, us[j]? = some u ∧ DataW.trod enc Tryz.prog W 0 (fun _ => true) true n ((#[3, 3, 26]).getD j 0) [u] = some y := fun j hj => by
  have hj' : j < fs.size := by omega
  obtain ⟨u, y, h1, h2⟩ := hu j fs[j] (Array.getElem?_eq_getElem hj')
  rw [hty j _ (Array.getElem?_eq_getElem hj')] at h2
  exact ⟨u, y, h1, h2⟩
 obtain ⟨u0, y0, g0, h0⟩ := get 0 (by omega)
 obtain ⟨u1, y1, g1, h1⟩ := get 1 (by omega)
 obtain ⟨u4, y4, g4, h4⟩ := get 2 (by omega)
 obtain ⟨a, e0, _, _⟩ := DataW.trod_int Tryz.underlying3 h0
 obtain ⟨b, e1, _, _⟩ := DataW.trod_int Tryz.underlying3 h1
 obtain ⟨d, e4, d0, d1⟩ := readsWord (enc := enc) (W := W) Tryz.underlying26 n u4 y4 h4
 have e0' := (List.cons.inj e0).1
 have e1' := (List.cons.inj e1).1
 rw [hfs] at hl
 refine ⟨⟨a, b, d⟩, ?_, d0, d1⟩
 match us, hl, g0, g1, g4 with
 | [v0, v1, v4], _, g0, g1, g4 =>
  simp at g0 g1 g4
  subst g0 g1 g4
  rw [e0', e1', e4]
  rfl
theorem cells_nodes {H : Type} {enc : TypeId × Value → H} {W : World} {n : Nat} {u : Value} {x : DataW H × List MemPlace} (h : DataW.trod enc Tryz.prog W 0 (fun _ => true) true n 22 [u] = some x) :
 ∃ A m c xs, u = .slice A m c ∧ StAt 5 NdR W A m xs ∧ R.flr xs := by
 obtain ⟨A, m, c, xs, e, hs⟩ := stAt_of_cells (R := NdRf) Tryz.underlying22 Tryz.underlying62 (by kernel_rfl) cellsNode (by decide) (readsNodeF rfl (fun j f h => by rcases j with _ | _ | _ | _ | _ | j <;> simp at h <;> (subst h; rfl))) h
 exact ⟨A, m, c, xs, e, stf hs⟩
theorem open_rule {H : Type} {enc : TypeId × Value → H} {W : World} {r : Reach} {b0 : Nat} {v : Value} {d : DataW H} {ps : List MemPlace} (hval : Value.okWide Tryz.prog W r b0 33 v) (h : DataW.Trod enc Tryz.prog W 0 (fun _ => true) true 33 v d ps) :
 ∃ rl nl cl nr cr np cp AL AR AP, v = .agg #[.slice AL nl cl, .slice AR nr cr, .slice AP np cp] ∧ RlAt W rl nl nr np AL AR AP := by
 obtain ⟨u0, u1, u2, n, x0, x1, x2, rfl, g0, g1, g2⟩ := open_agg3 Tryz.underlying33 cellsRule rfl rfl rfl cellsNodes cellsNodes cellsConds hval h
 obtain ⟨AL, nl, cl, xl, rfl, sl, fl⟩ := cells_nodes g0
 obtain ⟨AR, nr, cr, xr, rfl, sr, fr⟩ := cells_nodes g1
 obtain ⟨AP, np, cp, xp, rfl, sp⟩ := stAt_of_cells (R := CdR) Tryz.underlying31 Tryz.underlying88 (by kernel_rfl) cellsCond (by decide) (readsCond rfl (fun j f h => by rcases j with _ | _ | _ | j <;> simp at h <;> (subst h; rfl))) g2
 exact ⟨⟨xl, xr, xp⟩, nl, cl, nr, cr, np, cp, AL, AR, AP, rfl, sl, sr, sp, fl, fr⟩
end
section
namespace KT
open Go.Lib
theorem dec_ne (u : Nat) : decDigits u ≠ [] := by
 unfold decDigits
 split <;> simp
theorem toNat_dig {k : Nat} (h : k < 10) : (UInt8.ofNat (48 + k)).toNat = 48 + k := by
 rw [UInt8.toNat_ofNat']
 omega
theorem dec_dig (u : Nat) : ∀ b ∈ decDigits u, 48 ≤ b.toNat ∧ b.toNat ≤ 57 := by
 induction u using Nat.strongRecOn with
 | _ u ih =>
  unfold decDigits
  split
  · rename_i h
    intro b hb
    simp only [List.mem_singleton] at hb
    subst hb
    rw [toNat_dig h]
    omega
  · rename_i h
    intro b hb
    rcases List.mem_append.1 hb with hb | hb
    · exact ih _ (by omega) b hb
    · simp only [List.mem_singleton] at hb
      subst hb
      rw [toNat_dig (by omega)]
      omega
def val (l : List UInt8) : Nat := l.foldl (fun a b => 10 * a + (b.toNat - 48)) 0
theorem val_app (l : List UInt8) (b : UInt8) : val (l ++ [b]) = 10 * val l + (b.toNat - 48) := by
 unfold val
 rw [List.foldl_append]
 rfl
theorem val_dec (u : Nat) : val (decDigits u) = u := by
 induction u using Nat.strongRecOn with
 | _ u ih =>
  unfold decDigits
  split
  · rename_i h
    show 10 * 0 + ((UInt8.ofNat (48 + u)).toNat - 48) = u
    rw [toNat_dig h]
    omega
  · rename_i h
    rw [val_app, ih _ (by omega), toNat_dig (by omega)]
    omega
theorem dec_inj {u v : Nat} (h : decDigits u = decDigits v) : u = v := by
 rw [← val_dec u, ← val_dec v, h]
theorem itoa_inj {a b : Int} (h : itoa a = itoa b) : a = b := by
 have hd : ∀ u v : Nat, (45 : UInt8) :: decDigits u ≠ decDigits v := fun u v e => by
  have := dec_dig v 45 (by rw [← e]; simp)
  have h45 : (45 : UInt8).toNat = 45 := rfl
  omega
 unfold itoa at h
 split at h <;> split at h
 · have := dec_inj (List.cons.inj h).2; omega
 · exact absurd h (hd _ _)
 · exact absurd h.symm (hd _ _)
 · have := dec_inj h; omega
theorem itoa_byte (n : Int) : ∀ b ∈ itoa n, b.toNat = 45 ∨ (48 ≤ b.toNat ∧ b.toNat ≤ 57) := by
 intro b hb
 unfold itoa at hb
 split at hb
 · rcases List.mem_cons.1 hb with rfl | hb
   · exact .inl rfl
   · exact .inr (dec_dig _ b hb)
 · exact .inr (dec_dig _ b hb)
theorem itoa_ne (n : Int) : itoa n ≠ [] := by
 unfold itoa
 split
 · simp
 · exact dec_ne _
theorem cut_eq {c : UInt8} : ∀ {x y A B : List UInt8}, c ∉ x → c ∉ y → x ++ c :: A = y ++ c :: B → x = y ∧ A = B := by
 intro x
 induction x with
 | nil =>
  intro y A B _ hy h
  cases y with
  | nil => simp at h; exact ⟨rfl, h⟩
  | cons b y => simp at h; exact absurd (by simp [h.1]) hy
 | cons a x ih =>
  intro y A B hx hy h
  cases y with
  | nil => simp at h; exact absurd (by simp [h.1]) hx
  | cons b y =>
   simp at h hx hy
   obtain ⟨rfl, h⟩ := h
   obtain ⟨rfl, rfl⟩ := ih hx.2 hy.2 h
   exact ⟨rfl, rfl⟩
def jn (c : UInt8) : List (List UInt8) → List UInt8
 | [] => []
 | [x] => x
 | x :: y :: l => x ++ c :: jn c (y :: l)
theorem jn_eq (c : UInt8) (xs : List (List UInt8)) : Go.Lib.join xs [c] = jn c xs := by
 unfold Go.Lib.join
 induction xs with
 | nil => rfl
 | cons x xs ih =>
  cases xs with
  | nil => simp [List.intercalate, jn]
  | cons y l =>
   rw [List.intercalate] at ih ⊢
   simp only [List.intersperse_cons_cons, List.flatten_cons, jn]
   rw [ih]
   rfl
theorem jn_mem {c b : UInt8} : ∀ {xs : List (List UInt8)}, b ∈ jn c xs → b = c ∨ ∃ x ∈ xs, b ∈ x := by
 intro xs
 induction xs with
 | nil => intro h; cases h
 | cons x xs ih =>
  intro h
  cases xs with
  | nil => exact .inr ⟨x, by simp, h⟩
  | cons y l =>
   simp only [jn] at h
   rcases List.mem_append.1 h with h | h
   · exact .inr ⟨x, by simp, h⟩
   · rcases List.mem_cons.1 h with h | h
     · exact .inl h
     · rcases ih h with h | ⟨z, hz, h⟩
       · exact .inl h
       · exact .inr ⟨z, List.mem_cons_of_mem _ hz, h⟩
theorem jn_inj {c : UInt8} : ∀ {xs ys : List (List UInt8)}, (∀ x ∈ xs, c ∉ x) → (∀ y ∈ ys, c ∉ y) → xs ≠ [] → ys ≠ [] → jn c xs = jn c ys → xs = ys := by
 intro xs
 induction xs with
 | nil => intro ys _ _ h; exact absurd rfl h
 | cons x xs ih =>
  intro ys hx hy _ hn h
  cases ys with
  | nil => exact absurd rfl hn
  | cons y ys =>
   have hx0 := hx x (by simp)
   have hy0 := hy y (by simp)
   cases xs with
   | nil =>
    cases ys with
    | nil => simp only [jn] at h; rw [h]
    | cons y' ys =>
     simp only [jn] at h
     exact absurd (by rw [h]; simp) hx0
   | cons x' xs =>
    cases ys with
    | nil =>
     simp only [jn] at h
     exact absurd (by rw [← h]; simp) hy0
    | cons y' ys =>
     simp only [jn] at h
     obtain ⟨e1, h2⟩ := cut_eq hx0 hy0 h
     subst e1
     have := ih (fun z hz => hx z (List.mem_cons_of_mem _ hz)) (fun z hz => hy z (List.mem_cons_of_mem _ hz)) (by simp) (by simp) h2
     rw [this]
def nums (l : List Int) : List UInt8 := jn 44 (l.map itoa)
theorem nums_byte (l : List Int) : ∀ b ∈ nums l, b.toNat = 44 ∨ b.toNat = 45 ∨ (48 ≤ b.toNat ∧ b.toNat ≤ 57) := by
 intro b hb
 rcases jn_mem hb with rfl | ⟨x, hx, hb⟩
 · exact .inl rfl
 · obtain ⟨n, _, rfl⟩ := List.mem_map.1 hx
   exact .inr (itoa_byte n b hb)
theorem nums_inj {l m : List Int} (hl : l ≠ []) (hm : m ≠ []) (h : nums l = nums m) : l = m := by
 have h44 : ∀ n : Int, (44 : UInt8) ∉ itoa n := fun n hb => by
  have := itoa_byte n 44 hb
  have e : (44 : UInt8).toNat = 44 := rfl
  omega
 have := jn_inj (c := 44) (xs := l.map itoa) (ys := m.map itoa) (fun x hx => by obtain ⟨n, _, rfl⟩ := List.mem_map.1 hx; exact h44 n) (fun x hx => by obtain ⟨n, _, rfl⟩ := List.mem_map.1 hx; exact h44 n) (by simpa using hl) (by simpa using hm) h
 exact (List.map_inj_right fun a b => itoa_inj).1 this
end KT
end
section
namespace KT
def word (x : T.Nd) : List UInt8 := nums ([x.op, x.w, x.fl, x.imm] ++ x.args)
def sideT (L : List T.Nd) : List UInt8 := jn 32 (L.map word)
def preT : List (List Int) → List UInt8
 | [] => []
 | l :: t => [32, 105, 102, 32] ++ nums l ++ preT t
def keyT (l r : List T.Nd) (ps : List (List Int)) : List UInt8 := sideT l ++ [32, 61, 62, 32] ++ sideT r ++ preT ps
theorem word_byte (x : T.Nd) : ∀ b ∈ word x, b.toNat = 44 ∨ b.toNat = 45 ∨ (48 ≤ b.toNat ∧ b.toNat ≤ 57) := nums_byte _
theorem word_inj {x y : T.Nd} (h : word x = word y) : x = y := by
 have := nums_inj (by simp) (by simp) h
 obtain ⟨a, b, c, d, e⟩ := x
 obtain ⟨a', b', c', d', e'⟩ := y
 simp at this
 obtain ⟨rfl, rfl, rfl, rfl, rfl⟩ := this
 rfl
theorem sideT_byte (L : List T.Nd) : ∀ b ∈ sideT L, b.toNat = 32 ∨ b.toNat = 44 ∨ b.toNat = 45 ∨ (48 ≤ b.toNat ∧ b.toNat ≤ 57) := by
 intro b hb
 rcases jn_mem hb with rfl | ⟨x, hx, hb⟩
 · exact .inl rfl
 · obtain ⟨n, _, rfl⟩ := List.mem_map.1 hx
   exact .inr (word_byte n b hb)
theorem sideT_inj {L M : List T.Nd} (hL : L ≠ []) (hM : M ≠ []) (h : sideT L = sideT M) : L = M := by
 have h32 : ∀ x : T.Nd, (32 : UInt8) ∉ word x := fun x hb => by
  have := word_byte x 32 hb
  have e : (32 : UInt8).toNat = 32 := rfl
  omega
 have := jn_inj (c := 32) (xs := L.map word) (ys := M.map word) (fun x hx => by obtain ⟨n, _, rfl⟩ := List.mem_map.1 hx; exact h32 n) (fun x hx => by obtain ⟨n, _, rfl⟩ := List.mem_map.1 hx; exact h32 n) (by simpa using hL) (by simpa using hM) h
 exact (List.map_inj_right fun a b => word_inj).1 this
theorem preT_inj : ∀ {xs ys : List (List Int)} {A B : List UInt8}, (∀ x ∈ xs, x ≠ []) → (∀ y ∈ ys, y ≠ []) → (∀ b ∈ A, b.toNat ≠ 105) → (∀ b ∈ B, b.toNat ≠ 105) → A ++ preT xs = B ++ preT ys → A = B ∧ xs = ys := by
 have e105 : (105 : UInt8).toNat = 105 := rfl
 have split : ∀ (x : List Int) (t : List (List Int)) (A : List UInt8), A ++ preT (x :: t) = (A ++ [32]) ++ 105 :: ([102, 32] ++ nums x ++ preT t) := fun x t A => by simp [preT]
 intro xs
 induction xs with
 | nil =>
  intro ys A B _ _ hA hB h
  cases ys with
  | nil => simp [preT] at h; exact ⟨h, rfl⟩
  | cons y ys =>
   exfalso
   rw [split, preT, List.append_nil] at h
   exact hA 105 (by rw [h]; simp) e105
 | cons x xs ih =>
  intro ys A B hx hy hA hB h
  cases ys with
  | nil =>
   exfalso
   rw [split, preT, List.append_nil] at h
   exact hB 105 (by rw [← h]; simp) e105
  | cons y ys =>
   rw [split, split] at h
   have hs : ∀ (C : List UInt8), (∀ b ∈ C, b.toNat ≠ 105) → (105 : UInt8) ∉ C ++ [32] := fun C hC hm => by
    rcases List.mem_append.1 hm with hm | hm
    · exact hC _ hm e105
    · simp at hm
   obtain ⟨e1, e2⟩ := cut_eq (hs A hA) (hs B hB) h
   have eA : A = B := List.append_cancel_right e1
   have e3 : nums x ++ preT xs = nums y ++ preT ys := by simpa using e2
   have hn : ∀ l : List Int, ∀ b ∈ nums l, b.toNat ≠ 105 := fun l b hb => by have := nums_byte l b hb; omega
   obtain ⟨f1, f2⟩ := ih (fun z hz => hx z (List.mem_cons_of_mem _ hz)) (fun z hz => hy z (List.mem_cons_of_mem _ hz)) (hn x) (hn y) e3
   rw [nums_inj (hx x (by simp)) (hy y (by simp)) f1, f2]
   exact ⟨eA, rfl⟩
theorem keyT_inj {l r l' r' : List T.Nd} {ps ps' : List (List Int)} (h1 : l ≠ []) (h2 : r ≠ []) (h3 : l' ≠ []) (h4 : r' ≠ []) (hp : ∀ x ∈ ps, x ≠ []) (hp' : ∀ x ∈ ps', x ≠ []) (h : keyT l r ps = keyT l' r' ps') : l = l' ∧ r = r' ∧ ps = ps' := by
 unfold keyT at h
 have e61 : (61 : UInt8).toNat = 61 := rfl
 have hs : ∀ L : List T.Nd, (61 : UInt8) ∉ sideT L ++ [32] := fun L hm => by
  rcases List.mem_append.1 hm with hm | hm
  · have := sideT_byte L _ hm; omega
  · simp at hm
 have h' : (sideT l ++ [32]) ++ 61 :: ([62, 32] ++ sideT r ++ preT ps) = (sideT l' ++ [32]) ++ 61 :: ([62, 32] ++ sideT r' ++ preT ps') := by simpa using h
 obtain ⟨e1, e2⟩ := cut_eq (hs l) (hs l') h'
 have e3 : sideT r ++ preT ps = sideT r' ++ preT ps' := by simpa using e2
 have hn : ∀ L : List T.Nd, ∀ b ∈ sideT L, b.toNat ≠ 105 := fun L b hb => by have := sideT_byte L b hb; omega
 obtain ⟨f1, f2⟩ := preT_inj hp hp' (hn r) (hn r') e3
 exact ⟨sideT_inj h1 h3 (List.append_cancel_right e1), sideT_inj h2 h4 f1, f2⟩
theorem asc_eq {α : Type} {lt : α → α → Prop} (irr : ∀ a, ¬ lt a a) (tr : ∀ a b c, lt a b → lt b c → lt a c) : ∀ {l m : List α}, l.Pairwise lt → m.Pairwise lt → (∀ x, x ∈ l ↔ x ∈ m) → l = m := by
 intro l
 induction l with
 | nil =>
  intro m _ _ h
  cases m with
  | nil => rfl
  | cons y m => exact absurd ((h y).2 (by simp)) (by simp)
 | cons x l ih =>
  intro m hl hm h
  cases m with
  | nil => exact absurd ((h x).1 (by simp)) (by simp)
  | cons y m =>
   rw [List.pairwise_cons] at hl hm
   have hxy : x = y := by
    rcases List.mem_cons.1 ((h x).1 (by simp)) with e | hx
    · exact e
    · rcases List.mem_cons.1 ((h y).2 (by simp)) with e | hy
      · exact e.symm
      · exact absurd (tr _ _ _ (hl.1 y hy) (hm.1 x hx)) (irr x)
   subst hxy
   rw [ih hl.2 hm.2 fun z => ?_]
   constructor
   · intro hz
     rcases List.mem_cons.1 ((h z).1 (List.mem_cons_of_mem _ hz)) with e | hz'
     · subst e; exact absurd (hl.1 z hz) (irr z)
     · exact hz'
   · intro hz
     rcases List.mem_cons.1 ((h z).2 (List.mem_cons_of_mem _ hz)) with e | hz'
     · subst e; exact absurd (hm.1 z hz) (irr z)
     · exact hz'
end KT
end
end Go.Proofs.YtbiopedpceddeaaGreatDoor
