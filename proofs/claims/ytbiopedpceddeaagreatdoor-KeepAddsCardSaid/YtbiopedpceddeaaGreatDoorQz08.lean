/- Part. -/
import Derived.Test.YtbiopedpceddeaaGreatDoorQz07
import Derived.Deep.DeepCutAuto
set_option linter.unusedVariables false
set_option linter.unusedSimpArgs false
set_option maxRecDepth 100000
set_option maxHeartbeats 16000000
namespace Go.Proofs.YtbiopedpceddeaaGreatDoor
section
open Go.RowKit
theorem Shared_any {t : List T.Nd} {n ct k : Nat} {At : Option Addr} {W : World} (hT : StAt 5 NdR W At n t) (ho : T.Ord t) (hn : n ≤ 100000) (ha : ∀ x ∈ t, x.args.length ≤ 100000) (hk : k < n) (f : T.F) (hf : T.Rep t [(k : Int)] f) :
 Calls Tryz.prog 54 #[.slice At n ct, .int .i64 (k : Int)] W fun e W' => ∃ v, e = .returned v ∧ OwnR (NdF W.heap.size) W.heap.size W' v (T.canon f) ∧ Below W.heap.size W W' := by
 have HT := kH hT
 have Ho := kH ho
 have Ha := kH ha
 have Hlen := kH hT.len
 have Hst := kH (T.ShI.start (by rw [hT.len]; exact hk) hf)
 rw [hT.len] at Hst
 have hmk := fun (W' : World) => run_make_n (P := Tryz.prog) 60 3 (.int .i64 0) 8 Tryz.underlying60 infoI rfl .i64 .i64 n (n : Int) rfl (by omega) (by omega) W'
 obtain ⟨W1, hW1⟩ : ∃ W1, W1 = W.alloc (.cells (Array.replicate n (Value.int .i64 0)) 3) := ⟨_, rfl⟩
 have Hb1 := kH (show Below W.heap.size W W1 from by rw [hW1]; exact al0)
 have Hr1 := kH (show W1.heap[W.heap.size]? = some (.cells ((List.replicate 0 (-1 : Int) ++ List.replicate (n - 0) 0).map (Value.int .i64)).toArray 3 (0, 0)) from by
  rw [hW1]
  have e : ((List.replicate 0 (-1 : Int) ++ List.replicate (n - 0) 0).map (Value.int .i64)).toArray = Array.replicate n (Value.int .i64 0) := by simp
  rw [e]
  exact heap_alloc_new W _)
 have HW1 := kH hW1
 clear hT ho ha hf hW1
 go_enter Tryz.func54, Tryz.ntmps54
 go_wp2
 rw [← HW1.out]
 clear hmk
 go_loopg [7] (n + 1) (fun gg i wr => ∃ (j : Nat), j ≤ n ∧ i = .int .i64 (j : Int) ∧ gg + j = n + 1 ∧ Hid (Below W.heap.size W wr) ∧ Hid (wr.heap[W.heap.size]? = some (.cells ((List.replicate j (-1 : Int) ++ List.replicate (n - j) 0).map (Value.int .i64)).toArray 3 (0, 0))))
 case atStart => exact ⟨0, Nat.zero_le _, rfl, rfl, Hb1, Hr1⟩
 case round =>
  obtain ⟨j, hj, rfl, hgk, Hbw, Hrow⟩ := hrel
  have Hgk := kH hgk; clear hgk
  by_cases hjn : j < n
  · have hr := Hrow.out
    have c0 : wr.cell? ⟨W.heap.size, j, none⟩ = some (.int .i64 0) := by
     rw [cell_of_row _ _ _ _ _ (0, 0) hr, List.getElem?_toArray, List.getElem?_map, List.getElem?_append_right (by simp), List.getElem?_replicate, if_pos (by simp; omega)]
     rfl
    have f0 := frozen_row hr j
    have Hr2 := kH (show (wr.setCell ⟨W.heap.size, j, none⟩ (.int .i64 (-1))).heap[W.heap.size]? = some (.cells ((List.replicate (j + 1) (-1 : Int) ++ List.replicate (n - (j + 1)) 0).map (Value.int .i64)).toArray 3 (0, 0)) from by
     rw [heap_setCell_same _ _ _ _ _ _ hr, tab_set]
     congr 4
     apply List.ext_getElem?
     intro i
     rw [List.getElem?_set]
     by_cases h1 : j = i
     · subst h1
       rw [if_pos rfl, if_pos (by simp; omega), List.getElem?_append_left (by simp), List.getElem?_replicate, if_pos (by omega)]
     · rw [if_neg h1]
       by_cases h2 : i < j
       · rw [List.getElem?_append_left (by simpa using h2), List.getElem?_append_left (by simp; omega), List.getElem?_replicate, List.getElem?_replicate, if_pos h2, if_pos (by omega)]
       · rw [List.getElem?_append_right (by simp; omega), List.getElem?_append_right (by simp; omega), List.getElem?_replicate, List.getElem?_replicate]
         simp only [List.length_replicate]
         by_cases h3 : i < n
         · rw [if_pos (by omega), if_pos (by omega)]
         · rw [if_neg (by omega), if_neg (by omega)])
    have Hb2 := kH (Hbw.out.setCell (p := ⟨W.heap.size, j, none⟩) (Nat.le_refl _) (.int .i64 (-1)))
    clear hr
    go_wp2
    go_roundg (gk - 1)
    case measure => have := Hgk.out; omega
    case rel =>
     have := Hgk.out
     exact ⟨j + 1, by omega, by go_num, by omega, Hb2, Hr2⟩
  · obtain rfl : j = n := by omega
    have Hrw := kH (show wr.heap[W.heap.size]? = some (.cells ((List.replicate j (-1 : Int)).map (Value.int .i64)).toArray 3 (0, 0)) from by
     have := Hrow.out
     rw [Nat.sub_self, List.replicate_zero, List.append_nil] at this
     exact this)
    have hg1 := (gA Hrw.out).1
    obtain ⟨W2, hW2⟩ : ∃ W2, W2 = wr.alloc (.cells #[.int .i64 (k : Int)] 3) := ⟨_, rfl⟩
    have hb2 : Below wr.heap.size wr W2 := by rw [hW2]; exact al0
    have HSt := kH (show ShSt W t W.heap.size (T.canon f) W2 (.slice none 0 0) (.slice (some ⟨wr.heap.size, 0, none⟩) 1 1) (List.replicate j (-1)) [k] [] from by
     refine ⟨Hbw.out.trans (hb2.mono Hbw.out.size), Hst.out, Nat.le_refl _, (hb2.block _ hg1).trans Hrw.out, ?_, fun g hg => ?_, OwnR.nil_ _ _ _⟩
     · rw [hW2]
       exact OwnAt.of_new wr #[.int .i64 (k : Int)] 1 rfl (by simp [maxLen])
     · simp [Value.ownBlock] at hg
       omega)
    have HW2 := kH hW2
    clear hb2 hW2
    go_wp2
    rw [← HW2.out]
    clear hg1
    go_loopg [5, 8] (shMes t (List.replicate j (-1)) [k]) (fun gg s5 s8 wr2 => ∃ (tab : List Int) (S : List Nat) (out : List T.Nd), gg = shMes t tab S ∧ Hid (ShSt W t W.heap.size (T.canon f) wr2 s5 s8 tab S out))
    case atStart => exact ⟨_, _, _, rfl, HSt⟩
    case round =>
     obtain ⟨tab, S, out, hgk, HSS⟩ := hrel
     obtain ⟨gO, rfl⟩ : ∃ gO, gO = gk := ⟨_, rfl⟩
     have HgO := kH hgk
     obtain ⟨wr2, rfl⟩ : ∃ w, w = wr := ⟨_, rfl⟩
     clear hgk
     cases S with
     | nil =>
      obtain ⟨A8, c8, h8⟩ := HSS.out.stk.form
      have h8 : u8 = .slice A8 0 c8 := h8
      subst h8
      go_wp2
      go_ret
      have h := HSS.out.own.toF
      rw [HSS.out.inv.end_] at h
      exact ⟨_, rfl, h, HSS.out.bel⟩
     | cons nn S =>
      obtain ⟨A8, c8, h8⟩ := HSS.out.stk.form
      have h8 : u8 = .slice A8 (S.length + 1) c8 := h8
      subst h8
      obtain ⟨b8, off8, hA8, htop, hb8⟩ := HSS.out.top rfl
      subst hA8
      have hnn : nn < j := by have := HSS.out.inv.lt nn (by simp); rw [Hlen.out] at this; exact this
      have hmj : S.length + 1 ≤ j := by
       have := T.asc_len HSS.out.inv.asc HSS.out.inv.lt
       simp only [List.length_cons, Hlen.out] at this
       exact this
      obtain ⟨x, bx, offx, Ax, cx, hx, hAt, hbx, h0, h1, h2, h3, h4, hs, i0, i1⟩ := nd_cells (HT.out.below monoNd HSS.out.bel) hnn
      subst hAt
      have Hx := kH hx
      have Hs := kH hs
      have Hi := kH (show 0 ≤ x.imm ∧ x.imm < 4294967296 from ⟨i0, i1⟩)
      have Hord := kH (Ho.out nn x hx)
      have Hal := kH (Ha.out x (List.mem_of_getElem? hx))
      obtain ⟨L, hL⟩ : ∃ L, x.args.length = L := ⟨_, rfl⟩
      have HL := kH hL
      rw [hL] at h3 hs
      have em : (S.length : Int) + 1 - 1 = (S.length : Int) := by omega
      have hL5 : L ≤ 100000 := by rw [← hL]; exact Hal.out
      obtain ⟨X1, hX1⟩ : ∃ X1, X1 = wr2.alloc (.cells #[.int .i64 x.op, .int .i64 x.w, .int .i64 x.fl, .slice Ax L cx, .int .u32 x.imm] 62) := ⟨_, rfl⟩
      have hb1 : Below wr2.heap.size wr2 X1 := by rw [hX1]; exact al0
      have hrX : X1.heap[wr2.heap.size]? = some (.cells #[.int .i64 x.op, .int .i64 x.w, .int .i64 x.fl, .slice Ax L cx, .int .u32 x.imm] 62 (0, 0)) := by rw [hX1]; exact heap_alloc_new wr2 _
      have HrX := kH hrX
      have Hb1' := kH hb1
      have HS1 := kH (HSS.out.below hb1)
      have Hsx := kH (hs.below (monoInt _) hb1)
      have HX1 := kH hX1
      have HszX := kH (show X1.heap.size = wr2.heap.size + 1 from by rw [hX1]; simp)
      clear hx hs i0 i1 hL hX1 hb1 hrX hbx hb8
      go_upto_region 11 with (fail)
      rw [← HX1.out]
      obtain ⟨x0, x1, x2, x3, x4⟩ := nd5_cells HrX.out
      clear htop h0 h1 h2 h3 h4 x0 x1 x2 x4
      go_wp2
      clear em
      have Htl := kH (show tab.length = j from by rw [HS1.out.inv.len, Hlen.out])
      go_loop [11, 12] (fun mm i => ∃ q : Nat, q ≤ L ∧ i = .int .i64 ((q : Int) - 1) ∧ mm = .int .i64 (T.miss tab (x.args.drop q))) (fun _ i => (intOf i + 1).toNat)
      case atStart => exact ⟨L, Nat.le_refl _, rfl, by rw [← HL.out, List.drop_length]; rfl⟩
      case round =>
       obtain ⟨q, hq, rfl, rfl⟩ := hrel
       by_cases hq0 : 0 < q
       · obtain ⟨p, rfl⟩ : ∃ p, q = p + 1 := ⟨q - 1, by omega⟩
         have ep : ((p + 1 : Nat) : Int) - 1 = (p : Int) := by omega
         obtain ⟨aI, ba, offa, ua, hai, rfl, hba, hca, rfl⟩ := Hsx.out.at_ (show p < L by omega)
         have hao := Hord.out aI (List.mem_of_getElem? hai)
         obtain ⟨a, rfl⟩ : ∃ a : Nat, aI = a := ⟨aI.toNat, by omega⟩
         have haj : a < j := by omega
         have Hms := kH (show T.miss tab (x.args.drop p) = if tab.getD a 0 < 0 then (a : Int) else T.miss tab (x.args.drop (p + 1)) from by
          rw [drop_at hai]
          show (if tab.getD ((a : Int)).toNat 0 < 0 then (a : Int) else _) = _
          rw [Int.toNat_natCast])
         have hta := HS1.out.tab_ (T.getD_some (d := 0) (show a < tab.length by rw [Htl.out]; exact haj))
         obtain ⟨tv, htv⟩ : ∃ tv, tab.getD a 0 = tv := ⟨_, rfl⟩
         rw [htv] at hta Hms
         rw [ep]
         clear hai hba hao htv ep hq0
         by_cases ht0 : tv < 0
         · have q1 : decide (tv < 0) = true := by simpa using ht0
           have He := kH (show T.miss tab (x.args.drop p) = (a : Int) from by rw [Hms.out, if_pos ht0])
           clear ht0
           go_wp2
           go_round
           case rel => exact ⟨p, by omega, rfl, by rw [He.out]⟩
           case measure => simp [intOf]
         · have q1 : decide (tv < 0) = false := by simpa using ht0
           have He := kH (show T.miss tab (x.args.drop p) = T.miss tab (x.args.drop (p + 1)) from by rw [Hms.out, if_neg ht0])
           clear ht0
           go_wp2
           go_round
           case rel => exact ⟨p, by omega, rfl, by rw [He.out]⟩
           case measure => simp [intOf]
       · obtain rfl : q = 0 := by omega
         rw [List.drop_zero]
         obtain ⟨ms, hms⟩ : ∃ ms, T.miss tab x.args = ms := ⟨_, rfl⟩
         have Hms := kH hms
         rw [hms]
         clear hq0 hms
         by_cases hm0 : 0 ≤ ms
         · have q1 : decide (0 ≤ ms) = true := by simpa using hm0
           have Hm0 := kH hm0
           have hst := HS1.out.stk
           simp only [List.length_cons] at hst
           have Hstk := kH hst
           have hSb : S.length + 1 ≤ 1000000000 := by omega
           clear hm0 hst
           go_wp2_with (at_builtin; refine wpList_append_one' rfl (.tmp 67) (.tmp 69) 60 rfl 3 (.int .i64 0) 8 Tryz.underlying60 infoI rfl _ (S.length + 1) _ rfl Hstk.out (.int .i64 ms) rfl 3 X1.heap.size rfl rfl hSb (by omega) ?_; intro v' w3 hown' hgr hat; have Hown' := kH hown'; have Hgr := kH hgr; have Hat := kH hat; clear hown' hgr hat)
           have hp := ShSt.push HS1.out Ho.out Hx.out (by rw [Hms.out]; exact Hm0.out) (by rw [Hms.out]; exact Hown'.out) (by rw [Hms.out]; exact Hgr.out) Hat.out
           rw [Hms.out] at hp
           have Hp := kH hp
           clear hp
           go_roundg (shMes t tab (ms.toNat :: nn :: S))
           case measure => rw [HgO.out]; exact Hp.out.2
           case rel => exact ⟨tab, _, out, rfl, kH Hp.out.1⟩
         · have q1 : decide (0 ≤ ms) = false := by simpa using hm0
           have Htold := kH (T.miss_none (tab := tab) (l := x.args) (fun a ha => (Hord.out a ha).1) (by rw [Hms.out]; omega))
           clear hm0
           have hcap : S.length + 1 ≤ c8 := by
            rcases HS1.out.stk.2 with ⟨e, _⟩ | ⟨g, off, cap, cur, e, _, h1, _⟩
            · cases e
            · cases e; exact h1
           have hcapi : (S.length : Int) ≤ (c8 : Int) := by omega
           have em : (S.length : Int) + 1 - 1 = (S.length : Int) := by omega
           obtain ⟨x0, x1, x2, _, x4⟩ := nd5_cells HrX.out
           go_upto_region 21 with (fail)
           obtain ⟨Y1, hY1⟩ : ∃ Y1, Y1 = X1.alloc (.cells #[.int .i64 x.op, .int .i64 x.w, .int .i64 x.fl, .slice none 0 0, .int .u32 x.imm] 62) := ⟨_, rfl⟩
           have Hb1y := kH (show Below X1.heap.size X1 Y1 from by rw [hY1]; exact al0)
           have HrY := kH (show Y1.heap[X1.heap.size]? = some (.cells #[.int .i64 x.op, .int .i64 x.w, .int .i64 x.fl, .slice none 0 0, .int .u32 x.imm] 62 (0, 0)) from by rw [hY1]; exact heap_alloc_new X1 _)
           rw [← hY1]
           clear hY1 em hcapi x0 x1 x2 x4
           go_wp2
           go_loopg [14] (L + 1) (fun gg i w4 => ∃ (jj : Nat) (Ay : Option Addr) (cy : Nat), jj ≤ L ∧ i = .int .i64 (jj : Int) ∧ gg + jj = L + 1 ∧ Hid (Below X1.heap.size X1 w4) ∧ Hid (w4.heap[X1.heap.size]? = some (.cells #[.int .i64 x.op, .int .i64 x.w, .int .i64 x.fl, .slice Ay jj cy, .int .u32 x.imm] 62 (0, 0))) ∧ Hid (OwnAt w4 3 1 (.slice Ay jj cy) jj (((x.args.take jj).map fun a => tab.getD a.toNat 0).map (Value.int .i64))) ∧ Hid (∀ g, (Value.slice Ay jj cy).ownBlock = some g → X1.heap.size + 1 ≤ g))
           case atStart => exact ⟨0, none, 0, Nat.zero_le _, rfl, rfl, Hb1y, HrY, kH (OwnAt.nil_ _ _ _), kH (fun g hg => by simp [Value.ownBlock] at hg)⟩
           case round =>
            obtain ⟨jj, Ay, cy, hjj, rfl, hgk, Hbw4, HrY4, Hya, Hyb⟩ := hrel
            have Hgk4 := kH hgk; clear hgk
            obtain ⟨w4, rfl⟩ : ∃ w, w = wr := ⟨_, rfl⟩
            by_cases hjl : jj < L
            · have HrX4 := kH ((Hbw4.out.block _ (gA HrX.out).1).trans HrX.out)
              have HS4 := kH (HS1.out.below Hbw4.out)
              obtain ⟨_, _, _, z3, _⟩ := nd5_cells HrX4.out
              obtain ⟨aI, ba, offa, ua, hai, rfl, hba, hca, rfl⟩ := (Hsx.out.below (monoInt _) Hbw4.out).at_ hjl
              have hao := Hord.out aI (List.mem_of_getElem? hai)
              obtain ⟨a, rfl⟩ : ∃ a : Nat, aI = a := ⟨aI.toNat, by omega⟩
              have haj : a < j := by omega
              have hta := HS4.out.tab_ (T.getD_some (d := 0) (show a < tab.length by rw [Htl.out]; exact haj))
              obtain ⟨tv, htv⟩ : ∃ tv, tab.getD a 0 = tv := ⟨_, rfl⟩
              rw [htv] at hta
              have Htk := kH (show ((x.args.take (jj + 1)).map fun a => tab.getD a.toNat 0).map (Value.int .i64) = (((x.args.take jj).map fun a => tab.getD a.toNat 0).map (Value.int .i64)) ++ [.int .i64 tv] from by
               rw [take_next hai, List.map_append, List.map_append]
               simp
               rw [← List.getD_eq_getElem?_getD]
               exact htv)
              obtain ⟨_, _, _, y3, _⟩ := nd5_cells HrY4.out
              have Hszy := kH (show X1.heap.size < w4.heap.size from (gA HrY4.out).1)
              have hl1 : wr2.heap.size < X1.heap.size + 1 := by have := HszX.out; omega
              have hl2 : ba < X1.heap.size + 1 := by
               obtain ⟨_, ba', _, _, _, eba, hba', _⟩ := Hsx.out.at_ hjl
               injection eba with eba
               injection eba with eba _ _
               omega
              have hl3 : W.heap.size < X1.heap.size + 1 := by have := (gA HS1.out.row).1; omega
              have HS := kH (show ∀ Y, Below (X1.heap.size + 1) w4 Y → Y.cell? ⟨X1.heap.size, 3, none⟩ = some (.slice Ay jj cy) ∧ Y.cell? ⟨wr2.heap.size, 3, none⟩ = some (.slice (some ⟨ba, offa, none⟩) L cx) ∧ Y.cell? ⟨ba, offa + jj, none⟩ = some (.int .i64 (a : Int)) ∧ Y.cell? ⟨W.heap.size, a, none⟩ = some (.int .i64 tv) from fun Y hY => ⟨(hY.cell (p := ⟨X1.heap.size, 3, none⟩) (Nat.lt_succ_self _)).trans y3, (hY.cell (p := ⟨wr2.heap.size, 3, none⟩) hl1).trans z3, (hY.cell (p := ⟨ba, offa + jj, none⟩) hl2).trans hca, (hY.cell (p := ⟨W.heap.size, a, none⟩) hl3).trans hta⟩)
              have HF4 := kH (show ∀ Y, Below (X1.heap.size + 1) w4 Y → Y.heap[X1.heap.size]? = some (.cells #[.int .i64 x.op, .int .i64 x.w, .int .i64 x.fl, .slice Ay jj cy, .int .u32 x.imm] 62 (0, 0)) from fun Y hY => (hY.block _ (Nat.lt_succ_self _)).trans HrY4.out)
              have hjb : jj + 1 ≤ 1000000000 := by omega
              clear hai hba hao htv y3 hca hta hl1 hl2 hl3
              go_wp2_with fail
              clear z3
              refine wp_region_split 13 (by kernel_rfl) (by kernel_rfl) ?_
              simp only [List.take_succ_cons, List.take_zero]
              refine wpAny_of_held (S := fun Y => Y.cell? ⟨X1.heap.size, 3, none⟩ = some (.slice Ay jj cy) ∧ Y.cell? ⟨wr2.heap.size, 3, none⟩ = some (.slice (some ⟨ba, offa, none⟩) L cx) ∧ Y.cell? ⟨ba, offa + jj, none⟩ = some (.int .i64 (a : Int)) ∧ Y.cell? ⟨W.heap.size, a, none⟩ = some (.int .i64 tv)) _ _ _ _ ?_
              have hHeld := HS.out w4.drew (Below.refl _ _).drew
              refine tk 0 ?_ hHeld (fun Y hY => ?_) ?_
              rotate_left
              · (go_simp) <;> with_reducible rfl
              try simp only [Act.put, yL]
              refine tk 1 ?_ hHeld (fun Y hY => ?_) ?_
              rotate_left
              · obtain ⟨y0, y1, y2, y3⟩ := hY
                (go_simp) <;> with_reducible rfl
              try simp only [Act.put, yL]
              refine tk 2 ?_ hHeld (fun Y hY => ?_) ?_
              rotate_left
              · (go_simp) <;> with_reducible rfl
              try simp only [Act.put, yL]
              refine tk 3 ?_ hHeld (fun Y hY => ?_) ?_
              rotate_left
              · (go_simp) <;> with_reducible rfl
              try simp only [Act.put, yL]
              refine tk 4 ?_ hHeld (fun Y hY => ?_) ?_
              rotate_left
              · obtain ⟨y0, y1, y2, y3⟩ := hY
                (go_simp) <;> with_reducible rfl
              try simp only [Act.put, yL]
              refine tk 5 ?_ hHeld (fun Y hY => ?_) ?_
              rotate_left
              · (go_simp) <;> with_reducible rfl
              try simp only [Act.put, yL]
              refine tk 6 ?_ hHeld (fun Y hY => ?_) ?_
              rotate_left
              · (go_simp) <;> with_reducible rfl
              try simp only [Act.put, yL]
              refine tk 7 ?_ hHeld (fun Y hY => ?_) ?_
              rotate_left
              · obtain ⟨y0, y1, y2, y3⟩ := hY
                (go_simp) <;> with_reducible rfl
              try simp only [Act.put, yL]
              refine tk 8 ?_ hHeld (fun Y hY => ?_) ?_
              rotate_left
              · (go_simp) <;> with_reducible rfl
              try simp only [Act.put, yL]
              refine tk 9 ?_ hHeld (fun Y hY => ?_) ?_
              rotate_left
              · obtain ⟨y0, y1, y2, y3⟩ := hY
                (go_simp) <;> with_reducible rfl
              try simp only [Act.put, yL]
              refine rd 10 (fun KK hKK => ?_)
              clear hHeld
              go_simp
              obtain ⟨X5, hX5⟩ : ∃ X5, X5 = (w4.alloc (.cells #[.int .i64 tv] 3)).drew := ⟨_, rfl⟩
              rw [← hX5]
              have hb5 : Below w4.heap.size w4 X5 := by rw [hX5]; exact (al0).drew
              have Hsz5 := kH (show X5.heap.size = w4.heap.size + 1 from by rw [hX5]; simp)
              have Hsrc := kH (show ∀ q u, [Value.int .i64 tv][q]? = some u → ∃ ad : Addr, (some (⟨w4.heap.size, 0, none⟩ : Addr)) = some ad ∧ X5.cell? (ad.add q) = some u from by rw [hX5]; exact fun q u hq => ⟨_, rfl, cell_one_new w4 _ _ q u hq⟩)
              have Hb5 := kH (show Below (X1.heap.size + 1) w4 X5 from hb5.mono (by have := Hszy.out; omega))
              have Hown5 := kH (Hya.out.below hb5 Hya.out.lt)
              clear hX5 hb5
              refine hKK.out _ _ (HS.out X5 Hb5.out) (fun hHeld => ?_)
              clear hKK KK
              try simp only [Act.put, yL]
              refine rd 11 (fun KK hKK => ?_)
              clear hHeld
              refine step_append_src X5 rfl (.tmp 93) (.tmp 102) 60 rfl 3 (.int .i64 0) 1 8 Tryz.underlying60 infoI rfl (by decide) (.slice Ay jj cy) jj _ rfl Hown5.out (some ⟨w4.heap.size, 0, none⟩) 1 1 [.int .i64 tv] rfl rfl Hsrc.out (by simp; rfl) hjb (by decide) ?_
              intro v6 w6 hown6 hgr6 hat6
              have Hb6 := kH (Hb5.out.grown hgr6 (by have := Hsz5.out; have := Hszy.out; omega) Hyb.out)
              refine hKK.out _ _ (HS.out w6 Hb6.out) (fun hHeld => ?_)
              clear hKK KK
              try simp only [Act.put, yL]
              obtain ⟨A6, c6, rfl⟩ := hown6.form
              have hr6 := HF4.out w6 Hb6.out
              obtain ⟨_, _, _, n3, _⟩ := nd5_cells hr6
              have nf : w6.frozen? ⟨X1.heap.size, 3, none⟩ = false := frozen_row hr6 _
              have Hvb := kH (show ∀ g, (Value.slice A6 (jj + 1) c6).ownBlock = some g → X1.heap.size + 1 ≤ g from fun g hg => by
               rcases hat6 with e | e
               · rw [e] at hg; exact Hyb.out g hg
               · rw [e] at hg; injection hg with hg; have := Hsz5.out; have := Hszy.out; omega)
              have Hr7 := kH (heap_setCell_same w6 X1.heap.size 3 _ _ (.slice A6 (jj + 1) c6) hr6)
              have Hown7 := kH (hown6.setCell (p := ⟨X1.heap.size, 3, none⟩) (fun e => by have := Hvb.out _ e; simp only at this; omega) (.slice A6 (jj + 1) c6))
              have Hb7 := kH ((Hbw4.out.trans (Hb6.out.mono (Nat.le_succ _))).setCell (p := ⟨X1.heap.size, 3, none⟩) (Nat.le_refl _) (.slice A6 (jj + 1) c6))
              rw [← Htk.out] at Hown7
              clear hr6 hat6 hown6 hgr6
              refine tk 12 ?_ hHeld (fun Y hY => ?_) ?_
              rotate_left
              · (go_simp) <;> with_reducible rfl
              try simp only [Act.put, yL]
              refine wpAnyH_done (by kernel_rfl) ?_ _
              clear hHeld
              go_wp2
              go_roundg (gk - 1)
              case measure => have := Hgk4.out; omega
              case rel =>
               have := Hgk4.out
               exact ⟨jj + 1, A6, c6, by omega, by go_num, by omega, Hb7, Hr7, Hown7, Hvb⟩
            · obtain rfl : jj = L := by omega
              have HS4 := kH (HS1.out.below Hbw4.out)
              obtain ⟨A5, c5, h5⟩ := HS4.out.own.form
              subst h5
              have hyl : (toldNd tab x).args.length = jj := by show (x.args.map _).length = jj; rw [List.length_map, HL.out]
              have Hyl := kH hyl
              have hya := Hya.out
              rw [List.take_of_length_le (by rw [HL.out]; exact Nat.le_refl _)] at hya
              have HYa := kH (show OwnAt w4 3 1 (.slice Ay jj cy) jj ((toldNd tab x).args.map (Value.int .i64)) from hya)
              have HySl := kH (show SlAt (IntR .i64) w4 Ay (toldNd tab x).args.length (toldNd tab x).args from by rw [hyl]; exact HYa.out.slInts)
              have HSame := kH (show ∀ (z : T.Nd) (Az : Option Addr) (cz : Nat) (u : World), Below w4.heap.size w4 u → SlAt (IntR .i64) u Az z.args.length z.args → Calls Tryz.prog 97 #[.agg #[.int .i64 z.op, .int .i64 z.w, .int .i64 z.fl, .slice Az z.args.length cz, .int .u32 z.imm], .agg #[.int .i64 x.op, .int .i64 x.w, .int .i64 x.fl, .slice Ay jj cy, .int .u32 x.imm]] u fun e w' => e = .returned (.bool (decide (z = toldNd tab x))) ∧ Below u.heap.size u w' from fun z Az cz u hu hz => by
               have := rsameNode_any (c := cz) (c' := cy) hz (HySl.out.below (monoInt _) hu)
               unfold ndV at this
               rw [hyl] at this
               exact this)
              have Hlo := kH (show out.length ≤ 100000 from by have := HS4.out.inv.sz; rw [Hlen.out] at this; omega)
              obtain ⟨tn, htn, htn0⟩ := HS4.out.inv.unt nn (by simp)
              have Htn := kH htn
              have q0 : decide (tn < 0) = true := by simpa using htn0
              have hlo : out.length ≤ 100000 := Hlo.out
              obtain ⟨_, _, _, z3, _⟩ := nd5_cells ((Hbw4.out.block _ (gA HrX.out).1).trans HrX.out)
              clear hyl hya htn htn0
              by_cases hyo : toldNd tab x ∈ out
              · have hix := List.idxOf_lt_length_of_mem hyo
                obtain ⟨ix, hixe⟩ : ∃ ix, out.idxOf (toldNd tab x) = ix := ⟨_, rfl⟩
                rw [hixe] at hix
                have Hix := kH hixe
                have Hyo := kH hyo
                have Hfnd := kH (show ∀ u, Below w4.heap.size w4 u → ShSt W t W.heap.size (T.canon f) (u.setCell ⟨W.heap.size, nn, none⟩ (.int .i64 (ix : Int))) (.slice A5 out.length c5) (.slice (some ⟨b8, off8, none⟩) S.length c8) (tab.set nn (ix : Int)) S out ∧ shMes t (tab.set nn (ix : Int)) S < shMes t tab (nn :: S) from fun u hu => by
                 have := (HS4.out.below hu).found rfl Ho.out Hx.out Htold.out Hyo.out
                 rw [Hix.out] at this
                 exact this)
                clear hyo hixe
                go_wp2
                clear z3
                go_loopg [15] (out.length + 2) (fun gg i w5 => ∃ q : Nat, i = .int .i64 (q : Int) ∧ gg + q = out.length + 2 ∧ ((q ≤ ix ∧ Hid (Below w4.heap.size w4 w5)) ∨ (q = ix + 1 ∧ Hid (∃ u, Below w4.heap.size w4 u ∧ w5 = u.setCell ⟨W.heap.size, nn, none⟩ (.int .i64 (ix : Int))))))
                case atStart => exact ⟨0, rfl, rfl, .inl ⟨Nat.zero_le _, kH (Below.refl _ _)⟩⟩
                case round =>
                 obtain ⟨q, rfl, hgk, hcase⟩ := hrel
                 have Hgk5 := kH hgk; clear hgk
                 obtain ⟨w5, rfl⟩ : ∃ w, w = wr := ⟨_, rfl⟩
                 rcases hcase with ⟨hqi, Hbw5⟩ | ⟨rfl, Hu⟩
                 · have HS5 := kH (HS4.out.below Hbw5.out)
                   have hql : q < out.length := by omega
                   have htc := HS5.out.tab_ Htn.out
                   obtain ⟨z, bz, offz, Az, cz, hz, hA5, hbz, d0, d1, d2, d3, d4, hsz, j0, j1⟩ := nd_cells (HS5.out.own.stAt (ndX_rel _ _) rfl) hql
                   subst hA5
                   have hr5 := (Hbw5.out.block _ (gA HrY4.out).1).trans HrY4.out
                   obtain ⟨e0, e1, e2, e3, e4⟩ := nd5_cells hr5
                   have Hsz := kH hsz
                   have Hz := kH hz
                   obtain ⟨rr, hrr⟩ : ∃ rr, decide (z = toldNd tab x) = rr := ⟨_, rfl⟩
                   have Hrr := kH hrr
                   obtain ⟨ov⟩ := ov_ex w5
                   have HQ := kH (fun u => calls_over (ov := ov) (HSame.out z Az cz (ov.f u) (Hbw5.out.trans ((ov.below u).mono Hbw5.out.size)) (Hsz.out.below (monoInt _) (ov.below u))))
                   rw [hrr] at HQ
                   have o0 := ov.cell d0
                   have o1 := ov.cell d1
                   have o2 := ov.cell d2
                   have o3 := ov.cell d3
                   have o4 := ov.cell d4
                   have p0 := ov.cell e0
                   have p1 := ov.cell e1
                   have p2 := ov.cell e2
                   have p3 := ov.cell e3
                   have p4 := ov.cell e4
                   clear hz hbz hsz j0 j1 hr5 hrr d0 d1 d2 d3 d4 e0 e1 e2 e3 e4
                   by_cases hqx : q = ix
                   · have hrt : rr = true := by
                      rw [← Hrr.out, decide_eq_true_eq]
                      have h1 := Hz.out
                      rw [hqx, ← Hix.out, List.getElem?_eq_getElem (by rw [Hix.out]; exact hix)] at h1
                      simpa using h1.symm
                     subst hrt
                     subst hqx
                     go_wp2
                     refine wp_region_ovq ov (by kernel_rfl) (by kernel_rfl) ?_
                     repeat (go_big_quiet_step ((go_at_call 97; with_reducible exact HQ.out _)))
                     refine wpQuiet_nil ?_
                     rintro _ ⟨u, rfl⟩
                     have Hb6 := kH (Hbw5.out.trans ((ov.below u).mono Hbw5.out.size))
                     clear o0 o1 o2 o3 o4 p0 p1 p2 p3 p4 htc
                     generalize ov.f u = w6 at *
                     have hs6 := HS4.out.below Hb6.out
                     have htc := hs6.tab_ Htn.out
                     have htf : w6.frozen? ⟨W.heap.size, nn, none⟩ = false := frozen_row hs6.row _
                     clear hs6
                     go_wp2
                     go_roundg (gk - 1)
                     case measure => have := Hgk5.out; omega
                     case rel =>
                      have := Hgk5.out
                      exact ⟨q + 1, by go_num, by omega, .inr ⟨rfl, kH ⟨w6, Hb6.out, rfl⟩⟩⟩
                   · have hrf : rr = false := by
                      rw [← Hrr.out, decide_eq_false_iff_not]
                      intro e
                      have h1 := Hz.out
                      rw [e] at h1
                      have h2 := List.idxOf_lt_length_of_mem Hyo.out
                      have h3 : out.idxOf (toldNd tab x) = q := T.idx_at HS4.out.inv.nd h1 |>.2
                      rw [Hix.out] at h3
                      exact hqx h3.symm
                     subst hrf
                     go_wp2
                     refine wp_region_ovq ov (by kernel_rfl) (by kernel_rfl) ?_
                     repeat (go_big_quiet_step ((go_at_call 97; with_reducible exact HQ.out _)))
                     refine wpQuiet_nil ?_
                     rintro _ ⟨u, rfl⟩
                     have Hb6 := kH (Hbw5.out.trans ((ov.below u).mono Hbw5.out.size))
                     clear o0 o1 o2 o3 o4 p0 p1 p2 p3 p4 htc
                     generalize ov.f u = w6 at *
                     go_wp2
                     go_roundg (gk - 1)
                     case measure => have := Hgk5.out; omega
                     case rel =>
                      have := Hgk5.out
                      exact ⟨q + 1, by go_num, by omega, .inl ⟨by omega, Hb6⟩⟩
                 · obtain ⟨u, hu, rfl⟩ := Hu.out
                   have hfs := Hfnd.out u hu
                   have Hfs := kH hfs
                   have htc := hfs.1.tab_ (k := nn) (v := (ix : Int)) (by
                    have hnt : nn < tab.length := by rw [Htl.out]; exact hnn
                    rw [List.getElem?_set, if_pos rfl, if_pos hnt])
                   have q1 : decide ((ix : Int) < 0) = false := by simp
                   clear hfs hu
                   by_cases hlast : ix + 1 < out.length
                   · have q2 : decide ((ix : Int) + 1 < (out.length : Int)) = true := by simp; omega
                     have q3 : decide (ix + 1 < out.length) = true := by simp; omega
                     clear hlast
                     go_wp2
                     go_roundg (shMes t (tab.set nn (ix : Int)) S)
                     case measure => rw [HgO.out]; exact Hfs.out.2
                     case rel => exact ⟨_, S, out, rfl, kH Hfs.out.1⟩
                   · have q2 : decide ((ix : Int) + 1 < (out.length : Int)) = false := by simp; omega
                     have q3 : decide (ix + 1 < out.length) = false := by simp; omega
                     clear hlast
                     go_wp2
                     go_roundg (shMes t (tab.set nn (ix : Int)) S)
                     case measure => rw [HgO.out]; exact Hfs.out.2
                     case rel => exact ⟨_, S, out, rfl, kH Hfs.out.1⟩
              · have Hyo := kH hyo
                clear hyo
                go_wp2
                clear z3
                go_loopg [15] (out.length + 1) (fun gg i w5 => ∃ q : Nat, q ≤ out.length ∧ i = .int .i64 (q : Int) ∧ gg + q = out.length + 1 ∧ Hid (Below w4.heap.size w4 w5))
                case atStart => exact ⟨0, Nat.zero_le _, rfl, rfl, kH (Below.refl _ _)⟩
                case round =>
                 obtain ⟨q, hq, rfl, hgk, Hbw5⟩ := hrel
                 have Hgk5 := kH hgk; clear hgk
                 obtain ⟨w5, rfl⟩ : ∃ w, w = wr := ⟨_, rfl⟩
                 have HS5 := kH (HS4.out.below Hbw5.out)
                 have htc := HS5.out.tab_ Htn.out
                 by_cases hql : q < out.length
                 · obtain ⟨z, bz, offz, Az, cz, hz, hA5, hbz, d0, d1, d2, d3, d4, hsz, j0, j1⟩ := nd_cells (HS5.out.own.stAt (ndX_rel _ _) rfl) hql
                   subst hA5
                   have hr5 := (Hbw5.out.block _ (gA HrY4.out).1).trans HrY4.out
                   obtain ⟨e0, e1, e2, e3, e4⟩ := nd5_cells hr5
                   have Hsz := kH hsz
                   have hrr : decide (z = toldNd tab x) = false := by
                    rw [decide_eq_false_iff_not]
                    intro e
                    rw [e] at hz
                    exact Hyo.out (List.mem_of_getElem? hz)
                   obtain ⟨ov⟩ := ov_ex w5
                   have HQ := kH (fun u => calls_over (ov := ov) (HSame.out z Az cz (ov.f u) (Hbw5.out.trans ((ov.below u).mono Hbw5.out.size)) (Hsz.out.below (monoInt _) (ov.below u))))
                   rw [hrr] at HQ
                   have o0 := ov.cell d0
                   have o1 := ov.cell d1
                   have o2 := ov.cell d2
                   have o3 := ov.cell d3
                   have o4 := ov.cell d4
                   have p0 := ov.cell e0
                   have p1 := ov.cell e1
                   have p2 := ov.cell e2
                   have p3 := ov.cell e3
                   have p4 := ov.cell e4
                   clear hz hbz hsz j0 j1 hr5 hrr d0 d1 d2 d3 d4 e0 e1 e2 e3 e4
                   go_wp2
                   refine wp_region_ovq ov (by kernel_rfl) (by kernel_rfl) ?_
                   repeat (go_big_quiet_step ((go_at_call 97; with_reducible exact HQ.out _)))
                   refine wpQuiet_nil ?_
                   rintro _ ⟨u, rfl⟩
                   have Hb6 := kH (Hbw5.out.trans ((ov.below u).mono Hbw5.out.size))
                   clear o0 o1 o2 o3 o4 p0 p1 p2 p3 p4 htc
                   generalize ov.f u = w6 at *
                   go_wp2
                   go_roundg (gk - 1)
                   case measure => have := Hgk5.out; omega
                   case rel =>
                    have := Hgk5.out
                    exact ⟨q + 1, by omega, by go_num, by omega, Hb6⟩
                 · obtain rfl : q = out.length := by omega
                   have htf : w5.frozen? ⟨W.heap.size, nn, none⟩ = false := frozen_row HS5.out.row _
                   obtain ⟨s1, s2, s3, s4⟩ := HS5.out.set nn (.int .i64 (out.length : Int))
                   obtain ⟨Z5, hZ5⟩ : ∃ Z5, Z5 = w5.setCell ⟨W.heap.size, nn, none⟩ (.int .i64 (out.length : Int)) := ⟨_, rfl⟩
                   rw [← hZ5] at s1 s2 s3 s4
                   have hxg : X1.heap.size ≠ W.heap.size := by have := (gA HS1.out.row).1; omega
                   have hrz : Z5.heap[X1.heap.size]? = some (.cells #[.int .i64 x.op, .int .i64 x.w, .int .i64 x.fl, .slice Ay jj cy, .int .u32 x.imm] 62 (0, 0)) := by
                    rw [hZ5, heap_setCell_other _ _ _ _ hxg]
                    exact (Hbw5.out.block _ (gA HrY4.out).1).trans HrY4.out
                   obtain ⟨e0, e1, e2, e3, e4⟩ := nd5_cells hrz
                   have Hs1 := kH s1
                   have hyn := HYa.out.below Hbw5.out HYa.out.lt
                   have Hnd := kH (show NdX W.heap.size (fun i => i = W.heap.size ∨ (Value.slice (some ⟨b8, off8, none⟩) (S.length + 1) c8).ownBlock = some i) Z5 (ndC (toldNd tab x) Ay cy) (toldNd tab x) from by
                    refine ⟨Ay, cy, rfl, ?_, Hi.out.1, Hi.out.2, fun g hg => ?_⟩
                    · rw [Hyl.out, hZ5]
                      refine hyn.setCell (p := ⟨W.heap.size, nn, none⟩) (fun e => ?_) _
                      have := Hyb.out _ e
                      have h2 := (gA HS1.out.row).1
                      simp only at this
                      omega
                    · rw [own_pop Ay _ jj] at hg
                      have h1 := Hyb.out g hg
                      have h2 := (gA HS1.out.row).1
                      have h3 : b8 < X1.heap.size := HS1.out.stk.lt b8 rfl
                      refine ⟨by omega, fun h => ?_⟩
                      rcases h with h | h
                      · omega
                      · simp [Value.ownBlock] at h
                        omega)
                   have Hzs := kH (show W.heap.size ≤ Z5.heap.size from s2.size)
                   have Hus := kH (show (ndC (toldNd tab x) Ay cy).toArray = #[.int .i64 x.op, .int .i64 x.w, .int .i64 x.fl, .slice Ay jj cy, .int .u32 x.imm] from by
                    show (#[.int .i64 x.op, .int .i64 x.w, .int .i64 x.fl, .slice Ay (toldNd tab x).args.length cy, .int .u32 x.imm] : Array Value) = _
                    rw [Hyl.out])
                   have Hfr := kH (show ∀ v' w', OwnR (NdX W.heap.size (fun i => i = W.heap.size ∨ (Value.slice (some ⟨b8, off8, none⟩) (S.length + 1) c8).ownBlock = some i)) W.heap.size w' v' (out ++ [toldNd tab x]) → (Z5.alloc (.cells (ndC (toldNd tab x) Ay cy).toArray 62)).grownBy w' (Value.slice A5 out.length c5).ownBlock → ShSt W t W.heap.size (T.canon f) w' v' (.slice (some ⟨b8, off8, none⟩) S.length c8) (tab.set nn (out.length : Int)) S (out ++ [toldNd tab x]) ∧ shMes t (tab.set nn (out.length : Int)) S < shMes t tab (nn :: S) from fun v' w' h1 h2 => by
                    rw [hZ5] at h2
                    exact HS5.out.fresh rfl Ho.out Hx.out Htold.out Hyo.out h1 h2)
                   rw [hZ5] at e0 e1 e2 e3 e4
                   have HZ5 := kH hZ5
                   have Hps := kH (show w5.heap.size = Z5.heap.size from by rw [hZ5]; simp)
                   have q3 : decide ((out.length : Int) < (out.length : Int)) = false := by simp
                   clear s1 s2 s3 s4 hrz hyn hZ5 hxg
                   go_wp2_with (at_builtin; rw [← HZ5.out, ← Hus.out]; refine wpList_append_nodeR2 (ndX_rel W.heap.size _) rfl (.tmp 138) (.tmp 140) rfl _ out rfl Hs1.out (ndC (toldNd tab x) Ay cy) (toldNd tab x) Hnd.out w5.heap.size Hps.out rfl (by omega) Hzs.out ?_; intro v' w7 hown' hgr; have Hfin := kH (Hfr.out v' w7 hown' hgr); clear hown' hgr)
                   go_roundg (shMes t (tab.set nn (out.length : Int)) S)
                   case measure => rw [HgO.out]; exact Hfin.out.2
                   case rel => exact ⟨_, S, _, rfl, kH Hfin.out.1⟩
end
end Go.Proofs.YtbiopedpceddeaaGreatDoor
