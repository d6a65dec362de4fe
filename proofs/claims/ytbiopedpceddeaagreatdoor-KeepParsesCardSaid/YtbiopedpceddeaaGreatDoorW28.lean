/- Merged: C4KE3, C4KE4. -/
import Derived.Test.YtbiopedpceddeaaGreatDoorW27
import Derived.Lib.Strings
import Derived.Test.YtbiopedpceddeaaGreatDoorW13
import Derived.Test.YtbiopedpceddeaaGreatDoorW17
set_option linter.unusedVariables false
set_option linter.unusedSimpArgs false
section
namespace Go.Proofs.YtbiopedpceddeaaGreatDoor
open Go.RowKit Go.Maps Go.Lib
set_option linter.unusedVariables false
set_option linter.unusedSimpArgs false
namespace KT
theorem tl_jn (c : UInt8) {l : List (List UInt8)} (h : l ≠ []) : tl c l = c :: jn c l := by
  cases l with
  | nil => exact absurd rfl h
  | cons x l => rw [jn_tl]; simp [tl]

theorem ext_tail (c : UInt8) (l : List UInt8) : (⟨(c :: l).toArray⟩ : ByteArray).extract 1 (l.length + 1) = ⟨l.toArray⟩ := by
  have h := Lib.extract_toList ⟨(c :: l).toArray⟩ 1 (l.length + 1)
  rw [ByteArray.toList_eq] at h
  rw [← Lib.mk_data (ByteArray.extract _ _ _), h]
  simp

set_option maxRecDepth 100000 in
set_option maxHeartbeats 4000000 in
theorem rtext_any {r : R.Rl} {nl cl nr cr np cp : Nat} {AL AR AP : Option Addr} {W : World} (hR : RlAt W r nl nr np AL AR AP) (hT : Tens W) (hnl : nl ≤ 100) (hnr : nr ≤ 100) (hnp : np ≤ 100) (hL : ∀ x ∈ r.left, NdI x) (hQ : ∀ x ∈ r.right, NdI x) (hP : ∀ c ∈ r.pre, CdI c) :
    Calls Tryz.prog 74 #[.agg #[.slice AL nl cl, .slice AR nr cr, .slice AP np cp]] W fun e w' => e = .returned (.string ⟨(textW r).toArray⟩) ∧ Below W.heap.size W w' := by
  obtain ⟨W1, hW1⟩ : ∃ W1, W1 = W.alloc (.cells #[.slice AL nl cl, .slice AR nr cr, .slice AP np cp] 33) := ⟨_, rfl⟩
  have hb1 : Below W.heap.size W W1 := by rw [hW1]; exact (Below.refl _ _).alloc (Nat.le_refl _) _
  have hrow : W1.heap[W.heap.size]? = some (.cells #[.slice AL nl cl, .slice AR nr cr, .slice AP np cp] 33 (0, 0)) := by rw [hW1]; exact heap_alloc_new W _
  have HB1 := Lib.hid hb1
  have HR := Lib.hid (fun X (h : Below W1.heap.size W1 X) => (hR.below hb1).below h)
  have HT := Lib.hid (fun X (h : Below W1.heap.size W1 X) => (hT.below hb1).below h)
  have Hrow := Lib.hid (fun (X : World) (h : Below W1.heap.size W1 X) => (h.block _ (Array.getElem?_eq_some_iff.1 hrow).1).trans hrow)
  have HL := Lib.hid hL
  have HQ := Lib.hid hQ
  have HP := Lib.hid hP
  have Hll := Lib.hid hR.sl.len
  have Hlr := Lib.hid hR.sr.len
  have Hlp := Lib.hid hR.sp.len
  have Hw1 := Lib.hid (show ∀ y ∈ r.left.map nodeW, y.length ≤ 200 from fun y hy => by obtain ⟨x, hx, rfl⟩ := List.mem_map.1 hy; exact nodeW_len (hL x hx))
  have Hw2 := Lib.hid (show ∀ y ∈ r.right.map nodeW, y.length ≤ 200 from fun y hy => by obtain ⟨x, hx, rfl⟩ := List.mem_map.1 hy; exact nodeW_len (hQ x hx))
  have Hw3 := Lib.hid (show ∀ y ∈ r.pre.map condW, y.length ≤ 200 from fun y hy => by obtain ⟨x, hx, rfl⟩ := List.mem_map.1 hy; exact condW_len (hP x hx))
  have HW1 := Lib.hid hW1
  have Hb0 := Lib.hid (Below.refl W1.heap.size W1)
  obtain ⟨c0, c1, c2, _⟩ := rl_cells hrow
  clear hR hT hL hQ hP hb1 hrow hW1
  go_enter Tryz.func74, Tryz.ntmps74
  go_upto_region 1 with (fail)
  rw [← HW1.out]
  clear c0 c1 c2
  go_wp2_with fail
  have HC0 := Lib.hid (show (tl 32 ([] : List (List UInt8))).length ≤ 0 from by simp [tl])
  go_loopg [3, 4] (nl + 1) (fun gg s3 si wr => ∃ j : Nat, j ≤ nl ∧ s3 = .string ⟨(tl 32 (([] : List (List UInt8)) ++ (r.left.take j).map nodeW)).toArray⟩ ∧ si = .int .i64 (j : Int) ∧ gg + j = nl + 1 ∧ Hid (Below W1.heap.size W1 wr))
  case atStart => exact ⟨0, Nat.zero_le _, (by first | rfl | simp [tl] | (rw [List.take_zero, List.map_nil, List.append_nil])), rfl, by omega, Hb0⟩
  case round =>
    obtain ⟨j, hj, rfl, rfl, hgk, Hb⟩ := hrel
    have Hgk := Lib.hid hgk
    clear hgk
    obtain ⟨d0, d1, d2, _⟩ := rl_cells (Hrow.out _ Hb.out)
    obtain ⟨t, ht⟩ : ∃ t, t = tl 32 (([] : List (List UInt8)) ++ (r.left.take j).map nodeW) := ⟨_, rfl⟩
    have Ht := Lib.hid ht
    have htl : t.length ≤ 0 + 100 * 201 := by
      rw [ht, show tl 32 (([] : List (List UInt8)) ++ (r.left.take j).map nodeW) = tl 32 (([] : List (List UInt8))) ++ tl 32 ((r.left.take j).map nodeW) from by simp [tl], List.length_append]
      have h1 := tl_len (c := 32) (l := (r.left.take j).map nodeW) (k := 200) (fun y hy => Hw1.out y (by rw [List.map_take] at hy; exact List.mem_of_mem_take hy))
      rw [List.length_map, List.length_take] at h1
      have h2 : (tl 32 (([] : List (List UInt8)))).length ≤ 0 := HC0.out
      have h3 : min j r.left.length ≤ 100 := by omega
      omega
    rw [← ht]
    clear ht
    by_cases hjn : j < nl
    · obtain ⟨x, b, off, A, c, hx, hAe, hb, c0, c1, c2, c3, c4, hsl, i0, i1⟩ := nd_cells (HR.out _ Hb.out).sl hjn
      subst hAe
      have Hx := Lib.hid hx
      have Hxi := Lib.hid (HL.out x (List.mem_of_getElem? hx))
      obtain ⟨i, hi⟩ : ∃ i, i = nodeW x := ⟨_, rfl⟩
      have hil : i.length ≤ 200 := by rw [hi]; exact nodeW_len Hxi.out
      have Hi := Lib.hid hi
      have Hnt := Lib.hid (by have h := rnode_any (c := c) Hxi.out hsl (HT.out _ Hb.out); rw [← hi] at h; exact h)
      have n1 : ¬ 9223372036854775807 < t.length + 1 := by omega
      have n2 : ¬ 9223372036854775807 < t.length + 1 + i.length := by omega
      have n2' : ¬ 9223372036854775807 < t.length + (i.length + 1) := by omega
      have m1 := ByteArray.mk_append_mk t [32]
      have m2 := ByteArray.mk_append_mk (t ++ [32]) i
      clear hx hi hsl hb i0 i1
      go_wp2_with fail
      (with_reducible refine Hnt.out.mono ?_)
      rintro e w9 ⟨rfl, hb9⟩
      have Hb9 := Lib.hid (Hb.out.trans (hb9.mono Hb.out.size))
      clear hb9 Hnt c0 c1 c2 c3 c4 d0 d1 d2
      go_wp2
      go_roundg (gk - 1)
      case measure => have := Hgk.out; omega
      case rel =>
        have := Hgk.out
        refine ⟨j + 1, by omega, ?_, by go_num, by omega, Hb9⟩
        rw [List.take_add_one, Hx.out, List.map_append, ← List.append_assoc]
        simp only [Option.toList_some, List.map_cons, List.map_nil]
        rw [tl_snoc, ← Ht.out, Hi.out]
    · obtain rfl : nl = j := by omega
      have HtB := Lib.hid (show t = tl 32 (([] : List (List UInt8)) ++ r.left.map nodeW) from by
        rw [Ht.out, List.take_of_length_le (by rw [Hll.out]; exact Nat.le_refl _)])
      clear Ht
      have n1 : ¬ 9223372036854775807 < t.length + 3 := by omega
      have m1 := ByteArray.mk_append_mk t [32, 61, 62]
      have Hcap := Lib.hid htl
      obtain ⟨p1, hp1⟩ : ∃ p1, p1 = ([] ++ r.left.map nodeW ++ [[61, 62]] : List (List UInt8)) := ⟨_, rfl⟩
      have Hp1 := Lib.hid hp1
      have Ht1 := Lib.hid (show t ++ [32, 61, 62] = tl 32 p1 from by rw [hp1, tl_snoc, ← HtB.out])
      have HC20200 := Lib.hid (show (tl 32 p1).length ≤ 20200 from by rw [← Ht1.out, List.length_append]; have := Hcap.out; simp; omega)
      clear hp1
      go_wp2_with fail
      go_loopg [3, 5] (nr + 1) (fun gg s3 si wr => ∃ j : Nat, j ≤ nr ∧ s3 = .string ⟨(tl 32 (p1 ++ (r.right.take j).map nodeW)).toArray⟩ ∧ si = .int .i64 (j : Int) ∧ gg + j = nr + 1 ∧ Hid (Below W1.heap.size W1 wr))
      case atStart => exact ⟨0, Nat.zero_le _, (by rw [List.take_zero, List.map_nil, List.append_nil, ← Ht1.out]), rfl, by omega, Hb⟩
      case round =>
        obtain ⟨j, hj, rfl, rfl, hgk, Hb⟩ := hrel
        have Hgk := Lib.hid hgk
        clear hgk
        obtain ⟨d0, d1, d2, _⟩ := rl_cells (Hrow.out _ Hb.out)
        obtain ⟨t, ht⟩ : ∃ t, t = tl 32 (p1 ++ (r.right.take j).map nodeW) := ⟨_, rfl⟩
        have Ht := Lib.hid ht
        have htl : t.length ≤ 20200 + 100 * 201 := by
          rw [ht, show tl 32 (p1 ++ (r.right.take j).map nodeW) = tl 32 (p1) ++ tl 32 ((r.right.take j).map nodeW) from by simp [tl], List.length_append]
          have h1 := tl_len (c := 32) (l := (r.right.take j).map nodeW) (k := 200) (fun y hy => Hw2.out y (by rw [List.map_take] at hy; exact List.mem_of_mem_take hy))
          rw [List.length_map, List.length_take] at h1
          have h2 : (tl 32 (p1)).length ≤ 20200 := HC20200.out
          have h3 : min j r.right.length ≤ 100 := by omega
          omega
        rw [← ht]
        clear ht
        by_cases hjn : j < nr
        · obtain ⟨x, b, off, A, c, hx, hAe, hb, c0, c1, c2, c3, c4, hsl, i0, i1⟩ := nd_cells (HR.out _ Hb.out).sr hjn
          subst hAe
          have Hx := Lib.hid hx
          have Hxi := Lib.hid (HQ.out x (List.mem_of_getElem? hx))
          obtain ⟨i, hi⟩ : ∃ i, i = nodeW x := ⟨_, rfl⟩
          have hil : i.length ≤ 200 := by rw [hi]; exact nodeW_len Hxi.out
          have Hi := Lib.hid hi
          have Hnt := Lib.hid (by have h := rnode_any (c := c) Hxi.out hsl (HT.out _ Hb.out); rw [← hi] at h; exact h)
          have n1 : ¬ 9223372036854775807 < t.length + 1 := by omega
          have n2 : ¬ 9223372036854775807 < t.length + 1 + i.length := by omega
          have n2' : ¬ 9223372036854775807 < t.length + (i.length + 1) := by omega
          have m1 := ByteArray.mk_append_mk t [32]
          have m2 := ByteArray.mk_append_mk (t ++ [32]) i
          clear hx hi hsl hb i0 i1
          go_wp2_with fail
          (with_reducible refine Hnt.out.mono ?_)
          rintro e w9 ⟨rfl, hb9⟩
          have Hb9 := Lib.hid (Hb.out.trans (hb9.mono Hb.out.size))
          clear hb9 Hnt c0 c1 c2 c3 c4 d0 d1 d2
          go_wp2
          go_roundg (gk - 1)
          case measure => have := Hgk.out; omega
          case rel =>
            have := Hgk.out
            refine ⟨j + 1, by omega, ?_, by go_num, by omega, Hb9⟩
            rw [List.take_add_one, Hx.out, List.map_append, ← List.append_assoc]
            simp only [Option.toList_some, List.map_cons, List.map_nil]
            rw [tl_snoc, ← Ht.out, Hi.out]
        · obtain rfl : nr = j := by omega
          have HtB := Lib.hid (show t = tl 32 (p1 ++ r.right.map nodeW) from by
            rw [Ht.out, List.take_of_length_le (by rw [Hlr.out]; exact Nat.le_refl _)])
          clear Ht
          have n1 : ¬ 9223372036854775807 < t.length + 3 := by omega
          have m1 := ByteArray.mk_append_mk t [32, 105, 102]
          have Hcap2 := Lib.hid htl
          obtain ⟨p2, hp2⟩ : ∃ p2, p2 = p1 ++ r.right.map nodeW ++ [[105, 102]] := ⟨_, rfl⟩
          have Hp2 := Lib.hid hp2
          have Ht2 := Lib.hid (show t ++ [32, 105, 102] = tl 32 p2 from by rw [hp2, tl_snoc, ← HtB.out])
          have HC40400 := Lib.hid (show (tl 32 p2).length ≤ 40400 from by rw [← Ht2.out, List.length_append]; have := Hcap2.out; simp; omega)
          clear hp2
          go_wp2_with fail
          go_loopg [3, 6] (np + 1) (fun gg s3 si wr => ∃ j : Nat, j ≤ np ∧ s3 = .string ⟨(tl 32 (p2 ++ (r.pre.take j).map condW)).toArray⟩ ∧ si = .int .i64 (j : Int) ∧ gg + j = np + 1 ∧ Hid (Below W1.heap.size W1 wr))
          case atStart => exact ⟨0, Nat.zero_le _, (by rw [List.take_zero, List.map_nil, List.append_nil, ← Ht2.out]), rfl, by omega, Hb⟩
          case round =>
            obtain ⟨j, hj, rfl, rfl, hgk, Hb⟩ := hrel
            have Hgk := Lib.hid hgk
            clear hgk
            obtain ⟨d0, d1, d2, _⟩ := rl_cells (Hrow.out _ Hb.out)
            obtain ⟨t, ht⟩ : ∃ t, t = tl 32 (p2 ++ (r.pre.take j).map condW) := ⟨_, rfl⟩
            have Ht := Lib.hid ht
            have htl : t.length ≤ 40400 + 100 * 201 := by
              rw [ht, show tl 32 (p2 ++ (r.pre.take j).map condW) = tl 32 p2 ++ tl 32 ((r.pre.take j).map condW) from by simp [tl], List.length_append]
              have h1 := tl_len (c := 32) (l := (r.pre.take j).map condW) (k := 200) (fun y hy => Hw3.out y (by rw [List.map_take] at hy; exact List.mem_of_mem_take hy))
              rw [List.length_map, List.length_take] at h1
              have h2 : (tl 32 p2).length ≤ 40400 := HC40400.out
              have h3 : min j r.pre.length ≤ 100 := by omega
              omega
            rw [← ht]
            clear ht
            by_cases hjn : j < np
            · obtain ⟨x, b, off, hx, hAe, hb, c0, c1, c2, i0, i1⟩ := cd_cells (HR.out _ Hb.out).sp hjn
              subst hAe
              have Hx := Lib.hid hx
              have hxi := HP.out x (List.mem_of_getElem? hx)
              obtain ⟨w8, hw8⟩ : ∃ w8, w8 = wr.alloc (.cells #[.int .i64 x.kind, .int .i64 x.hole, .int .u32 x.imm] 88) := ⟨_, rfl⟩
              have hb8 : Below wr.heap.size wr w8 := by rw [hw8]; exact (Below.refl _ _).alloc (Nat.le_refl _) _
              have hr8 : w8.heap[wr.heap.size]? = some (.cells #[.int .i64 x.kind, .int .i64 x.hole, .int .u32 x.imm] 88 (0, 0)) := by rw [hw8]; exact heap_alloc_new wr _
              have Hb8 := Lib.hid (show Below W1.heap.size W1 w8 from Hb.out.trans (hb8.mono Hb.out.size))
              obtain ⟨r0, r1, r2, _⟩ := rl_cells hr8
              obtain ⟨sa, hsa⟩ : ∃ s, s = itoa x.kind := ⟨_, rfl⟩
              obtain ⟨sb, hsb⟩ : ∃ s, s = itoa x.hole := ⟨_, rfl⟩
              obtain ⟨sd, hsd⟩ : ∃ s, s = itoa x.imm := ⟨_, rfl⟩
              have ha : sa.length ≤ 20 := by rw [hsa]; exact itoa_len hxi.kind
              have hb' : sb.length ≤ 20 := by rw [hsb]; exact itoa_len hxi.hole
              have hd : sd.length ≤ 20 := by rw [hsd]; exact itoa_len ⟨by omega, by omega⟩
              obtain ⟨s0, hs0⟩ : ∃ s, s = t ++ [32] := ⟨_, rfl⟩
              obtain ⟨s1, hs1⟩ : ∃ s, s = s0 ++ sa := ⟨_, rfl⟩
              obtain ⟨s2, hs2⟩ : ∃ s, s = s1 ++ [46] := ⟨_, rfl⟩
              obtain ⟨s3, hs3⟩ : ∃ s, s = s2 ++ sb := ⟨_, rfl⟩
              obtain ⟨s4, hs4⟩ : ∃ s, s = s3 ++ [46] := ⟨_, rfl⟩
              obtain ⟨s5, hs5⟩ : ∃ s, s = s4 ++ sd := ⟨_, rfl⟩
              have l0 : s0.length ≤ 60501 := by rw [hs0, List.length_append]; simp; omega
              have l1 : s1.length ≤ 60521 := by rw [hs1, List.length_append]; omega
              have l2 : s2.length ≤ 60522 := by rw [hs2, List.length_append]; simp; omega
              have l3 : s3.length ≤ 60542 := by rw [hs3, List.length_append]; omega
              have l4 : s4.length ≤ 60543 := by rw [hs4, List.length_append]; simp; omega
              have H0 := Lib.hid hs0
              have H1 := Lib.hid hs1
              have H2 := Lib.hid hs2
              have H3 := Lib.hid hs3
              have H4 := Lib.hid hs4
              have H5 := Lib.hid hs5
              have HcW := Lib.hid (show s5 = t ++ 32 :: condW x from by unfold condW; rw [hs5, hs4, hs3, hs2, hs1, hs0, hsa, hsb, hsd]; simp [jn])
              have hwi : IntKind.u64.wrap x.imm = x.imm := by rw [IntKind.wrap_u64]; omega
              obtain ⟨ov⟩ := ov_ex w8
              have o0 := ov.cell r0
              have o1 := ov.cell r1
              have o2 := ov.cell r2
              have HI1 := Lib.hid (fun u => calls_over (by have h := kItoa_any hxi.kind (HT.out _ (Hb8.out.trans ((ov.below u).mono Hb8.out.size))); rw [← hsa] at h; exact h))
              have HI2 := Lib.hid (fun u => calls_over (by have h := kItoa_any hxi.hole (HT.out _ (Hb8.out.trans ((ov.below u).mono Hb8.out.size))); rw [← hsb] at h; exact h))
              have HI3 := Lib.hid (fun u => calls_over (by have h := fmt_any i0 (by omega : x.imm < 18446744073709551616) (HT.out _ (Hb8.out.trans ((ov.below u).mono Hb8.out.size))); rw [← hsd] at h; exact h))
              clear hx hb8 hr8 hb i0 i1 hxi hsa hsb hsd hs0 hs1 hs2 hs3 hs4 hs5 r0 r1 r2
              go_upto_region 16 with (fail)
              rw [← hw8]
              clear hw8 c0 c1 c2 d0 d1 d2
              refine wp_region_ovq ov (by kernel_rfl) (by kernel_rfl) ?_
              iterate 1 (go_big_quiet_step (fail))
              refine BigFrame.wpQuiet_want (by rfl) ?_
              intro K hK
              refine quiet_adds rfl (t) ([32]) rfl rfl (by (try simp only [List.length_cons, List.length_nil]); omega) ?_
              refine hK _ ?_
              clear hK K
              rw [← H0.out]
              try simp only [Act.put, List.setIfInBounds_toArray, List.set_cons_zero, List.set_cons_succ]
              iterate 2 (go_big_quiet_step (fail))
              go_big_quiet_step ((go_at_call 86; with_reducible exact HI1.out _))
              refine BigFrame.wpQuiet_want (by rfl) ?_
              intro K hK
              refine quiet_adds rfl (s0) (sa) rfl rfl (by (try simp only [List.length_cons, List.length_nil]); omega) ?_
              refine hK _ ?_
              clear hK K
              rw [← H1.out]
              try simp only [Act.put, List.setIfInBounds_toArray, List.set_cons_zero, List.set_cons_succ]
              refine BigFrame.wpQuiet_want (by rfl) ?_
              intro K hK
              refine quiet_adds rfl (s1) ([46]) rfl rfl (by (try simp only [List.length_cons, List.length_nil]); omega) ?_
              refine hK _ ?_
              clear hK K
              rw [← H2.out]
              try simp only [Act.put, List.setIfInBounds_toArray, List.set_cons_zero, List.set_cons_succ]
              iterate 2 (go_big_quiet_step (fail))
              go_big_quiet_step ((go_at_call 86; with_reducible exact HI2.out _))
              refine BigFrame.wpQuiet_want (by rfl) ?_
              intro K hK
              refine quiet_adds rfl (s2) (sb) rfl rfl (by (try simp only [List.length_cons, List.length_nil]); omega) ?_
              refine hK _ ?_
              clear hK K
              rw [← H3.out]
              try simp only [Act.put, List.setIfInBounds_toArray, List.set_cons_zero, List.set_cons_succ]
              refine BigFrame.wpQuiet_want (by rfl) ?_
              intro K hK
              refine quiet_adds rfl (s3) ([46]) rfl rfl (by (try simp only [List.length_cons, List.length_nil]); omega) ?_
              refine hK _ ?_
              clear hK K
              rw [← H4.out]
              try simp only [Act.put, List.setIfInBounds_toArray, List.set_cons_zero, List.set_cons_succ]
              iterate 3 (go_big_quiet_step (fail))
              go_big_quiet_step ((go_at_call 134; with_reducible exact HI3.out _))
              refine BigFrame.wpQuiet_want (by rfl) ?_
              intro K hK
              refine quiet_adds rfl (s4) (sd) rfl rfl (by (try simp only [List.length_cons, List.length_nil]); omega) ?_
              refine hK _ ?_
              clear hK K
              rw [← H5.out]
              try simp only [Act.put, List.setIfInBounds_toArray, List.set_cons_zero, List.set_cons_succ]
              repeat (go_big_quiet_step (fail))
              refine wpQuiet_nil ?_
              rintro _ ⟨u, rfl⟩
              have Hb9 := Lib.hid (Hb8.out.trans ((ov.below u).mono Hb8.out.size))
              clear o0 o1 o2 HI1 HI2 HI3
              generalize ov.f u = w9 at *
              clear ov ha hb' hd hwi l0 l1 l2 l3 l4
              go_wp2
              go_roundg (gk - 1)
              case measure => have := Hgk.out; omega
              case rel =>
                have := Hgk.out
                refine ⟨j + 1, by omega, ?_, by go_num, by omega, Hb9⟩
                rw [List.take_add_one, Hx.out, List.map_append, ← List.append_assoc]
                simp only [Option.toList_some, List.map_cons, List.map_nil]
                rw [tl_snoc, ← Ht.out, HcW.out]
            · obtain rfl : np = j := by omega
              have HtB := Lib.hid (show t = 32 :: textW r from by
                rw [Ht.out, List.take_of_length_le (by rw [Hlp.out]; exact Nat.le_refl _), Hp2.out, Hp1.out]
                have e : [] ++ r.left.map nodeW ++ [[61, 62]] ++ r.right.map nodeW ++ [[105, 102]] ++ r.pre.map condW = wordsOf r := by simp [wordsOf, arrow, iff_]
                rw [e, tl_jn 32 (words_ne r)]
                rfl)
              have hl := htl
              rw [HtB.out] at hl ⊢
              clear htl Ht
              have hl1 : (1 : Int) ≤ ((32 :: textW r).length : Int) := by simp; omega
              go_wp2
              go_ret
              exact ⟨by rw [← ext_tail 32 (textW r)]; rfl, HB1.out.trans (Hb.out.mono HB1.out.size)⟩
end KT
end Go.Proofs.YtbiopedpceddeaaGreatDoor
end
section
namespace Go.Proofs.YtbiopedpceddeaaGreatDoor
open Go.RowKit Go.Maps Go.Lib
set_option linter.unusedVariables false
set_option linter.unusedSimpArgs false
namespace KT
/-- the text of a valid rule -/
def textOf (r : R.Rl) : List UInt8 := if R.rvalid r = 0 then textW r else []
theorem node_ndI {p : List T.Nd} {right : Bool} (hp : ∀ k x, p[k]? = some x → R.pnode p right k x = true) (hl : p.length ≤ 12) (hi : ∀ x ∈ p, 0 ≤ x.imm ∧ x.imm < 4294967296) : ∀ x ∈ p, NdI x := fun x hx => by
  obtain ⟨k, hk⟩ := List.mem_iff_getElem?.1 hx
  obtain ⟨o1, o2, o3⟩ := (pnode_twf hp).op x hx
  have hk2 := (List.getElem?_eq_some_iff.1 hk).1
  refine ⟨o1, o2, o3, (pnode_twf hp).len x hx, fun a ha => ?_, hi x hx⟩
  have := R.pnode_ord hp k x hk a ha
  exact ⟨by omega, by omega⟩
theorem cond_cdI {W : World} {r : R.Rl} {nl nr np : Nat} {AL AR AP : Option Addr} (hR : RlAt W r nl nr np AL AR AP) (hok : R.ROk r) : ∀ c ∈ r.pre, CdI c := fun c hc => by
  obtain ⟨k, hk⟩ := List.mem_iff_getElem?.1 hc
  have hk2 := (List.getElem?_eq_some_iff.1 hk).1
  rw [hR.sp.len] at hk2
  obtain ⟨x, b, off, hx, _, _, _, _, _, i0, i1⟩ := cd_cells hR.sp hk2
  rw [hk] at hx
  cases hx
  have hcd := List.all_eq_true.1 hok.cd c hc
  unfold R.cdOk at hcd
  simp only [Bool.and_eq_true, decide_eq_true_eq] at hcd
  exact ⟨⟨by omega, by omega⟩, ⟨by omega, by omega⟩, i0, i1⟩

set_option maxRecDepth 100000 in
set_option maxHeartbeats 4000000 in
theorem Text_any {r : R.Rl} {nl cl nr cr np cp : Nat} {AL AR AP : Option Addr} {W : World} (hR : RlAt W r nl nr np AL AR AP) (hT : Tens W) :
    Calls Tryz.prog 24 #[.agg #[.slice AL nl cl, .slice AR nr cr, .slice AP np cp]] W fun e w' => e = .returned (.tuple #[.string ⟨(textOf r).toArray⟩, .int .i64 (R.rvalid r)]) ∧ Below W.heap.size W w' := by
  obtain ⟨W1, hW1⟩ : ∃ W1, W1 = W.alloc (.cells #[.slice AL nl cl, .slice AR nr cr, .slice AP np cp] 33) := ⟨_, rfl⟩
  have hb1 : Below W.heap.size W W1 := by rw [hW1]; exact (Below.refl _ _).alloc (Nat.le_refl _) _
  have hrow : W1.heap[W.heap.size]? = some (.cells #[.slice AL nl cl, .slice AR nr cr, .slice AP np cp] 33 (0, 0)) := by rw [hW1]; exact heap_alloc_new W _
  obtain ⟨c0, c1, c2, _⟩ := rl_cells hrow
  have HR1 := Lib.hid (hR.below hb1)
  have HV := Lib.hid (gValidate_any r nl cl nr cr np cp AL AR AP W1 HR1.out.sl HR1.out.sr HR1.out.sp HR1.out.fl HR1.out.fr)
  have HB1 := Lib.hid hb1
  have HW1 := Lib.hid hW1
  have Hrow := Lib.hid (fun (X : World) (h : Below W1.heap.size W1 X) => (h.block _ (Array.getElem?_eq_some_iff.1 hrow).1).trans hrow)
  by_cases hv : R.rvalid r = 0
  rotate_left
  · obtain ⟨z, hz⟩ : ∃ z, R.rvalid r = z := ⟨_, rfl⟩
    have Ht := Lib.hid (show textOf r = [] from by unfold textOf; rw [if_neg hv])
    rw [hz] at HV hv ⊢
    have q : (z != 0) = true := by simpa using hv
    clear hR hT hb1 hrow hW1 hz hv
    go_enter Tryz.func24, Tryz.ntmps24
    go_upto_region 1 with (fail)
    rw [← HW1.out]
    go_wp2_with fail
    (with_reducible refine HV.out.mono ?_)
    rintro e w2 ⟨rfl, hb2⟩
    have Hb2 := Lib.hid hb2
    clear hb2 c0 c1 c2 HV
    go_wp2
    go_ret2
    exact ⟨by rw [Ht.out]; rfl, HB1.out.trans (Hb2.out.mono HB1.out.size)⟩
  · have hok := R.rok_of hv
    have Ht := Lib.hid (show textOf r = textW r from by unfold textOf; rw [if_pos hv])
    have hnl := hR.sl.len
    have hnr := hR.sr.len
    have hnp := hR.sp.len
    have k1 := hok.llen
    have k2 := hok.rlen
    have k3 := hok.plen
    have HX := Lib.hid (fun X (h : Below W1.heap.size W1 X) => written_any (cl := cl) (cr := cr) (cp := cp) ((hR.below hb1).below h) ((hT.below hb1).below h) (by omega) (by omega) (by omega) (node_ndI hok.lp hok.llen (nd_rng hR.sl)) (node_ndI hok.rp hok.rlen (nd_rng hR.sr)) (cond_cdI hR hok))
    rw [hv] at HV ⊢
    clear hR hT hb1 hrow hW1 hv hok hnl hnr hnp k1 k2 k3
    go_enter Tryz.func24, Tryz.ntmps24
    go_upto_region 1 with (fail)
    rw [← HW1.out]
    go_wp2_with fail
    (with_reducible refine HV.out.mono ?_)
    rintro e w2 ⟨rfl, hb2⟩
    have Hb2 := Lib.hid hb2
    clear hb2 c0 c1 c2 HV
    obtain ⟨c0, c1, c2, _⟩ := rl_cells (Hrow.out _ Hb2.out)
    go_wp2_with fail
    (with_reducible refine (HX.out _ Hb2.out).mono ?_)
    rintro e w3 ⟨rfl, hb3⟩
    have Hb3 := Lib.hid (Hb2.out.trans (hb3.mono Hb2.out.size))
    clear hb3 c0 c1 c2
    go_wp2
    go_ret2
    exact ⟨by rw [Ht.out]; rfl, HB1.out.trans (Hb3.out.mono HB1.out.size)⟩

set_option maxRecDepth 100000 in
set_option maxHeartbeats 4000000 in
theorem rText_any {r : R.Rl} {nl cl nr cr np cp : Nat} {AL AR AP : Option Addr} {W : World} (hR : RlAt W r nl nr np AL AR AP) (hT : Tens W) :
    Calls Tryz.prog 25 #[.agg #[.slice AL nl cl, .slice AR nr cr, .slice AP np cp]] W fun e w' => e = .returned (.tuple #[.string ⟨(textOf r).toArray⟩, .int .i64 (R.rvalid r)]) ∧ Below W.heap.size W w' := by
  obtain ⟨W1, hW1⟩ : ∃ W1, W1 = W.alloc (.cells #[.slice AL nl cl, .slice AR nr cr, .slice AP np cp] 33) := ⟨_, rfl⟩
  have hb1 : Below W.heap.size W W1 := by rw [hW1]; exact (Below.refl _ _).alloc (Nat.le_refl _) _
  have hrow : W1.heap[W.heap.size]? = some (.cells #[.slice AL nl cl, .slice AR nr cr, .slice AP np cp] 33 (0, 0)) := by rw [hW1]; exact heap_alloc_new W _
  obtain ⟨c0, c1, c2, _⟩ := rl_cells hrow
  have HR1 := Lib.hid (hR.below hb1)
  have HV := Lib.hid (rValidate_rule (cl := cl) (cr := cr) (cp := cp) HR1.out)
  have HB1 := Lib.hid hb1
  have HW1 := Lib.hid hW1
  have Hrow := Lib.hid (fun (X : World) (h : Below W1.heap.size W1 X) => (h.block _ (Array.getElem?_eq_some_iff.1 hrow).1).trans hrow)
  by_cases hv : R.rvalid r = 0
  rotate_left
  · obtain ⟨z, hz⟩ : ∃ z, R.rvalid r = z := ⟨_, rfl⟩
    have Ht := Lib.hid (show textOf r = [] from by unfold textOf; rw [if_neg hv])
    rw [hz] at HV hv ⊢
    have q : (z != 0) = true := by simpa using hv
    clear hR hT hb1 hrow hW1 hz hv
    go_enter Tryz.func25, Tryz.ntmps25
    go_upto_region 1 with (fail)
    rw [← HW1.out]
    go_wp2_with fail
    (with_reducible refine HV.out.mono ?_)
    rintro e w2 ⟨rfl, hb2⟩
    have Hb2 := Lib.hid hb2
    clear hb2 c0 c1 c2 HV
    go_wp2
    go_ret2
    exact ⟨by rw [Ht.out]; rfl, HB1.out.trans (Hb2.out.mono HB1.out.size)⟩
  · have hok := R.rok_of hv
    have Ht := Lib.hid (show textOf r = textW r from by unfold textOf; rw [if_pos hv])
    have hnl := hR.sl.len
    have hnr := hR.sr.len
    have hnp := hR.sp.len
    have k1 := hok.llen
    have k2 := hok.rlen
    have k3 := hok.plen
    have HX := Lib.hid (fun X (h : Below W1.heap.size W1 X) => rtext_any (cl := cl) (cr := cr) (cp := cp) ((hR.below hb1).below h) ((hT.below hb1).below h) (by omega) (by omega) (by omega) (node_ndI hok.lp hok.llen (nd_rng hR.sl)) (node_ndI hok.rp hok.rlen (nd_rng hR.sr)) (cond_cdI hR hok))
    rw [hv] at HV ⊢
    clear hR hT hb1 hrow hW1 hv hok hnl hnr hnp k1 k2 k3
    go_enter Tryz.func25, Tryz.ntmps25
    go_upto_region 1 with (fail)
    rw [← HW1.out]
    go_wp2_with fail
    (with_reducible refine HV.out.mono ?_)
    rintro e w2 ⟨rfl, hb2⟩
    have Hb2 := Lib.hid hb2
    clear hb2 c0 c1 c2 HV
    obtain ⟨c0, c1, c2, _⟩ := rl_cells (Hrow.out _ Hb2.out)
    go_wp2_with fail
    (with_reducible refine (HX.out _ Hb2.out).mono ?_)
    rintro e w3 ⟨rfl, hb3⟩
    have Hb3 := Lib.hid (Hb2.out.trans (hb3.mono Hb2.out.size))
    clear hb3 c0 c1 c2
    go_wp2
    go_ret2
    exact ⟨by rw [Ht.out]; rfl, HB1.out.trans (Hb3.out.mono HB1.out.size)⟩

end KT
end Go.Proofs.YtbiopedpceddeaaGreatDoor
end
