/- Part. -/
import Derived.Test.YtbiopedpceddeaaGreatDoorQz12
import Derived.Shelf.SlSortCmp.Whole1
import Derived.Ground.SlsfProg
import Derived.Test.YtbiopedpceddeaaGreatDoorProg
import Derived.Shelf.SlSortCmp.NoneTotal
set_option linter.unusedVariables false
set_option linter.unusedSimpArgs false
set_option maxRecDepth 100000
set_option maxHeartbeats 16000000
namespace Go.Proofs.YtbiopedpceddeaaGreatDoor
section
open Go.RowKit Go.Maps Go.Lib
namespace KT
def tl (c : UInt8) (l : List (List UInt8)) : List UInt8 := l.flatMap fun x => c :: x
theorem tl_snoc (c : UInt8) (l : List (List UInt8)) (x : List UInt8) : tl c (l ++ [x]) = tl c l ++ c :: x := by simp [tl]
theorem jn_tl (c : UInt8) (x : List UInt8) (l : List (List UInt8)) : jn c (x :: l) = x ++ tl c l := by
 induction l generalizing x with
 | nil => simp [jn, tl]
 | cons y l ih =>
  rw [jn, ih]
  simp [tl]
theorem tl_len {c : UInt8} {l : List (List UInt8)} {k : Nat} (h : ∀ x ∈ l, x.length ≤ k) : (tl c l).length ≤ l.length * (k + 1) := by
 induction l with
 | nil => simp [tl]
 | cons x l ih =>
  have h1 := h x (by simp)
  have h2 := ih (fun y hy => h y (by simp [hy]))
  have e : (tl c (x :: l)).length = x.length + 1 + (tl c l).length := by simp [tl]; omega
  have e2 : (x :: l).length * (k + 1) = l.length * (k + 1) + (k + 1) := by rw [List.length_cons, Nat.succ_mul]
  omega
theorem fmt_any {n : Int} (h0 : 0 ≤ n) (h1 : n < 18446744073709551616) {W : World} (hT : Tens W) :
 Calls Tryz.prog 134 #[.int .u64 n, .int .i64 10] W fun e w' => e = .returned (.string ⟨(itoa n).toArray⟩) ∧ Below W.heap.size W w' := by
 have h := kFormatUint_any (u := n.toNat) (by omega) hT
 rw [show ((n.toNat : Nat) : Int) = n by omega] at h
 rw [show itoa n = decDigits n.toNat from by unfold itoa; rw [if_neg (by omega)]]
 exact h
theorem cells5' {w : World} {g : Nat} {T : TypeId} {a0 a1 a2 a3 a4 : Value} (h : w.heap[g]? = some (.cells #[a0, a1, a2, a3, a4] T (0, 0))) : w.cell? ⟨g, 0, none⟩ = some a0 ∧ w.cell? ⟨g, 1, none⟩ = some a1 ∧ w.cell? ⟨g, 2, none⟩ = some a2 ∧ w.cell? ⟨g, 3, none⟩ = some a3 ∧ w.cell? ⟨g, 4, none⟩ = some a4 := by
 refine ⟨?_, ?_, ?_, ?_, ?_⟩ <;> rw [cell_of_row _ _ _ _ _ (0, 0) h] <;> rfl
theorem nodeText_any {x : T.Nd} {A : Option Addr} {c : Nat} {W : World} (hx : NdI x) (hS : SlAt (IntR .i64) W A x.args.length x.args) (hT : Tens W) :
 Calls Tryz.prog 133 #[.agg #[.int .i64 x.op, .int .i64 x.w, .int .i64 x.fl, .slice A x.args.length c, .int .u32 x.imm]] W fun e w' => e = .returned (.string ⟨(nodeW x).toArray⟩) ∧ Below W.heap.size W w' := by
 obtain ⟨W1, hW1⟩ : ∃ W1, W1 = W.alloc (.cells #[.int .i64 x.op, .int .i64 x.w, .int .i64 x.fl, .slice A x.args.length c, .int .u32 x.imm] 62) := ⟨_, rfl⟩
 have hb1 : Below W.heap.size W W1 := by rw [hW1]; exact al0
 have hrow : W1.heap[W.heap.size]? = some (.cells #[.int .i64 x.op, .int .i64 x.w, .int .i64 x.fl, .slice A x.args.length c, .int .u32 x.imm] 62 (0, 0)) := by rw [hW1]; exact heap_alloc_new W _
 have HB1 := kH hb1
 have HS := kH (fun X (h : Below W1.heap.size W1 X) => (hS.below (monoInt _) hb1).below (monoInt _) h)
 have HT := kH (fun X (h : Below W1.heap.size W1 X) => (hT.below hb1).below h)
 have Hrow := kH (fun (X : World) (h : Below W1.heap.size W1 X) => (h.block _ (gA hrow).1).trans hrow)
 have Hag := kH hx.args
 have hal := hx.len
 obtain ⟨i0, i1⟩ := hx.imm
 obtain ⟨sa, hsa⟩ : ∃ s, s = itoa x.op := ⟨_, rfl⟩
 obtain ⟨sb, hsb⟩ : ∃ s, s = itoa x.w := ⟨_, rfl⟩
 obtain ⟨sc, hsc⟩ : ∃ s, s = itoa x.fl := ⟨_, rfl⟩
 obtain ⟨sd, hsd⟩ : ∃ s, s = itoa x.imm := ⟨_, rfl⟩
 have ha : sa.length ≤ 20 := by rw [hsa]; exact itoa_len hx.op
 have hb : sb.length ≤ 20 := by rw [hsb]; exact itoa_len hx.w
 have hc : sc.length ≤ 20 := by rw [hsc]; exact itoa_len hx.fl
 have hd : sd.length ≤ 20 := by rw [hsd]; exact itoa_len ⟨by omega, by omega⟩
 obtain ⟨s1, hs1⟩ : ∃ s, s = sa ++ [46] := ⟨_, rfl⟩
 obtain ⟨s2, hs2⟩ : ∃ s, s = s1 ++ sb := ⟨_, rfl⟩
 obtain ⟨s3, hs3⟩ : ∃ s, s = s2 ++ [46] := ⟨_, rfl⟩
 obtain ⟨s4, hs4⟩ : ∃ s, s = s3 ++ sc := ⟨_, rfl⟩
 obtain ⟨s5, hs5⟩ : ∃ s, s = s4 ++ [46] := ⟨_, rfl⟩
 obtain ⟨P, hP⟩ : ∃ P, P = s5 ++ sd := ⟨_, rfl⟩
 have l1 : s1.length ≤ 21 := by rw [hs1, List.length_append]; simp; omega
 have l2 : s2.length ≤ 41 := by rw [hs2, List.length_append]; omega
 have l3 : s3.length ≤ 42 := by rw [hs3, List.length_append]; simp; omega
 have l4 : s4.length ≤ 62 := by rw [hs4, List.length_append]; omega
 have l5 : s5.length ≤ 63 := by rw [hs5, List.length_append]; simp; omega
 have HP := kH hP
 have H1 := kH hs1
 have H2 := kH hs2
 have H3 := kH hs3
 have H4 := kH hs4
 have H5 := kH hs5
 have HPl := kH (show P.length ≤ 83 from by rw [hP, List.length_append]; omega)
 have HW := kH (show nodeW x = P ++ tl 44 (x.args.map itoa) from by
  unfold nodeW
  rw [jn_tl, hP, hs5, hs4, hs3, hs2, hs1, hsa, hsb, hsc, hsd]
  simp [jn])
 have hwi : IntKind.u64.wrap x.imm = x.imm := by rw [IntKind.wrap_u64]; omega
 obtain ⟨c0, c1, c2, c3, c4⟩ := cells5' hrow
 obtain ⟨ov⟩ := ov_ex W1
 have o0 := ov.cell c0
 have o1 := ov.cell c1
 have o2 := ov.cell c2
 have o4 := ov.cell c4
 have HI1 := kH (fun u => calls_over (by have h := kItoa_any hx.op (HT.out _ (ov.below u)); rw [← hsa] at h; exact h))
 have HI2 := kH (fun u => calls_over (by have h := kItoa_any hx.w (HT.out _ (ov.below u)); rw [← hsb] at h; exact h))
 have HI3 := kH (fun u => calls_over (by have h := kItoa_any hx.fl (HT.out _ (ov.below u)); rw [← hsc] at h; exact h))
 have HI4 := kH (fun u => calls_over (by have h := fmt_any i0 (by omega : x.imm < 18446744073709551616) (HT.out _ (ov.below u)); rw [← hsd] at h; exact h))
 have HW1 := kH hW1
 clear hx hS hT hb1 hrow hsa hsb hsc hsd hP hs1 hs2 hs3 hs4 hs5 hW1 c0 c1 c2 c3 c4
 go_enter Tryz.func133, Tryz.ntmps133
 go_upto_region 1 with (fail)
 rw [← HW1.out]
 refine wp_region_ovq ov (by kernel_rfl) (by kernel_rfl) ?_
 iterate 2 (go_big_quiet_step (fail))
 go_big_quiet_step ((go_at_call 86; with_reducible exact HI1.out _))
 refine BigFrame.wpQuiet_want (by rfl) ?_
 intro K hK
 refine quiet_adds rfl (sa) ([46]) rfl rfl (by (try simp only [List.length_cons, List.length_nil]); omega) ?_
 refine hK _ ?_
 clear hK K
 rw [← H1.out]
 try simp only [Act.put, List.setIfInBounds_toArray, List.set_cons_zero, List.set_cons_succ]
 iterate 2 (go_big_quiet_step (fail))
 go_big_quiet_step ((go_at_call 86; with_reducible exact HI2.out _))
 refine BigFrame.wpQuiet_want (by rfl) ?_
 intro K hK
 refine quiet_adds rfl (s1) (sb) rfl rfl (by (try simp only [List.length_cons, List.length_nil]); omega) ?_
 refine hK _ ?_
 clear hK K
 rw [← H2.out]
 try simp only [Act.put, List.setIfInBounds_toArray, List.set_cons_zero, List.set_cons_succ]
 refine BigFrame.wpQuiet_want (by rfl) ?_
 intro K hK
 refine quiet_adds rfl (s2) ([46]) rfl rfl (by (try simp only [List.length_cons, List.length_nil]); omega) ?_
 refine hK _ ?_
 clear hK K
 rw [← H3.out]
 try simp only [Act.put, List.setIfInBounds_toArray, List.set_cons_zero, List.set_cons_succ]
 iterate 2 (go_big_quiet_step (fail))
 go_big_quiet_step ((go_at_call 86; with_reducible exact HI3.out _))
 refine BigFrame.wpQuiet_want (by rfl) ?_
 intro K hK
 refine quiet_adds rfl (s3) (sc) rfl rfl (by (try simp only [List.length_cons, List.length_nil]); omega) ?_
 refine hK _ ?_
 clear hK K
 rw [← H4.out]
 try simp only [Act.put, List.setIfInBounds_toArray, List.set_cons_zero, List.set_cons_succ]
 refine BigFrame.wpQuiet_want (by rfl) ?_
 intro K hK
 refine quiet_adds rfl (s4) ([46]) rfl rfl (by (try simp only [List.length_cons, List.length_nil]); omega) ?_
 refine hK _ ?_
 clear hK K
 rw [← H5.out]
 try simp only [Act.put, List.setIfInBounds_toArray, List.set_cons_zero, List.set_cons_succ]
 iterate 3 (go_big_quiet_step (fail))
 go_big_quiet_step ((go_at_call 134; with_reducible exact HI4.out _))
 refine BigFrame.wpQuiet_want (by rfl) ?_
 intro K hK
 refine quiet_adds rfl (s5) (sd) rfl rfl (by (try simp only [List.length_cons, List.length_nil]); omega) ?_
 refine hK _ ?_
 clear hK K
 rw [← HP.out]
 try simp only [Act.put, List.setIfInBounds_toArray, List.set_cons_zero, List.set_cons_succ]
 repeat (go_big_quiet_step (fail))
 refine wpQuiet_nil ?_
 rintro _ ⟨u, rfl⟩
 have Hb2 := kH (ov.below u)
 clear o0 o1 o2 o4 HI1 HI2 HI3 HI4
 generalize ov.f u = w2 at *
 clear ov ha hb hc hd hwi HP l1 l2 l3 l4 l5 H1 H2 H3 H4 H5
 obtain ⟨_, _, _, e3, _⟩ := cells5' (Hrow.out _ Hb2.out)
 go_wp2_with fail
 go_loopg [3, 28] (x.args.length + 1) (fun gg s3 si wr => ∃ j : Nat, j ≤ x.args.length ∧ s3 = .string ⟨(P ++ tl 44 ((x.args.take j).map itoa)).toArray⟩ ∧ si = .int .i64 (j : Int) ∧ gg + j = x.args.length + 1 ∧ Hid (Below W1.heap.size W1 wr))
 case atStart => exact ⟨0, Nat.zero_le _, by simp [tl], rfl, by omega, Hb2⟩
 case round =>
  obtain ⟨j, hj, rfl, rfl, hgk, Hbr⟩ := hrel
  have Hgk := kH hgk
  clear hgk e3
  obtain ⟨_, _, _, e3, _⟩ := cells5' (Hrow.out _ Hbr.out)
  obtain ⟨t, ht⟩ : ∃ t, t = P ++ tl 44 ((x.args.take j).map itoa) := ⟨_, rfl⟩
  have htl : t.length ≤ 200 := by
   have h1 := tl_len (c := 44) (l := (x.args.take j).map itoa) (k := 20) (fun y hy => by
    obtain ⟨z, hz, rfl⟩ := List.mem_map.1 hy
    exact itoa_len (Hag.out z (List.mem_of_mem_take hz)))
   have h2 := HPl.out
   rw [ht, List.length_append]
   rw [List.length_map, List.length_take] at h1
   omega
  have Ht := kH ht
  rw [← ht]
  clear ht
  by_cases hjn : j < x.args.length
  · obtain ⟨a, ba, off, u, hxa, hAe, hba, hcell, rfl⟩ := (HS.out _ Hbr.out).at_ hjn
    subst hAe
    have Hx := kH hxa
    have hia := Hag.out a (List.mem_of_getElem? hxa)
    obtain ⟨i, hi⟩ : ∃ i, i = itoa a := ⟨_, rfl⟩
    have hil : i.length ≤ 20 := by rw [hi]; exact itoa_len hia
    have Hi := kH hi
    have Hcl := kH (by have h := kItoa_any hia (HT.out _ Hbr.out); rw [← hi] at h; exact h)
    clear hxa hia hi hba
    have n1 : ¬ 9223372036854775807 < i.length + 1 := by omega
    have n1' : ¬ 9223372036854775807 < 1 + i.length := by omega
    have n2 : ¬ 9223372036854775807 < t.length + (i.length + 1) := by omega
    have m1 := ByteArray.mk_append_mk [44] i
    have m2 := ByteArray.mk_append_mk t (44 :: i)
    go_wp2_with fail
    (with_reducible refine Hcl.out.mono ?_)
    rintro e w4 ⟨rfl, hb4⟩
    have Hb4 := kH (Hbr.out.trans (hb4.mono Hbr.out.size))
    clear hb4 Hcl
    go_wp2
    go_roundg (gk - 1)
    case measure => have := Hgk.out; omega
    case rel =>
     have := Hgk.out
     refine ⟨j + 1, by omega, ?_, by go_num, by omega, Hb4⟩
     rw [List.take_add_one, Hx.out, List.map_append]
     simp only [Option.toList_some, List.map_cons, List.map_nil]
     rw [tl_snoc, ← List.append_assoc, ← Ht.out, Hi.out]
  · obtain rfl : j = x.args.length := by omega
    have Hw := kH (show nodeW x = t from by rw [HW.out, Ht.out, List.take_length])
    go_wp2
    go_ret
    exact ⟨by rw [Hw.out]; rfl, HB1.out.trans (Hbr.out.mono HB1.out.size)⟩
theorem rnode_any {x : T.Nd} {A : Option Addr} {c : Nat} {W : World} (hx : NdI x) (hS : SlAt (IntR .i64) W A x.args.length x.args) (hT : Tens W) :
 Calls Tryz.prog 135 #[.agg #[.int .i64 x.op, .int .i64 x.w, .int .i64 x.fl, .slice A x.args.length c, .int .u32 x.imm]] W fun e w' => e = .returned (.string ⟨(nodeW x).toArray⟩) ∧ Below W.heap.size W w' := by
 obtain ⟨W1, hW1⟩ : ∃ W1, W1 = W.alloc (.cells #[.int .i64 x.op, .int .i64 x.w, .int .i64 x.fl, .slice A x.args.length c, .int .u32 x.imm] 62) := ⟨_, rfl⟩
 have hb1 : Below W.heap.size W W1 := by rw [hW1]; exact al0
 have hrow : W1.heap[W.heap.size]? = some (.cells #[.int .i64 x.op, .int .i64 x.w, .int .i64 x.fl, .slice A x.args.length c, .int .u32 x.imm] 62 (0, 0)) := by rw [hW1]; exact heap_alloc_new W _
 have HB1 := kH hb1
 have HS := kH (fun X (h : Below W1.heap.size W1 X) => (hS.below (monoInt _) hb1).below (monoInt _) h)
 have HT := kH (fun X (h : Below W1.heap.size W1 X) => (hT.below hb1).below h)
 have Hrow := kH (fun (X : World) (h : Below W1.heap.size W1 X) => (h.block _ (gA hrow).1).trans hrow)
 have Hag := kH hx.args
 have hal := hx.len
 obtain ⟨i0, i1⟩ := hx.imm
 obtain ⟨sa, hsa⟩ : ∃ s, s = itoa x.op := ⟨_, rfl⟩
 obtain ⟨sb, hsb⟩ : ∃ s, s = itoa x.w := ⟨_, rfl⟩
 obtain ⟨sc, hsc⟩ : ∃ s, s = itoa x.fl := ⟨_, rfl⟩
 obtain ⟨sd, hsd⟩ : ∃ s, s = itoa x.imm := ⟨_, rfl⟩
 have ha : sa.length ≤ 20 := by rw [hsa]; exact itoa_len hx.op
 have hb : sb.length ≤ 20 := by rw [hsb]; exact itoa_len hx.w
 have hc : sc.length ≤ 20 := by rw [hsc]; exact itoa_len hx.fl
 have hd : sd.length ≤ 20 := by rw [hsd]; exact itoa_len ⟨by omega, by omega⟩
 obtain ⟨s1, hs1⟩ : ∃ s, s = sa ++ [46] := ⟨_, rfl⟩
 obtain ⟨s2, hs2⟩ : ∃ s, s = s1 ++ sb := ⟨_, rfl⟩
 obtain ⟨s3, hs3⟩ : ∃ s, s = s2 ++ [46] := ⟨_, rfl⟩
 obtain ⟨s4, hs4⟩ : ∃ s, s = s3 ++ sc := ⟨_, rfl⟩
 obtain ⟨s5, hs5⟩ : ∃ s, s = s4 ++ [46] := ⟨_, rfl⟩
 obtain ⟨P, hP⟩ : ∃ P, P = s5 ++ sd := ⟨_, rfl⟩
 have l1 : s1.length ≤ 21 := by rw [hs1, List.length_append]; simp; omega
 have l2 : s2.length ≤ 41 := by rw [hs2, List.length_append]; omega
 have l3 : s3.length ≤ 42 := by rw [hs3, List.length_append]; simp; omega
 have l4 : s4.length ≤ 62 := by rw [hs4, List.length_append]; omega
 have l5 : s5.length ≤ 63 := by rw [hs5, List.length_append]; simp; omega
 have HP := kH hP
 have H1 := kH hs1
 have H2 := kH hs2
 have H3 := kH hs3
 have H4 := kH hs4
 have H5 := kH hs5
 have HPl := kH (show P.length ≤ 83 from by rw [hP, List.length_append]; omega)
 have HW := kH (show nodeW x = P ++ tl 44 (x.args.map itoa) from by
  unfold nodeW
  rw [jn_tl, hP, hs5, hs4, hs3, hs2, hs1, hsa, hsb, hsc, hsd]
  simp [jn])
 have hwi : IntKind.u64.wrap x.imm = x.imm := by rw [IntKind.wrap_u64]; omega
 obtain ⟨c0, c1, c2, c3, c4⟩ := cells5' hrow
 obtain ⟨ov⟩ := ov_ex W1
 have o0 := ov.cell c0
 have o1 := ov.cell c1
 have o2 := ov.cell c2
 have o4 := ov.cell c4
 have HI1 := kH (fun u => calls_over (by have h := kItoa_any hx.op (HT.out _ (ov.below u)); rw [← hsa] at h; exact h))
 have HI2 := kH (fun u => calls_over (by have h := kItoa_any hx.w (HT.out _ (ov.below u)); rw [← hsb] at h; exact h))
 have HI3 := kH (fun u => calls_over (by have h := kItoa_any hx.fl (HT.out _ (ov.below u)); rw [← hsc] at h; exact h))
 have HI4 := kH (fun u => calls_over (by have h := fmt_any i0 (by omega : x.imm < 18446744073709551616) (HT.out _ (ov.below u)); rw [← hsd] at h; exact h))
 have HW1 := kH hW1
 clear hx hS hT hb1 hrow hsa hsb hsc hsd hP hs1 hs2 hs3 hs4 hs5 hW1 c0 c1 c2 c3 c4
 go_enter Tryz.func135, Tryz.ntmps135
 go_upto_region 1 with (fail)
 rw [← HW1.out]
 refine wp_region_ovq ov (by kernel_rfl) (by kernel_rfl) ?_
 iterate 2 (go_big_quiet_step (fail))
 go_big_quiet_step ((go_at_call 86; with_reducible exact HI1.out _))
 refine BigFrame.wpQuiet_want (by rfl) ?_
 intro K hK
 refine quiet_adds rfl (sa) ([46]) rfl rfl (by (try simp only [List.length_cons, List.length_nil]); omega) ?_
 refine hK _ ?_
 clear hK K
 rw [← H1.out]
 try simp only [Act.put, List.setIfInBounds_toArray, List.set_cons_zero, List.set_cons_succ]
 iterate 2 (go_big_quiet_step (fail))
 go_big_quiet_step ((go_at_call 86; with_reducible exact HI2.out _))
 refine BigFrame.wpQuiet_want (by rfl) ?_
 intro K hK
 refine quiet_adds rfl (s1) (sb) rfl rfl (by (try simp only [List.length_cons, List.length_nil]); omega) ?_
 refine hK _ ?_
 clear hK K
 rw [← H2.out]
 try simp only [Act.put, List.setIfInBounds_toArray, List.set_cons_zero, List.set_cons_succ]
 refine BigFrame.wpQuiet_want (by rfl) ?_
 intro K hK
 refine quiet_adds rfl (s2) ([46]) rfl rfl (by (try simp only [List.length_cons, List.length_nil]); omega) ?_
 refine hK _ ?_
 clear hK K
 rw [← H3.out]
 try simp only [Act.put, List.setIfInBounds_toArray, List.set_cons_zero, List.set_cons_succ]
 iterate 2 (go_big_quiet_step (fail))
 go_big_quiet_step ((go_at_call 86; with_reducible exact HI3.out _))
 refine BigFrame.wpQuiet_want (by rfl) ?_
 intro K hK
 refine quiet_adds rfl (s3) (sc) rfl rfl (by (try simp only [List.length_cons, List.length_nil]); omega) ?_
 refine hK _ ?_
 clear hK K
 rw [← H4.out]
 try simp only [Act.put, List.setIfInBounds_toArray, List.set_cons_zero, List.set_cons_succ]
 refine BigFrame.wpQuiet_want (by rfl) ?_
 intro K hK
 refine quiet_adds rfl (s4) ([46]) rfl rfl (by (try simp only [List.length_cons, List.length_nil]); omega) ?_
 refine hK _ ?_
 clear hK K
 rw [← H5.out]
 try simp only [Act.put, List.setIfInBounds_toArray, List.set_cons_zero, List.set_cons_succ]
 iterate 3 (go_big_quiet_step (fail))
 go_big_quiet_step ((go_at_call 134; with_reducible exact HI4.out _))
 refine BigFrame.wpQuiet_want (by rfl) ?_
 intro K hK
 refine quiet_adds rfl (s5) (sd) rfl rfl (by (try simp only [List.length_cons, List.length_nil]); omega) ?_
 refine hK _ ?_
 clear hK K
 rw [← HP.out]
 try simp only [Act.put, List.setIfInBounds_toArray, List.set_cons_zero, List.set_cons_succ]
 repeat (go_big_quiet_step (fail))
 refine wpQuiet_nil ?_
 rintro _ ⟨u, rfl⟩
 have Hb2 := kH (ov.below u)
 clear o0 o1 o2 o4 HI1 HI2 HI3 HI4
 generalize ov.f u = w2 at *
 clear ov ha hb hc hd hwi HP l1 l2 l3 l4 l5 H1 H2 H3 H4 H5
 obtain ⟨_, _, _, e3, _⟩ := cells5' (Hrow.out _ Hb2.out)
 go_wp2_with fail
 go_loopg [3, 4] (x.args.length + 1) (fun gg s3 si wr => ∃ j : Nat, j ≤ x.args.length ∧ s3 = .string ⟨(P ++ tl 44 ((x.args.take j).map itoa)).toArray⟩ ∧ si = .int .i64 (j : Int) ∧ gg + j = x.args.length + 1 ∧ Hid (Below W1.heap.size W1 wr))
 case atStart => exact ⟨0, Nat.zero_le _, by simp [tl], rfl, by omega, Hb2⟩
 case round =>
  obtain ⟨j, hj, rfl, rfl, hgk, Hbr⟩ := hrel
  have Hgk := kH hgk
  clear hgk e3
  obtain ⟨_, _, _, e3, _⟩ := cells5' (Hrow.out _ Hbr.out)
  obtain ⟨t, ht⟩ : ∃ t, t = P ++ tl 44 ((x.args.take j).map itoa) := ⟨_, rfl⟩
  have htl : t.length ≤ 200 := by
   have h1 := tl_len (c := 44) (l := (x.args.take j).map itoa) (k := 20) (fun y hy => by
    obtain ⟨z, hz, rfl⟩ := List.mem_map.1 hy
    exact itoa_len (Hag.out z (List.mem_of_mem_take hz)))
   have h2 := HPl.out
   rw [ht, List.length_append]
   rw [List.length_map, List.length_take] at h1
   omega
  have Ht := kH ht
  rw [← ht]
  clear ht
  by_cases hjn : j < x.args.length
  · obtain ⟨a, ba, off, u, hxa, hAe, hba, hcell, rfl⟩ := (HS.out _ Hbr.out).at_ hjn
    subst hAe
    have Hx := kH hxa
    have hia := Hag.out a (List.mem_of_getElem? hxa)
    obtain ⟨i, hi⟩ : ∃ i, i = itoa a := ⟨_, rfl⟩
    have hil : i.length ≤ 20 := by rw [hi]; exact itoa_len hia
    have Hi := kH hi
    have Hcl := kH (by have h := kItoa_any hia (HT.out _ Hbr.out); rw [← hi] at h; exact h)
    clear hxa hia hi hba
    have n1 : ¬ 9223372036854775807 < t.length + 1 := by omega
    have n2 : ¬ 9223372036854775807 < t.length + 1 + i.length := by omega
    have n2' : ¬ 9223372036854775807 < t.length + (i.length + 1) := by omega
    have m1 := ByteArray.mk_append_mk t [44]
    have m2 := ByteArray.mk_append_mk (t ++ [44]) i
    go_wp2_with fail
    (with_reducible refine Hcl.out.mono ?_)
    rintro e w4 ⟨rfl, hb4⟩
    have Hb4 := kH (Hbr.out.trans (hb4.mono Hbr.out.size))
    clear hb4 Hcl
    go_wp2
    go_roundg (gk - 1)
    case measure => have := Hgk.out; omega
    case rel =>
     have := Hgk.out
     refine ⟨j + 1, by omega, ?_, by go_num, by omega, Hb4⟩
     rw [List.take_add_one, Hx.out, List.map_append]
     simp only [Option.toList_some, List.map_cons, List.map_nil]
     rw [tl_snoc, ← List.append_assoc, ← Ht.out, Hi.out]
  · obtain rfl : j = x.args.length := by omega
    have Hw := kH (show nodeW x = t from by rw [HW.out, Ht.out, List.take_length])
    go_wp2
    go_ret
    exact ⟨by rw [Hw.out]; rfl, HB1.out.trans (Hbr.out.mono HB1.out.size)⟩
end KT
end
section
open Go.RowKit Go.Maps
namespace KT
def cmpL : List Int → List Int → Int
 | [], [] => 0
 | [], _ :: _ => -1
 | _ :: _, [] => 1
 | a :: l, b :: m => if Lib.compareInt a b = 0 then cmpL l m else Lib.compareInt a b
theorem cmpI_zero {a b : Int} : Lib.compareInt a b = 0 ↔ a = b := by
 unfold Lib.compareInt
 split
 · constructor
   · intro h; cases h
   · intro h; omega
 · split
   · constructor
     · intro h; cases h
     · intro h; omega
   · constructor
     · intro _; omega
     · intro _; rfl
theorem cmpI_neg {a b : Int} : Lib.compareInt a b < 0 ↔ a < b := by
 unfold Lib.compareInt
 split
 · exact ⟨fun _ => by assumption, fun _ => by decide⟩
 · split
   · exact ⟨fun h => absurd h (by decide), fun h => by omega⟩
   · exact ⟨fun h => absurd h (by decide), fun h => by omega⟩
theorem cmpL_lt : ∀ l m, cmpL l m < 0 ↔ ltL l m := by
 intro l
 induction l with
 | nil =>
  intro m
  cases m with
  | nil => simp [cmpL, ltL]
  | cons b m => simp [cmpL, ltL]
 | cons a l ih =>
  intro m
  cases m with
  | nil => simp [cmpL, ltL]
  | cons b m =>
   rw [cmpL, ltL]
   split
   · rename_i h
     rw [cmpI_zero] at h
     subst h
     rw [ih]
     exact ⟨fun h => .inr ⟨rfl, h⟩, fun h => h.elim (fun h => absurd h (Int.lt_irrefl _)) fun h => h.2⟩
   · rename_i h
     rw [cmpI_neg]
     rw [cmpI_zero] at h
     exact ⟨.inl, fun k => k.elim id fun k => absurd k.1 h⟩
theorem cmpL_drop {xs ys : List Int} {j : Nat} {x y : Int} (hx : xs[j]? = some x) (hy : ys[j]? = some y) : cmpL (xs.drop j) (ys.drop j) = if Lib.compareInt x y = 0 then cmpL (xs.drop (j + 1)) (ys.drop (j + 1)) else Lib.compareInt x y := by
 obtain ⟨h1, rfl⟩ := List.getElem?_eq_some_iff.1 hx
 obtain ⟨h2, rfl⟩ := List.getElem?_eq_some_iff.1 hy
 rw [List.drop_eq_getElem_cons h1, List.drop_eq_getElem_cons h2, cmpL]
theorem kCompare_any {xs ys : List Int} {A1 A2 : Option Addr} {n1 c1 n2 c2 : Nat} {W : World} (h1 : SlAt (IntR .i64) W A1 n1 xs) (h2 : SlAt (IntR .i64) W A2 n2 ys) (hn1 : n1 ≤ 1000000) (hn2 : n2 ≤ 1000000) :
 Calls Tryz.prog 62 #[.slice A1 n1 c1, .slice A2 n2 c2] W fun e w' => e = .returned (.int .i64 (cmpL xs ys)) ∧ w' = W := by
 have hl1 := h1.len
 have hl2 := h2.len
 have H1 := kH h1
 have H2 := kH h2
 clear h1 h2
 go_enter Tryz.func62, Tryz.ntmps62
 go_wp2
 go_loopg [11] (n1 + 1) (fun gg s11 wr => ∃ (j : Nat), j ≤ n1 ∧ j ≤ n2 ∧ s11 = .int .i64 (j : Int) ∧ gg + j = n1 + 1 ∧ wr = W ∧ Hid (cmpL xs ys = cmpL (xs.drop j) (ys.drop j)))
 case atStart => exact ⟨0, Nat.zero_le _, Nat.zero_le _, rfl, rfl, rfl, kH rfl⟩
 case round =>
  obtain ⟨j, hj, hj2, rfl, hgk, rfl, He⟩ := hrel
  have Hgk := kH hgk
  clear hgk
  by_cases hjl : j < n1
  · obtain ⟨x, ba, off, u, hx, rfl, hba, hcell, rfl⟩ := H1.out.at_ hjl
    have Hx := kH hx
    clear hx hba
    by_cases hjm : j < n2
    · obtain ⟨y, bb, off2, u2, hy, rfl, hbb, hcell2, rfl⟩ := H2.out.at_ hjm
      have Hy := kH hy
      clear hy hbb
      by_cases hc : Lib.compareInt x y = 0
      · have q : (Lib.compareInt x y != 0) = false := by simp [hc]
        have Hc := kH hc
        clear hc
        go_wp2_with (go_at_call 130; refine (Tryz.cmp_Compare_int _ _ _).mono ?_; rintro e w' ⟨rfl, rfl⟩)
        go_roundg (gk - 1)
        case measure => have := Hgk.out; omega
        case rel =>
         have := Hgk.out
         refine ⟨j + 1, by omega, by omega, by go_num, by omega, rfl, kH ?_⟩
         rw [He.out, cmpL_drop Hx.out Hy.out, if_pos Hc.out]
      · have q : (Lib.compareInt x y != 0) = true := by simp [hc]
        have Hc := kH hc
        clear hc
        go_wp2_with (go_at_call 130; refine (Tryz.cmp_Compare_int _ _ _).mono ?_; rintro e w' ⟨rfl, rfl⟩)
        go_ret
        refine ⟨?_, rfl⟩
        rw [He.out, cmpL_drop Hx.out Hy.out, if_neg Hc.out]
        rfl
    · obtain rfl : j = n2 := by omega
      go_wp2
      go_ret
      refine ⟨?_, rfl⟩
      rw [He.out, show ys.drop j = [] from List.drop_eq_nil_of_le (by omega), show xs.drop j = xs[j] :: xs.drop (j + 1) from List.drop_eq_getElem_cons (by omega)]
      rfl
  · obtain rfl : j = n1 := by omega
    by_cases hjm : j < n2
    · go_wp2
      go_ret
      refine ⟨?_, rfl⟩
      rw [He.out, show xs.drop j = [] from List.drop_eq_nil_of_le (by omega), show ys.drop j = ys[j] :: ys.drop (j + 1) from List.drop_eq_getElem_cons (by omega)]
      rfl
    · go_wp2
      go_ret
      refine ⟨?_, rfl⟩
      rw [He.out, show xs.drop j = [] from List.drop_eq_nil_of_le (by omega), show ys.drop j = [] from List.drop_eq_nil_of_le (by omega)]
      rfl
end KT
end
end Go.Proofs.YtbiopedpceddeaaGreatDoor
section
open Go.Proofs.YtbiopedpceddeaaGreatDoor (tk rd tc gA kH)
namespace Go.Proofs
open Go.Shelf
def Tryz.sortF_ren : Go.Shelf.Ren := ⟨fun | 6 => 61 | 15 => 129 | 14 => 128 | 28 => 176 | 29 => 177 | 20 => 168 | 21 => 169 | 22 => 170 | 23 => 171 | 24 => 172 | 25 => 173 | 26 => 174 | 27 => 175 | 46 => 228 | 47 => 229 | 48 => 230 | 49 => 231 | 50 => 232 | 57 => 249 | n => n, fun | 22 => 86 | 24 => 60 | 25 => 91 | 3 => 3 | 39 => 56 | 0 => 0 | 53 => 26 | 55 => 188 | 4 => 4 | 46 => 222 | 45 => 221 | 50 => 134 | 5 => 5 | 9 => 9 | 66 => 248 | 70 => 252 | 76 => 267 | 77 => 268 | n => n, fun | n => n⟩
theorem Tryz.sortF : Go.Proofs.SlLaysF.n6 Tryz.prog Tryz.sortF_ren := {
 mixed := by kernel_rfl
 f6 := ⟨Tryz.f61.name, by decide, tc Tryz.func61⟩
 f14 := ⟨Tryz.f128.name, by decide, tc Tryz.func128⟩
 f15 := tc Tryz.func129
 f20 := ⟨Tryz.f168.name, by decide, tc Tryz.func168⟩
 f21 := ⟨Tryz.f169.name, by decide, tc Tryz.func169⟩
 f22 := ⟨Tryz.f170.name, by decide, tc Tryz.func170⟩
 f23 := ⟨Tryz.f171.name, by decide, tc Tryz.func171⟩
 f24 := ⟨Tryz.f172.name, by decide, tc Tryz.func172⟩
 f25 := ⟨Tryz.f173.name, by decide, tc Tryz.func173⟩
 f26 := ⟨Tryz.f174.name, by decide, tc Tryz.func174⟩
 f27 := ⟨Tryz.f175.name, by decide, tc Tryz.func175⟩
 f28 := tc Tryz.func176
 f29 := tc Tryz.func177
 f46 := ⟨Tryz.f228.name, by decide, tc Tryz.func228⟩
 f47 := tc Tryz.func229
 f48 := tc Tryz.func230
 f49 := ⟨Tryz.f231.name, by decide, tc Tryz.func231⟩
 f50 := ⟨Tryz.f232.name, by decide, tc Tryz.func232⟩
 f57 := ⟨Tryz.f249.name, by decide, tc Tryz.func249⟩
 t0 := Tryz.underlying0
 a0 := Tryz.isAgg0
 z0 := Tryz.sizeOf0
 v0 := Tryz.zeroValue0
 t3 := Tryz.underlying3
 a3 := Tryz.isAgg3
 z3 := Tryz.sizeOf3
 v3 := Tryz.zeroValue3
 t4 := Tryz.underlying4
 a4 := Tryz.isAgg4
 z4 := Tryz.sizeOf4
 v4 := Tryz.zeroValue4
 t5 := Tryz.underlying5
 a5 := Tryz.isAgg5
 z5 := Tryz.sizeOf5
 v5 := Tryz.zeroValue5
 t9 := Tryz.underlying9
 a9 := Tryz.isAgg9
 z9 := Tryz.sizeOf9
 v9 := Tryz.zeroValue9
 t22 := Tryz.underlying86
 a22 := Tryz.isAgg86
 z22 := Tryz.sizeOf86
 v22 := Tryz.zeroValue86
 a24 := Tryz.isAgg60
 z24 := Tryz.sizeOf60
 t25 := Tryz.underlying91
 a25 := Tryz.isAgg91
 z25 := Tryz.sizeOf91
 v25 := Tryz.zeroValue91
 t39 := Tryz.underlying56
 a39 := Tryz.isAgg56
 z39 := Tryz.sizeOf56
 v39 := Tryz.zeroValue56
 t45 := Tryz.underlying221
 a45 := Tryz.isAgg221
 z45 := Tryz.sizeOf221
 v45 := Tryz.zeroValue221
 t46 := Tryz.underlying222
 a46 := Tryz.isAgg222
 z46 := Tryz.sizeOf222
 v46 := Tryz.zeroValue222
 t50 := Tryz.underlying134
 a50 := Tryz.isAgg134
 z50 := Tryz.sizeOf134
 v50 := Tryz.zeroValue134
 t53 := Tryz.underlying26
 a53 := Tryz.isAgg26
 z53 := Tryz.sizeOf26
 v53 := Tryz.zeroValue26
 t55 := Tryz.underlying188
 a55 := Tryz.isAgg188
 z55 := Tryz.sizeOf188
 v55 := Tryz.zeroValue188
 t66 := Tryz.underlying248
 a66 := Tryz.isAgg248
 z66 := Tryz.sizeOf248
 v66 := Tryz.zeroValue248
 t70 := Tryz.underlying252
 a70 := Tryz.isAgg252
 z70 := Tryz.sizeOf252
 v70 := Tryz.zeroValue252
 t76 := Tryz.underlying267
 a76 := Tryz.isAgg267
 z76 := Tryz.sizeOf267
 v76 := Tryz.zeroValue267
 t77 := Tryz.underlying268
 a77 := Tryz.isAgg268
 z77 := Tryz.sizeOf268
 v77 := Tryz.zeroValue268 }
end Go.Proofs
end
namespace Go.Proofs.YtbiopedpceddeaaGreatDoor
section
open Go.RowKit Go.Maps Go.Sort
namespace KT
def RowAt (W : World) (g : Nat) (e : Value × List Int) : Prop := ∃ A n c, e.1 = .slice A n c ∧ n ≤ 1000000 ∧ SlAt (IntR .i64) W A n e.2 ∧ ∀ b o, A = some ⟨b, o, none⟩ → b ≠ g
theorem cmpL_swo {α : Type} (f : α → List Int) : SWO (ltOf fun x y => cmpL (f x) (f y)) := by
 have key : ∀ x y, (ltOf (fun x y => cmpL (f x) (f y)) x y = true ↔ ltL (f x) (f y)) := fun x y => by
  unfold ltOf
  rw [decide_eq_true_iff, cmpL_lt]
 have keyf : ∀ x y, (ltOf (fun x y => cmpL (f x) (f y)) x y = false ↔ ¬ ltL (f x) (f y)) := fun x y => by
  rw [← key, Bool.not_eq_true]
 refine ⟨fun x => (keyf x x).2 (ltL_irr _), fun x y z h1 h2 => (key x z).2 (ltL_tr _ _ _ ((key x y).1 h1) ((key y z).1 h2)), fun x y z h1 h2 => (keyf x z).2 fun h => ?_⟩
 rw [keyf] at h1 h2
 rcases ltL_total (f x) (f y) with h | h' | h'
 · exact h1 h
 · rw [h'] at h
   exact h2 h
 · exact h2 (ltL_tr _ _ _ h' h)
theorem slSort {α : Type} [Inhabited α] {enc : α → Value} {W : World} {blk off m : Nat} {dk : Array α} {os : Array Obj} {A : Option Addr} {n : Nat} {xs : List Int} (h : SlAt (IntR .i64) W A n xs) (hA : ∀ b o, A = some ⟨b, o, none⟩ → b ≠ blk) : SlAt (IntR .i64) (sortWorld enc W blk off m dk os) A n xs := by
 refine ⟨h.1, h.2.1, fun k x hx => ?_⟩
 obtain ⟨b, o, u, e, hb, hc, hr⟩ := h.2.2 k x hx
 have hne := hA b o e
 have hsz : b < (putRow enc (Sort.ahead W m) blk off dk).heap.size := by simpa [putRow, mapBlock, Sort.ahead] using hb
 have hh : (sortWorld enc W blk off m dk os).heap[b]? = W.heap[b]? := by
  unfold sortWorld
  rw [heap_grow_old _ _ hsz]
  have : blk ≠ b := fun e => hne e.symm
  simp [putRow, mapBlock, Sort.ahead, Array.getElem?_modify, this]
 refine ⟨b, o, u, e, ?_, ?_, hr⟩
 · have h1 := Array.getElem?_eq_getElem hb
   rw [← hh] at h1
   exact (gA h1).1
 · rw [← hc]
   unfold World.cell?
   rw [hh]
theorem kSort_any {es : List (Value × List Int)} {g off c n : Nat} {W : World} (hn : es.length = n) (hn0 : 0 < n) (hn1 : n ≤ 1000000) (ho : OwnAt W 60 1 (.slice (some ⟨g, off, none⟩) n c) n (es.map Prod.fst)) (hr : ∀ e ∈ es, RowAt W g e) :
 Calls Tryz.prog 61 #[.slice (some ⟨g, off, none⟩) n c, .func (.func 62) #[] #[]] W fun e w' => e = .returned (.tuple #[]) ∧
  ∃ fs : List (Value × List Int), fs.Perm es ∧ (fs.map Prod.snd).Pairwise (fun a b => ¬ ltL b a) ∧ OwnAt w' 60 1 (.slice (some ⟨g, off, none⟩) n c) n (fs.map Prod.fst) ∧ W.grownBy w' (some g) := by
 subst hn
 rcases ho.2 with ⟨e, h0⟩ | ⟨g', off', cap, cur, e, hc, h1, h2, h3, h4⟩
 · omega
 injection e with e1 e2 e3
 injection e1 with e1
 injection e1 with e1 e4
 subst e1 e4 e3
 have hgl : g < W.heap.size := (gA hc).1
 letI : Inhabited (Fin es.length) := ⟨⟨0, hn0⟩⟩
 obtain ⟨enc, henc⟩ : ∃ enc : Fin es.length → Value, ∀ i, enc i = es[i].1 := ⟨fun i => es[i].1, fun _ => rfl⟩
 obtain ⟨ps, hps⟩ : ∃ ps : Fin es.length → List Int, ∀ i, ps i = es[i].2 := ⟨fun i => es[i].2, fun _ => rfl⟩
 obtain ⟨d, hsz, hdl⟩ : ∃ d : Array (Fin es.length), d.size = es.length ∧ d.toList = List.finRange es.length := ⟨(List.finRange es.length).toArray, by simp, by simp⟩
 have heg : ∀ args w, (callFunc 62 args).run Tryz.prog w = .ok (.enter 62 args) w := enters_of Tryz.func62 (by kernel_rfl) rfl
 have hone : OneCell enc := fun i => by
  obtain ⟨A, m, cc, e, _⟩ := hr es[i] (List.getElem_mem _)
  rw [henc, e]
  rfl
 have hcmp : CmpLays1 Tryz.prog 62 #[] enc (fun i j => cmpL (ps i) (ps j)) g off d.size W := fun m os dk hdk x y => by
  obtain ⟨A1, m1, d1, e1', l1, s1, b1⟩ := hr es[x] (List.getElem_mem _)
  obtain ⟨A2, m2, d2, e2', l2, s2, b2⟩ := hr es[y] (List.getElem_mem _)
  have hc1 := kCompare_any (c1 := d1) (c2 := d2) (slSort (enc := enc) (off := off) (m := m) (dk := dk) (os := os) s1 b1) (slSort (enc := enc) (off := off) (m := m) (dk := dk) (os := os) s2 b2) l1 l2
  rw [← e1', ← e2', ← henc, ← henc, ← hps, ← hps] at hc1
  exact hc1.mono fun e w' h => ⟨h.1, 0, #[], by rw [h.2, grow_empty, World.drewN_zero]⟩
 have hdj : ∀ j (hj : j < d.size), d[j] = ⟨j, by omega⟩ := fun j hj => by
  have h : d.toList[j]? = some d[j] := by rw [Array.getElem?_toList, Array.getElem?_eq_getElem hj]
  rw [hdl, List.getElem?_eq_getElem (by simpa using (by omega : j < es.length))] at h
  injection h with h
  rw [← h]
  simp
 have hH : Holds enc W g off d := fun j hj => by
  have hj' : j < es.length := by omega
  have hcj := h4 j es[j].1 (by rw [List.getElem?_map, List.getElem?_eq_getElem hj']; rfl)
  refine ⟨?_, by simp [World.frozen?, hc]⟩
  rw [getElem!_pos _ j hj, hdj j hj, henc]
  unfold World.cell?
  rw [hc]
  simpa using hcj
 have hs := Any.slices_SortFunc (α := Fin es.length) Tryz.sortF enc hone (fun i j => cmpL (ps i) (ps j)) (cmpL_swo ps) 62 #[] g off c d W heg hcmp hH hgl (by omega)
 rw [hsz] at hs
 refine Calls.mono hs fun e w' h => ?_
 obtain ⟨he, d', q, os, hp, hst, rfl⟩ := h
 refine ⟨he, d'.toList.map fun i => es[i], ?_, ?_, ?_, ?_⟩
 · obtain ⟨p1, _, p3⟩ := hp
   have ex : ∀ (a : Array (Fin es.length)) (m : Nat), a.size = m → a.extract 0 m = a := fun a m h => by subst h; exact Array.extract_size
   have e1 : d'.extract 0 es.length = d' := ex d' _ (p1.trans hsz)
   have e2 : d.extract 0 es.length = d := ex d _ hsz
   rw [e1, e2, hdl] at p3
   have h := p3.map fun i => es[i]
   have e3 : (List.finRange es.length).map (fun i => es[i]) = es := by
    refine List.ext_getElem (by simp) fun k h1 h2 => ?_
    simp
   rw [e3] at h
   exact h
 · rw [List.map_map, List.pairwise_iff_getElem]
   intro i j hi hj hij
   have hd1 : d'.size = es.length := hp.1.trans hsz
   have hj' : j < d'.size := by simpa using hj
   have h := hst i j (Nat.zero_le _) hij (by omega)
   rw [getElem!_pos _ j hj', getElem!_pos _ i (by omega)] at h
   unfold ltOf at h
   rw [decide_eq_false_iff_not, cmpL_lt, hps, hps] at h
   simpa using h
 · have hd1 : d'.size = es.length := hp.1.trans hsz
   refine ⟨by simp [hd1], .inr ⟨g, off, c, putCells enc off d' cur, rfl, ?_, h1, h2, by simp [putCells]; omega, fun j u hu => ?_⟩⟩
   · unfold sortWorld
     rw [heap_grow_old _ _ (by simpa [putRow, mapBlock, Sort.ahead] using hgl)]
     simp [putRow, mapBlock, Sort.ahead, Array.getElem?_modify, hc, onCells]
   · rw [List.map_map, List.getElem?_map] at hu
     have hj : j < d'.size := by
      by_cases hj : j < d'.size
      · exact hj
      · rw [List.getElem?_eq_none (by simpa using Nat.le_of_not_lt hj)] at hu
        cases hu
     rw [Array.getElem?_toList, Array.getElem?_eq_getElem hj] at hu
     simp only [Option.map_some, Option.some.injEq, Function.comp] at hu
     have hlt : off + j < cur.size := by omega
     unfold putCells
     rw [Array.getElem?_mapIdx, Array.getElem?_eq_getElem hlt]
     simp only [Option.map_some]
     rw [if_pos (by omega), show off + j - off = j by omega, getElem!_pos _ j hj, henc, ← hu]
 · refine ⟨rfl, rfl, rfl, by simp [sortWorld, putRow, mapBlock, Sort.ahead], fun k hk hne => ?_⟩
   unfold sortWorld
   rw [heap_grow_old _ _ (by simpa [putRow, mapBlock, Sort.ahead] using hk)]
   have : g ≠ k := fun e => hne (by rw [e])
   simp [putRow, mapBlock, Sort.ahead, Array.getElem?_modify, this]
theorem kSort_none (A : Option Addr) (c : Nat) (v : Value) (W : World) : Calls Tryz.prog 61 #[.slice A 0 c, v] W fun e w' => e = .returned (.tuple #[]) ∧ w' = W :=
 AnyF.slices_SortFunc_none { Tryz.sortF with } A c v W
end KT
end
section
open Go.RowKit Go.Maps
namespace KT
def cmpFE (x : List Int) : List (Value × List Int) → List (Value × List Int)
 | [] => []
 | e :: l => if e.2 = x then cmpFE e.2 l else e :: cmpFE e.2 l
def compE : List (Value × List Int) → List (Value × List Int)
 | [] => []
 | e :: l => e :: cmpFE e.2 l
theorem cmpFE_snd : ∀ (l : List (Value × List Int)) (x : List Int), (cmpFE x l).map Prod.snd = compFrom x (l.map Prod.snd) := by
 intro l
 induction l with
 | nil => intro x; rfl
 | cons e l ih =>
  intro x
  rw [cmpFE, List.map_cons, compFrom]
  split
  · exact ih _
  · rw [List.map_cons, ih]
theorem compE_snd (l : List (Value × List Int)) : (compE l).map Prod.snd = compT (l.map Prod.snd) := by
 cases l with
 | nil => rfl
 | cons e l => rw [compE, List.map_cons, cmpFE_snd]; rfl
theorem cmpFE_snoc : ∀ (l : List (Value × List Int)) (x : List Int) (e : Value × List Int), cmpFE x (l ++ [e]) = cmpFE x l ++ (if e.2 = ((l.getLast?).map Prod.snd).getD x then [] else [e]) := by
 intro l
 induction l with
 | nil => intro x e; rw [List.nil_append, cmpFE]; split <;> simp_all [cmpFE]
 | cons a l ih =>
  intro x e
  have hl : (((a :: l).getLast?).map Prod.snd).getD x = ((l.getLast?).map Prod.snd).getD a.2 := by
   cases l with
   | nil => simp
   | cons b l =>
    rw [List.getLast?_cons_cons]
    cases h : (b :: l).getLast? with
    | none => simp at h
    | some z => rfl
  rw [List.cons_append, cmpFE, cmpFE, hl]
  split
  · exact ih _ _
  · rw [ih, List.cons_append]
theorem compE_snoc {es : List (Value × List Int)} {k : Nat} {a e : Value × List Int} (ha : es[k]? = some a) (he : es[k + 1]? = some e) : compE (es.take (k + 2)) = compE (es.take (k + 1)) ++ (if e.2 = a.2 then [] else [e]) := by
 have h1 : es.take (k + 2) = es.take (k + 1) ++ [e] := by rw [List.take_add_one, he]; rfl
 have h2 : es.take (k + 1) = es.take k ++ [a] := by rw [List.take_add_one, ha]; rfl
 rw [h1]
 cases hc : es.take (k + 1) with
 | nil => rw [h2] at hc; simp at hc
 | cons b l =>
  rw [List.cons_append, compE, compE, cmpFE_snoc, List.cons_append]
  have hlast : (es.take (k + 1)).getLast? = some a := by rw [h2]; simp
  rw [hc] at hlast
  have : ((l.getLast?).map Prod.snd).getD b.2 = a.2 := by
   cases l with
   | nil => simp at hlast; rw [hlast]; rfl
   | cons z l =>
    rw [List.getLast?_cons_cons] at hlast
    rw [hlast]
    rfl
  rw [this]
theorem compE_le (es : List (Value × List Int)) : (compE es).length ≤ es.length := by
 have h : ∀ (l : List (Value × List Int)) (x : List Int), (cmpFE x l).length ≤ l.length := by
  intro l
  induction l with
  | nil => intro x; simp [cmpFE]
  | cons e l ih =>
   intro x
   rw [cmpFE]
   have := ih e.2
   split
   · simp only [List.length_cons]; omega
   · simp only [List.length_cons]; omega
 cases es with
 | nil => simp [compE]
 | cons e l => rw [compE]; have := h l e.2; simp only [List.length_cons]; omega
theorem compE_sub (es : List (Value × List Int)) : ∀ e ∈ compE es, e ∈ es := by
 have h : ∀ (l : List (Value × List Int)) (x : List Int), ∀ e ∈ cmpFE x l, e ∈ l := by
  intro l
  induction l with
  | nil => intro x e h; cases h
  | cons a l ih =>
   intro x e he
   rw [cmpFE] at he
   split at he
   · exact List.mem_cons_of_mem _ (ih _ e he)
   · rcases List.mem_cons.1 he with rfl | he
     · simp
     · exact List.mem_cons_of_mem _ (ih _ e he)
 cases es with
 | nil => intro e h; cases h
 | cons a l =>
  intro e he
  rw [compE] at he
  rcases List.mem_cons.1 he with rfl | he
  · simp
  · exact List.mem_cons_of_mem _ (h _ _ e he)
end KT
end
section
open Go.RowKit Go.Maps
namespace KT
theorem slCell {A : Option Addr} {n : Nat} {xs : List Int} {W : World} (h : SlAt (IntR .i64) W A n xs) (hn : 0 < n) : ∃ b o, A = some ⟨b, o, none⟩ ∧ ∀ j, j < xs.length → W.cell? ⟨b, o + j, none⟩ = some (.int .i64 (xs.getD j 0)) := by
 obtain ⟨_, b, o, _, _, rfl, _⟩ := h.at_ hn
 refine ⟨b, o, rfl, fun j hj => ?_⟩
 obtain ⟨x, b', o', u, hx, e, _, hc, rfl⟩ := h.at_ (k := j) (by have := h.len; omega)
 cases e
 rw [hc, List.getD_eq_getElem?_getD, hx]
 rfl
theorem kEqual_any {xs ys : List Int} {A1 A2 : Option Addr} {n1 c1 n2 c2 : Nat} {W : World} (h1 : SlAt (IntR .i64) W A1 n1 xs) (h2 : SlAt (IntR .i64) W A2 n2 ys) :
 Calls Tryz.prog 64 #[.slice A1 n1 c1, .slice A2 n2 c2] W fun e w' => e = .returned (.bool (decide (xs = ys))) ∧ ∃ q, w' = W.drewN q := by
 have hl1 := h1.len
 have hl2 := h2.len
 by_cases hne : n1 = n2
 · subst hne
   by_cases h0 : n1 = 0
   · subst h0
     obtain rfl := List.length_eq_zero_iff.1 hl1
     obtain rfl := List.length_eq_zero_iff.1 hl2
     exact (Tryz.slices_Equal_int_empty A1 A2 c1 0 c2 W (by omega)).mono fun e w' h => ⟨by rw [h.1]; rfl, 0, by rw [h.2, World.drewN_zero]⟩
   · obtain ⟨b1, o1, rfl, g1⟩ := slCell h1 (by omega)
     obtain ⟨b2, o2, rfl, g2⟩ := slCell h2 (by omega)
     refine (Tryz.slices_Equal_int b1 o1 n1 c1 b2 o2 n1 c2 xs ys W (by omega) (by omega) h1.le h1.le g1 g2).mono fun e w' h => ⟨?_, h.2⟩
     rw [h.1, List.take_of_length_le (by omega), List.take_of_length_le (by omega)]
     congr 1
     by_cases e : xs = ys <;> simp [e]
 · refine (Tryz.slices_Equal_int_lens A1 A2 n1 c1 n2 c2 W hne).mono fun e w' h => ⟨?_, 0, by rw [h.2, World.drewN_zero]⟩
   rw [h.1, decide_eq_false fun e => hne (by rw [← hl1, ← hl2, e])]
end KT
end
end Go.Proofs.YtbiopedpceddeaaGreatDoor
