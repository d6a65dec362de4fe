/- Merged: C4KE1. -/
import Derived.Test.YtbiopedpceddeaaGreatDoorW22
import Derived.Test.YtbiopedpceddeaaGreatDoorW23
set_option linter.unusedVariables false
set_option linter.unusedSimpArgs false
namespace Go.Proofs.YtbiopedpceddeaaGreatDoor
open Go.RowKit Go.Maps Go.Lib
set_option linter.unusedVariables false
set_option linter.unusedSimpArgs false
namespace KT
/-- texts, each behind a byte -/
def tl (c : UInt8) (l : List (List UInt8)) : List UInt8 := l.flatMap fun x => c :: x
theorem tl_snoc (c : UInt8) (l : List (List UInt8)) (x : List UInt8) : tl c (l ++ [x]) = tl c l ++ c :: x := by simp [tl]
theorem jn_tl (c : UInt8) (x : List UInt8) (l : List (List UInt8)) : jn c (x :: l) = x ++ tl c l := by
  induction l generalizing x with
  | nil => simp [jn, tl]
  | cons y l ih =>
    rw [jn, ih]
    simp [tl]
theorem tl_len {c : UInt8} {l : List (List UInt8)} {k : Nat} (h : ∀ x ∈ l, x.length ≤ k) : (tl c l).length ≤ l.length * (k + 1) := by
  induction l with
  | nil => simp [tl]
  | cons x l ih =>
    have h1 := h x (by simp)
    have h2 := ih (fun y hy => h y (by simp [hy]))
    have e : (tl c (x :: l)).length = x.length + 1 + (tl c l).length := by simp [tl]; omega
    have e2 : (x :: l).length * (k + 1) = l.length * (k + 1) + (k + 1) := by rw [List.length_cons, Nat.succ_mul]
    omega
theorem fmt_any {n : Int} (h0 : 0 ≤ n) (h1 : n < 18446744073709551616) {W : World} (hT : Tens W) :
    Calls Tryz.prog 134 #[.int .u64 n, .int .i64 10] W fun e w' => e = .returned (.string ⟨(itoa n).toArray⟩) ∧ Below W.heap.size W w' := by
  have h := kFormatUint_any (u := n.toNat) (by omega) hT
  rw [show ((n.toNat : Nat) : Int) = n by omega] at h
  rw [show itoa n = decDigits n.toNat from by unfold itoa; rw [if_neg (by omega)]]
  exact h

theorem cells5' {w : World} {g : Nat} {T : TypeId} {a0 a1 a2 a3 a4 : Value} (h : w.heap[g]? = some (.cells #[a0, a1, a2, a3, a4] T (0, 0))) : w.cell? ⟨g, 0, none⟩ = some a0 ∧ w.cell? ⟨g, 1, none⟩ = some a1 ∧ w.cell? ⟨g, 2, none⟩ = some a2 ∧ w.cell? ⟨g, 3, none⟩ = some a3 ∧ w.cell? ⟨g, 4, none⟩ = some a4 := by
  refine ⟨?_, ?_, ?_, ?_, ?_⟩ <;> rw [cell_of_row _ _ _ _ _ (0, 0) h] <;> rfl

set_option maxRecDepth 100000 in
set_option maxHeartbeats 4000000 in
theorem nodeText_any {x : T.Nd} {A : Option Addr} {c : Nat} {W : World} (hx : NdI x) (hS : SlAt (IntR .i64) W A x.args.length x.args) (hT : Tens W) :
    Calls Tryz.prog 133 #[.agg #[.int .i64 x.op, .int .i64 x.w, .int .i64 x.fl, .slice A x.args.length c, .int .u32 x.imm]] W fun e w' => e = .returned (.string ⟨(nodeW x).toArray⟩) ∧ Below W.heap.size W w' := by
  obtain ⟨W1, hW1⟩ : ∃ W1, W1 = W.alloc (.cells #[.int .i64 x.op, .int .i64 x.w, .int .i64 x.fl, .slice A x.args.length c, .int .u32 x.imm] 62) := ⟨_, rfl⟩
  have hb1 : Below W.heap.size W W1 := by rw [hW1]; exact (Below.refl _ _).alloc (Nat.le_refl _) _
  have hrow : W1.heap[W.heap.size]? = some (.cells #[.int .i64 x.op, .int .i64 x.w, .int .i64 x.fl, .slice A x.args.length c, .int .u32 x.imm] 62 (0, 0)) := by rw [hW1]; exact heap_alloc_new W _
  have HB1 := Lib.hid hb1
  have HS := Lib.hid (fun X (h : Below W1.heap.size W1 X) => (hS.below (monoInt _) hb1).below (monoInt _) h)
  have HT := Lib.hid (fun X (h : Below W1.heap.size W1 X) => (hT.below hb1).below h)
  have Hrow := Lib.hid (fun (X : World) (h : Below W1.heap.size W1 X) => (h.block _ (Array.getElem?_eq_some_iff.1 hrow).1).trans hrow)
  have Hag := Lib.hid hx.args
  have hal := hx.len
  obtain ⟨i0, i1⟩ := hx.imm
  obtain ⟨sa, hsa⟩ : ∃ s, s = itoa x.op := ⟨_, rfl⟩
  obtain ⟨sb, hsb⟩ : ∃ s, s = itoa x.w := ⟨_, rfl⟩
  obtain ⟨sc, hsc⟩ : ∃ s, s = itoa x.fl := ⟨_, rfl⟩
  obtain ⟨sd, hsd⟩ : ∃ s, s = itoa x.imm := ⟨_, rfl⟩
  have ha : sa.length ≤ 20 := by rw [hsa]; exact itoa_len hx.op
  have hb : sb.length ≤ 20 := by rw [hsb]; exact itoa_len hx.w
  have hc : sc.length ≤ 20 := by rw [hsc]; exact itoa_len hx.fl
  have hd : sd.length ≤ 20 := by rw [hsd]; exact itoa_len ⟨by omega, by omega⟩
  obtain ⟨s1, hs1⟩ : ∃ s, s = sa ++ [46] := ⟨_, rfl⟩
  obtain ⟨s2, hs2⟩ : ∃ s, s = s1 ++ sb := ⟨_, rfl⟩
  obtain ⟨s3, hs3⟩ : ∃ s, s = s2 ++ [46] := ⟨_, rfl⟩
  obtain ⟨s4, hs4⟩ : ∃ s, s = s3 ++ sc := ⟨_, rfl⟩
  obtain ⟨s5, hs5⟩ : ∃ s, s = s4 ++ [46] := ⟨_, rfl⟩
  obtain ⟨P, hP⟩ : ∃ P, P = s5 ++ sd := ⟨_, rfl⟩
  have l1 : s1.length ≤ 21 := by rw [hs1, List.length_append]; simp; omega
  have l2 : s2.length ≤ 41 := by rw [hs2, List.length_append]; omega
  have l3 : s3.length ≤ 42 := by rw [hs3, List.length_append]; simp; omega
  have l4 : s4.length ≤ 62 := by rw [hs4, List.length_append]; omega
  have l5 : s5.length ≤ 63 := by rw [hs5, List.length_append]; simp; omega
  have HP := Lib.hid hP
  have H1 := Lib.hid hs1
  have H2 := Lib.hid hs2
  have H3 := Lib.hid hs3
  have H4 := Lib.hid hs4
  have H5 := Lib.hid hs5
  have HPl := Lib.hid (show P.length ≤ 83 from by rw [hP, List.length_append]; omega)
  have HW := Lib.hid (show nodeW x = P ++ tl 44 (x.args.map itoa) from by
    unfold nodeW
    rw [jn_tl, hP, hs5, hs4, hs3, hs2, hs1, hsa, hsb, hsc, hsd]
    simp [jn])
  have hwi : IntKind.u64.wrap x.imm = x.imm := by rw [IntKind.wrap_u64]; omega
  obtain ⟨c0, c1, c2, c3, c4⟩ := cells5' hrow
  obtain ⟨ov⟩ := ov_ex W1
  have o0 := ov.cell c0
  have o1 := ov.cell c1
  have o2 := ov.cell c2
  have o4 := ov.cell c4
  have HI1 := Lib.hid (fun u => calls_over (by have h := kItoa_any hx.op (HT.out _ (ov.below u)); rw [← hsa] at h; exact h))
  have HI2 := Lib.hid (fun u => calls_over (by have h := kItoa_any hx.w (HT.out _ (ov.below u)); rw [← hsb] at h; exact h))
  have HI3 := Lib.hid (fun u => calls_over (by have h := kItoa_any hx.fl (HT.out _ (ov.below u)); rw [← hsc] at h; exact h))
  have HI4 := Lib.hid (fun u => calls_over (by have h := fmt_any i0 (by omega : x.imm < 18446744073709551616) (HT.out _ (ov.below u)); rw [← hsd] at h; exact h))
  have HW1 := Lib.hid hW1
  clear hx hS hT hb1 hrow hsa hsb hsc hsd hP hs1 hs2 hs3 hs4 hs5 hW1 c0 c1 c2 c3 c4
  go_enter Tryz.func133, Tryz.ntmps133
  go_upto_region 1 with (fail)
  rw [← HW1.out]
  refine wp_region_ovq ov (by kernel_rfl) (by kernel_rfl) ?_
  iterate 2 (go_big_quiet_step (fail))
  go_big_quiet_step ((go_at_call 86; with_reducible exact HI1.out _))
  refine BigFrame.wpQuiet_want (by rfl) ?_
  intro K hK
  refine quiet_adds rfl (sa) ([46]) rfl rfl (by (try simp only [List.length_cons, List.length_nil]); omega) ?_
  refine hK _ ?_
  clear hK K
  rw [← H1.out]
  try simp only [Act.put, List.setIfInBounds_toArray, List.set_cons_zero, List.set_cons_succ]
  iterate 2 (go_big_quiet_step (fail))
  go_big_quiet_step ((go_at_call 86; with_reducible exact HI2.out _))
  refine BigFrame.wpQuiet_want (by rfl) ?_
  intro K hK
  refine quiet_adds rfl (s1) (sb) rfl rfl (by (try simp only [List.length_cons, List.length_nil]); omega) ?_
  refine hK _ ?_
  clear hK K
  rw [← H2.out]
  try simp only [Act.put, List.setIfInBounds_toArray, List.set_cons_zero, List.set_cons_succ]
  refine BigFrame.wpQuiet_want (by rfl) ?_
  intro K hK
  refine quiet_adds rfl (s2) ([46]) rfl rfl (by (try simp only [List.length_cons, List.length_nil]); omega) ?_
  refine hK _ ?_
  clear hK K
  rw [← H3.out]
  try simp only [Act.put, List.setIfInBounds_toArray, List.set_cons_zero, List.set_cons_succ]
  iterate 2 (go_big_quiet_step (fail))
  go_big_quiet_step ((go_at_call 86; with_reducible exact HI3.out _))
  refine BigFrame.wpQuiet_want (by rfl) ?_
  intro K hK
  refine quiet_adds rfl (s3) (sc) rfl rfl (by (try simp only [List.length_cons, List.length_nil]); omega) ?_
  refine hK _ ?_
  clear hK K
  rw [← H4.out]
  try simp only [Act.put, List.setIfInBounds_toArray, List.set_cons_zero, List.set_cons_succ]
  refine BigFrame.wpQuiet_want (by rfl) ?_
  intro K hK
  refine quiet_adds rfl (s4) ([46]) rfl rfl (by (try simp only [List.length_cons, List.length_nil]); omega) ?_
  refine hK _ ?_
  clear hK K
  rw [← H5.out]
  try simp only [Act.put, List.setIfInBounds_toArray, List.set_cons_zero, List.set_cons_succ]
  iterate 3 (go_big_quiet_step (fail))
  go_big_quiet_step ((go_at_call 134; with_reducible exact HI4.out _))
  refine BigFrame.wpQuiet_want (by rfl) ?_
  intro K hK
  refine quiet_adds rfl (s5) (sd) rfl rfl (by (try simp only [List.length_cons, List.length_nil]); omega) ?_
  refine hK _ ?_
  clear hK K
  rw [← HP.out]
  try simp only [Act.put, List.setIfInBounds_toArray, List.set_cons_zero, List.set_cons_succ]
  repeat (go_big_quiet_step (fail))
  refine wpQuiet_nil ?_
  rintro _ ⟨u, rfl⟩
  have Hb2 := Lib.hid (ov.below u)
  clear o0 o1 o2 o4 HI1 HI2 HI3 HI4
  generalize ov.f u = w2 at *
  clear ov ha hb hc hd hwi HP l1 l2 l3 l4 l5 H1 H2 H3 H4 H5
  obtain ⟨_, _, _, e3, _⟩ := cells5' (Hrow.out _ Hb2.out)
  go_wp2_with fail
  go_loopg [3, 28] (x.args.length + 1) (fun gg s3 si wr => ∃ j : Nat, j ≤ x.args.length ∧ s3 = .string ⟨(P ++ tl 44 ((x.args.take j).map itoa)).toArray⟩ ∧ si = .int .i64 (j : Int) ∧ gg + j = x.args.length + 1 ∧ Hid (Below W1.heap.size W1 wr))
  case atStart => exact ⟨0, Nat.zero_le _, by simp [tl], rfl, by omega, Hb2⟩
  case round =>
    obtain ⟨j, hj, rfl, rfl, hgk, Hbr⟩ := hrel
    have Hgk := Lib.hid hgk
    clear hgk e3
    obtain ⟨_, _, _, e3, _⟩ := cells5' (Hrow.out _ Hbr.out)
    obtain ⟨t, ht⟩ : ∃ t, t = P ++ tl 44 ((x.args.take j).map itoa) := ⟨_, rfl⟩
    have htl : t.length ≤ 200 := by
      have h1 := tl_len (c := 44) (l := (x.args.take j).map itoa) (k := 20) (fun y hy => by
        obtain ⟨z, hz, rfl⟩ := List.mem_map.1 hy
        exact itoa_len (Hag.out z (List.mem_of_mem_take hz)))
      have h2 := HPl.out
      rw [ht, List.length_append]
      rw [List.length_map, List.length_take] at h1
      omega
    have Ht := Lib.hid ht
    rw [← ht]
    clear ht
    by_cases hjn : j < x.args.length
    · obtain ⟨a, ba, off, u, hxa, hAe, hba, hcell, rfl⟩ := (HS.out _ Hbr.out).at_ hjn
      subst hAe
      have Hx := Lib.hid hxa
      have hia := Hag.out a (List.mem_of_getElem? hxa)
      obtain ⟨i, hi⟩ : ∃ i, i = itoa a := ⟨_, rfl⟩
      have hil : i.length ≤ 20 := by rw [hi]; exact itoa_len hia
      have Hi := Lib.hid hi
      have Hcl := Lib.hid (by have h := kItoa_any hia (HT.out _ Hbr.out); rw [← hi] at h; exact h)
      clear hxa hia hi hba
      have n1 : ¬ 9223372036854775807 < i.length + 1 := by omega
      have n1' : ¬ 9223372036854775807 < 1 + i.length := by omega
      have n2 : ¬ 9223372036854775807 < t.length + (i.length + 1) := by omega
      have m1 := ByteArray.mk_append_mk [44] i
      have m2 := ByteArray.mk_append_mk t (44 :: i)
      go_wp2_with fail
      (with_reducible refine Hcl.out.mono ?_)
      rintro e w4 ⟨rfl, hb4⟩
      have Hb4 := Lib.hid (Hbr.out.trans (hb4.mono Hbr.out.size))
      clear hb4 Hcl
      go_wp2
      go_roundg (gk - 1)
      case measure => have := Hgk.out; omega
      case rel =>
        have := Hgk.out
        refine ⟨j + 1, by omega, ?_, by go_num, by omega, Hb4⟩
        rw [List.take_add_one, Hx.out, List.map_append]
        simp only [Option.toList_some, List.map_cons, List.map_nil]
        rw [tl_snoc, ← List.append_assoc, ← Ht.out, Hi.out]
    · obtain rfl : j = x.args.length := by omega
      have Hw := Lib.hid (show nodeW x = t from by rw [HW.out, Ht.out, List.take_length])
      go_wp2
      go_ret
      exact ⟨by rw [Hw.out]; rfl, HB1.out.trans (Hbr.out.mono HB1.out.size)⟩

set_option maxRecDepth 100000 in
set_option maxHeartbeats 4000000 in
theorem rnode_any {x : T.Nd} {A : Option Addr} {c : Nat} {W : World} (hx : NdI x) (hS : SlAt (IntR .i64) W A x.args.length x.args) (hT : Tens W) :
    Calls Tryz.prog 135 #[.agg #[.int .i64 x.op, .int .i64 x.w, .int .i64 x.fl, .slice A x.args.length c, .int .u32 x.imm]] W fun e w' => e = .returned (.string ⟨(nodeW x).toArray⟩) ∧ Below W.heap.size W w' := by
  obtain ⟨W1, hW1⟩ : ∃ W1, W1 = W.alloc (.cells #[.int .i64 x.op, .int .i64 x.w, .int .i64 x.fl, .slice A x.args.length c, .int .u32 x.imm] 62) := ⟨_, rfl⟩
  have hb1 : Below W.heap.size W W1 := by rw [hW1]; exact (Below.refl _ _).alloc (Nat.le_refl _) _
  have hrow : W1.heap[W.heap.size]? = some (.cells #[.int .i64 x.op, .int .i64 x.w, .int .i64 x.fl, .slice A x.args.length c, .int .u32 x.imm] 62 (0, 0)) := by rw [hW1]; exact heap_alloc_new W _
  have HB1 := Lib.hid hb1
  have HS := Lib.hid (fun X (h : Below W1.heap.size W1 X) => (hS.below (monoInt _) hb1).below (monoInt _) h)
  have HT := Lib.hid (fun X (h : Below W1.heap.size W1 X) => (hT.below hb1).below h)
  have Hrow := Lib.hid (fun (X : World) (h : Below W1.heap.size W1 X) => (h.block _ (Array.getElem?_eq_some_iff.1 hrow).1).trans hrow)
  have Hag := Lib.hid hx.args
  have hal := hx.len
  obtain ⟨i0, i1⟩ := hx.imm
  obtain ⟨sa, hsa⟩ : ∃ s, s = itoa x.op := ⟨_, rfl⟩
  obtain ⟨sb, hsb⟩ : ∃ s, s = itoa x.w := ⟨_, rfl⟩
  obtain ⟨sc, hsc⟩ : ∃ s, s = itoa x.fl := ⟨_, rfl⟩
  obtain ⟨sd, hsd⟩ : ∃ s, s = itoa x.imm := ⟨_, rfl⟩
  have ha : sa.length ≤ 20 := by rw [hsa]; exact itoa_len hx.op
  have hb : sb.length ≤ 20 := by rw [hsb]; exact itoa_len hx.w
  have hc : sc.length ≤ 20 := by rw [hsc]; exact itoa_len hx.fl
  have hd : sd.length ≤ 20 := by rw [hsd]; exact itoa_len ⟨by omega, by omega⟩
  obtain ⟨s1, hs1⟩ : ∃ s, s = sa ++ [46] := ⟨_, rfl⟩
  obtain ⟨s2, hs2⟩ : ∃ s, s = s1 ++ sb := ⟨_, rfl⟩
  obtain ⟨s3, hs3⟩ : ∃ s, s = s2 ++ [46] := ⟨_, rfl⟩
  obtain ⟨s4, hs4⟩ : ∃ s, s = s3 ++ sc := ⟨_, rfl⟩
  obtain ⟨s5, hs5⟩ : ∃ s, s = s4 ++ [46] := ⟨_, rfl⟩
  obtain ⟨P, hP⟩ : ∃ P, P = s5 ++ sd := ⟨_, rfl⟩
  have l1 : s1.length ≤ 21 := by rw [hs1, List.length_append]; simp; omega
  have l2 : s2.length ≤ 41 := by rw [hs2, List.length_append]; omega
  have l3 : s3.length ≤ 42 := by rw [hs3, List.length_append]; simp; omega
  have l4 : s4.length ≤ 62 := by rw [hs4, List.length_append]; omega
  have l5 : s5.length ≤ 63 := by rw [hs5, List.length_append]; simp; omega
  have HP := Lib.hid hP
  have H1 := Lib.hid hs1
  have H2 := Lib.hid hs2
  have H3 := Lib.hid hs3
  have H4 := Lib.hid hs4
  have H5 := Lib.hid hs5
  have HPl := Lib.hid (show P.length ≤ 83 from by rw [hP, List.length_append]; omega)
  have HW := Lib.hid (show nodeW x = P ++ tl 44 (x.args.map itoa) from by
    unfold nodeW
    rw [jn_tl, hP, hs5, hs4, hs3, hs2, hs1, hsa, hsb, hsc, hsd]
    simp [jn])
  have hwi : IntKind.u64.wrap x.imm = x.imm := by rw [IntKind.wrap_u64]; omega
  obtain ⟨c0, c1, c2, c3, c4⟩ := cells5' hrow
  obtain ⟨ov⟩ := ov_ex W1
  have o0 := ov.cell c0
  have o1 := ov.cell c1
  have o2 := ov.cell c2
  have o4 := ov.cell c4
  have HI1 := Lib.hid (fun u => calls_over (by have h := kItoa_any hx.op (HT.out _ (ov.below u)); rw [← hsa] at h; exact h))
  have HI2 := Lib.hid (fun u => calls_over (by have h := kItoa_any hx.w (HT.out _ (ov.below u)); rw [← hsb] at h; exact h))
  have HI3 := Lib.hid (fun u => calls_over (by have h := kItoa_any hx.fl (HT.out _ (ov.below u)); rw [← hsc] at h; exact h))
  have HI4 := Lib.hid (fun u => calls_over (by have h := fmt_any i0 (by omega : x.imm < 18446744073709551616) (HT.out _ (ov.below u)); rw [← hsd] at h; exact h))
  have HW1 := Lib.hid hW1
  clear hx hS hT hb1 hrow hsa hsb hsc hsd hP hs1 hs2 hs3 hs4 hs5 hW1 c0 c1 c2 c3 c4
  go_enter Tryz.func135, Tryz.ntmps135
  go_upto_region 1 with (fail)
  rw [← HW1.out]
  refine wp_region_ovq ov (by kernel_rfl) (by kernel_rfl) ?_
  iterate 2 (go_big_quiet_step (fail))
  go_big_quiet_step ((go_at_call 86; with_reducible exact HI1.out _))
  refine BigFrame.wpQuiet_want (by rfl) ?_
  intro K hK
  refine quiet_adds rfl (sa) ([46]) rfl rfl (by (try simp only [List.length_cons, List.length_nil]); omega) ?_
  refine hK _ ?_
  clear hK K
  rw [← H1.out]
  try simp only [Act.put, List.setIfInBounds_toArray, List.set_cons_zero, List.set_cons_succ]
  iterate 2 (go_big_quiet_step (fail))
  go_big_quiet_step ((go_at_call 86; with_reducible exact HI2.out _))
  refine BigFrame.wpQuiet_want (by rfl) ?_
  intro K hK
  refine quiet_adds rfl (s1) (sb) rfl rfl (by (try simp only [List.length_cons, List.length_nil]); omega) ?_
  refine hK _ ?_
  clear hK K
  rw [← H2.out]
  try simp only [Act.put, List.setIfInBounds_toArray, List.set_cons_zero, List.set_cons_succ]
  refine BigFrame.wpQuiet_want (by rfl) ?_
  intro K hK
  refine quiet_adds rfl (s2) ([46]) rfl rfl (by (try simp only [List.length_cons, List.length_nil]); omega) ?_
  refine hK _ ?_
  clear hK K
  rw [← H3.out]
  try simp only [Act.put, List.setIfInBounds_toArray, List.set_cons_zero, List.set_cons_succ]
  iterate 2 (go_big_quiet_step (fail))
  go_big_quiet_step ((go_at_call 86; with_reducible exact HI3.out _))
  refine BigFrame.wpQuiet_want (by rfl) ?_
  intro K hK
  refine quiet_adds rfl (s3) (sc) rfl rfl (by (try simp only [List.length_cons, List.length_nil]); omega) ?_
  refine hK _ ?_
  clear hK K
  rw [← H4.out]
  try simp only [Act.put, List.setIfInBounds_toArray, List.set_cons_zero, List.set_cons_succ]
  refine BigFrame.wpQuiet_want (by rfl) ?_
  intro K hK
  refine quiet_adds rfl (s4) ([46]) rfl rfl (by (try simp only [List.length_cons, List.length_nil]); omega) ?_
  refine hK _ ?_
  clear hK K
  rw [← H5.out]
  try simp only [Act.put, List.setIfInBounds_toArray, List.set_cons_zero, List.set_cons_succ]
  iterate 3 (go_big_quiet_step (fail))
  go_big_quiet_step ((go_at_call 134; with_reducible exact HI4.out _))
  refine BigFrame.wpQuiet_want (by rfl) ?_
  intro K hK
  refine quiet_adds rfl (s5) (sd) rfl rfl (by (try simp only [List.length_cons, List.length_nil]); omega) ?_
  refine hK _ ?_
  clear hK K
  rw [← HP.out]
  try simp only [Act.put, List.setIfInBounds_toArray, List.set_cons_zero, List.set_cons_succ]
  repeat (go_big_quiet_step (fail))
  refine wpQuiet_nil ?_
  rintro _ ⟨u, rfl⟩
  have Hb2 := Lib.hid (ov.below u)
  clear o0 o1 o2 o4 HI1 HI2 HI3 HI4
  generalize ov.f u = w2 at *
  clear ov ha hb hc hd hwi HP l1 l2 l3 l4 l5 H1 H2 H3 H4 H5
  obtain ⟨_, _, _, e3, _⟩ := cells5' (Hrow.out _ Hb2.out)
  go_wp2_with fail
  go_loopg [3, 4] (x.args.length + 1) (fun gg s3 si wr => ∃ j : Nat, j ≤ x.args.length ∧ s3 = .string ⟨(P ++ tl 44 ((x.args.take j).map itoa)).toArray⟩ ∧ si = .int .i64 (j : Int) ∧ gg + j = x.args.length + 1 ∧ Hid (Below W1.heap.size W1 wr))
  case atStart => exact ⟨0, Nat.zero_le _, by simp [tl], rfl, by omega, Hb2⟩
  case round =>
    obtain ⟨j, hj, rfl, rfl, hgk, Hbr⟩ := hrel
    have Hgk := Lib.hid hgk
    clear hgk e3
    obtain ⟨_, _, _, e3, _⟩ := cells5' (Hrow.out _ Hbr.out)
    obtain ⟨t, ht⟩ : ∃ t, t = P ++ tl 44 ((x.args.take j).map itoa) := ⟨_, rfl⟩
    have htl : t.length ≤ 200 := by
      have h1 := tl_len (c := 44) (l := (x.args.take j).map itoa) (k := 20) (fun y hy => by
        obtain ⟨z, hz, rfl⟩ := List.mem_map.1 hy
        exact itoa_len (Hag.out z (List.mem_of_mem_take hz)))
      have h2 := HPl.out
      rw [ht, List.length_append]
      rw [List.length_map, List.length_take] at h1
      omega
    have Ht := Lib.hid ht
    rw [← ht]
    clear ht
    by_cases hjn : j < x.args.length
    · obtain ⟨a, ba, off, u, hxa, hAe, hba, hcell, rfl⟩ := (HS.out _ Hbr.out).at_ hjn
      subst hAe
      have Hx := Lib.hid hxa
      have hia := Hag.out a (List.mem_of_getElem? hxa)
      obtain ⟨i, hi⟩ : ∃ i, i = itoa a := ⟨_, rfl⟩
      have hil : i.length ≤ 20 := by rw [hi]; exact itoa_len hia
      have Hi := Lib.hid hi
      have Hcl := Lib.hid (by have h := kItoa_any hia (HT.out _ Hbr.out); rw [← hi] at h; exact h)
      clear hxa hia hi hba
      have n1 : ¬ 9223372036854775807 < t.length + 1 := by omega
      have n2 : ¬ 9223372036854775807 < t.length + 1 + i.length := by omega
      have n2' : ¬ 9223372036854775807 < t.length + (i.length + 1) := by omega
      have m1 := ByteArray.mk_append_mk t [44]
      have m2 := ByteArray.mk_append_mk (t ++ [44]) i
      go_wp2_with fail
      (with_reducible refine Hcl.out.mono ?_)
      rintro e w4 ⟨rfl, hb4⟩
      have Hb4 := Lib.hid (Hbr.out.trans (hb4.mono Hbr.out.size))
      clear hb4 Hcl
      go_wp2
      go_roundg (gk - 1)
      case measure => have := Hgk.out; omega
      case rel =>
        have := Hgk.out
        refine ⟨j + 1, by omega, ?_, by go_num, by omega, Hb4⟩
        rw [List.take_add_one, Hx.out, List.map_append]
        simp only [Option.toList_some, List.map_cons, List.map_nil]
        rw [tl_snoc, ← List.append_assoc, ← Ht.out, Hi.out]
    · obtain rfl : j = x.args.length := by omega
      have Hw := Lib.hid (show nodeW x = t from by rw [HW.out, Ht.out, List.take_length])
      go_wp2
      go_ret
      exact ⟨by rw [Hw.out]; rfl, HB1.out.trans (Hbr.out.mono HB1.out.size)⟩

end KT
end Go.Proofs.YtbiopedpceddeaaGreatDoor
