/- Part. -/
import Derived.Test.YtbiopedpceddeaaGreatDoorQz14
import Derived.Lib.Strings
set_option linter.unusedVariables false
set_option linter.unusedSimpArgs false
set_option maxRecDepth 100000
set_option maxHeartbeats 16000000
namespace Go.Proofs.YtbiopedpceddeaaGreatDoor
section
open Go.RowKit Go.Maps Go.Lib
namespace KT
theorem cell_one_rowE {w : World} {g : Nat} {v : Value} {T : TypeId} (h : w.heap[g]? = some (.cells #[v] T (0, 0))) : ∀ (j : Nat) u, [v][j]? = some u → w.cell? ((⟨g, 0, none⟩ : Addr).add j) = some u := fun j u hu => by
 rcases j with _ | j
 · simp at hu
   subst hu
   have := cell_of_row _ g 0 _ _ (0, 0) h
   exact this
 · simp at hu
def ss (l : List (List UInt8)) : List Value := l.map fun l => Value.string ⟨l.toArray⟩
theorem ss_snoc (l : List (List UInt8)) (x : List UInt8) : ss (l ++ [x]) = ss l ++ [.string ⟨x.toArray⟩] := by simp [ss]
structure WS (W1 wr : World) (v : Value) (n : Nat) (ws : List (List UInt8)) : Prop where
 len : ws.length = n
 o : OwnAt wr 9 1 v n (ss ws)
 b : Below W1.heap.size W1 wr
 n : ∀ i, v.ownBlock = some i → W1.heap.size ≤ i
theorem WS.below {W1 w w' : World} {v : Value} {n : Nat} {ws : List (List UInt8)} (h : WS W1 w v n ws) (hb : Below w.heap.size w w') : WS W1 w' v n ws :=
 ⟨h.len, h.o.below hb (fun i hi => h.o.lt i hi), h.b.trans (hb.mono h.b.size), h.n⟩
theorem WS.app {W1 w w' : World} {v v' : Value} {n : Nat} {ws : List (List UInt8)} {x : List UInt8} {o : Obj} (h : WS W1 w v n ws) (hown : OwnAt w' 9 1 v' (n + 1) (ss ws ++ [.string ⟨x.toArray⟩])) (hgr : (w.alloc o).grownBy w' v.ownBlock) (hat : v'.ownBlock = v.ownBlock ∨ v'.ownBlock = some (w.heap.size + 1)) : WS W1 w' v' (n + 1) (ws ++ [x]) := by
 have hs := h.b.size
 refine ⟨by rw [List.length_append, h.len]; rfl, by rw [ss_snoc]; exact hown, (h.b.alloc hs _).grown hgr (by simp; omega) h.n, fun i hi => ?_⟩
 rcases hat with e | e
 · exact h.n i (e ▸ hi)
 · rw [e] at hi; injection hi with hi; omega
structure CdI (c : R.Cd) : Prop where
 kind : I64 c.kind
 hole : I64 c.hole
 imm : 0 ≤ c.imm ∧ c.imm < 4294967296
theorem nodeW_len {x : T.Nd} (h : NdI x) : (nodeW x).length ≤ 200 := by
 have ha := itoa_len h.op
 have hb := itoa_len h.w
 have hc := itoa_len h.fl
 have hd := itoa_len (n := x.imm) ⟨by have := h.imm; omega, by have := h.imm; omega⟩
 have h1 := tl_len (c := 44) (l := x.args.map itoa) (k := 20) (fun y hy => by
  obtain ⟨z, hz, rfl⟩ := List.mem_map.1 hy
  exact itoa_len (h.args z hz))
 have h2 := h.len
 unfold nodeW
 rw [jn_tl, List.length_append]
 rw [List.length_map] at h1
 simp only [jn, List.length_append, List.length_cons, List.length_nil]
 omega
theorem condW_len {c : R.Cd} (h : CdI c) : (condW c).length ≤ 200 := by
 have ha := itoa_len h.kind
 have hb := itoa_len h.hole
 have hd := itoa_len (n := c.imm) ⟨by have := h.imm; omega, by have := h.imm; omega⟩
 unfold condW
 simp only [jn, List.length_append, List.length_cons, List.length_nil]
 omega
theorem written_any {r : R.Rl} {nl cl nr cr np cp : Nat} {AL AR AP : Option Addr} {W : World} (hR : RlAt W r nl nr np AL AR AP) (hT : Tens W) (hnl : nl ≤ 100) (hnr : nr ≤ 100) (hnp : np ≤ 100) (hL : ∀ x ∈ r.left, NdI x) (hQ : ∀ x ∈ r.right, NdI x) (hP : ∀ c ∈ r.pre, CdI c) :
 Calls Tryz.prog 73 #[.agg #[.slice AL nl cl, .slice AR nr cr, .slice AP np cp]] W fun e w' => e = .returned (.string ⟨(textW r).toArray⟩) ∧ Below W.heap.size W w' := by
 obtain ⟨W1, hW1⟩ : ∃ W1, W1 = W.alloc (.cells #[.slice AL nl cl, .slice AR nr cr, .slice AP np cp] 33) := ⟨_, rfl⟩
 have hb1 : Below W.heap.size W W1 := by rw [hW1]; exact al0
 have hrow : W1.heap[W.heap.size]? = some (.cells #[.slice AL nl cl, .slice AR nr cr, .slice AP np cp] 33 (0, 0)) := by rw [hW1]; exact heap_alloc_new W _
 have HB1 := kH hb1
 have HR := kH (fun X (h : Below W1.heap.size W1 X) => (hR.below hb1).below h)
 have HT := kH (fun X (h : Below W1.heap.size W1 X) => (hT.below hb1).below h)
 have Hrow := kH (fun (X : World) (h : Below W1.heap.size W1 X) => (h.block _ (gA hrow).1).trans hrow)
 have HL := kH hL
 have HQ := kH hQ
 have HP := kH hP
 have Hll := kH hR.sl.len
 have Hlr := kH hR.sr.len
 have Hlp := kH hR.sp.len
 have HW1 := kH hW1
 have HS0 := kH (show WS W1 W1 (.slice none 0 0) 0 [] from ⟨rfl, OwnAt.nil_ _ _ _, Below.refl _ _, fun i e => by simp [Value.ownBlock] at e⟩)
 obtain ⟨c0, c1, c2, _⟩ := rl_cells hrow
 clear hR hT hL hQ hP hb1 hrow hW1
 go_enter Tryz.func73, Tryz.ntmps73
 go_upto_region 1 with (fail)
 rw [← HW1.out]
 go_wp2_with fail
 go_loopg [3, 13] (nl + 1) (fun gg s3 si wr => ∃ (j : Nat) (v : Value), j ≤ nl ∧ s3 = v ∧ si = .int .i64 (j : Int) ∧ gg + j = nl + 1 ∧ Hid (WS W1 wr v (j) ([] ++ (r.left.take j).map nodeW)))
 case atStart => exact ⟨0, _, Nat.zero_le _, rfl, rfl, by omega, kH (by simpa using HS0.out)⟩
 case round =>
  obtain ⟨j, v, hj, rfl, rfl, hgk, Hws⟩ := hrel
  have Hgk := kH hgk
  clear hgk
  obtain ⟨Av, cv, hv⟩ := Hws.out.o.form
  subst hv
  by_cases hjn : j < nl
  · obtain ⟨x, b, off, A, c, hx, hAe, hb, c0, c1, c2, c3, c4, hsl, i0, i1⟩ := nd_cells (HR.out _ Hws.out.b).sl hjn
    subst hAe
    have Hx := kH hx
    have Hxi := kH (HL.out x (List.mem_of_getElem? hx))
    obtain ⟨w8, hw8⟩ : ∃ w8, w8 = wr.alloc (.cells #[.int .i64 x.op, .int .i64 x.w, .int .i64 x.fl, .slice A x.args.length c, .int .u32 x.imm] 62) := ⟨_, rfl⟩
    have hb8 : Below wr.heap.size wr w8 := by rw [hw8]; exact al0
    have hr8 : w8.heap[wr.heap.size]? = some (.cells #[.int .i64 x.op, .int .i64 x.w, .int .i64 x.fl, .slice A x.args.length c, .int .u32 x.imm] 62 (0, 0)) := by rw [hw8]; exact heap_alloc_new wr _
    have Hs8 := kH (Hws.out.below hb8)
    have Hnt := kH (nodeText_any (c := c) Hxi.out (hsl.below (monoInt _) hb8) (HT.out _ Hs8.out.b))
    obtain ⟨r0, r1, r2, r3, r4⟩ := cells5' hr8
    clear hx hb8 hr8 hsl hb i0 i1
    go_upto_region 5 with (fail)
    rw [← hw8]
    clear hw8 c0 c1 c2 c3 c4
    go_wp2_with fail
    (with_reducible refine Hnt.out.mono ?_)
    rintro e w9 ⟨rfl, hb9⟩
    have Hs9 := kH (Hs8.out.below hb9)
    clear hb9 Hnt r0 r1 r2 r3 r4
    go_wp2_with (at_builtin; refine wpList_append_one' rfl (.tmp 17) (.tmp 20) 106 rfl 9 (.string ByteArray.empty) 16 Tryz.underlying106 infoS rfl _ (j) _ rfl Hs9.out.o (.string ⟨(nodeW x).toArray⟩) rfl 9 w9.heap.size rfl rfl (by omega) (by omega) ?_; intro v' wA hown hgr hat; have HsA := kH (Hs9.out.app hown hgr hat); clear hown hgr hat)
    go_roundg (gk - 1)
    case measure => have := Hgk.out; omega
    case rel =>
     have := Hgk.out
     refine ⟨j + 1, v', by omega, rfl, by go_num, by omega, kH ?_⟩
     have h := HsA.out
     rw [List.take_add_one, Hx.out, List.map_append, ← List.append_assoc]
     exact h
  · obtain rfl : nl = j := by omega
    have HsB := kH (show WS W1 wr (.slice Av (nl) cv) (nl) ([] ++ r.left.map nodeW) from by
     have h := Hws.out
     rw [List.take_of_length_le (by rw [Hll.out]; exact Nat.le_refl _)] at h
     exact h)
    clear Hws
    obtain ⟨d0, d1, d2, _⟩ := rl_cells (Hrow.out _ HsB.out.b)
    clear d0 d1 d2
    go_wp2_with (at_builtin; refine wpList_append_one' rfl (.tmp 23) (.tmp 24) 106 rfl 9 (.string ByteArray.empty) 16 Tryz.underlying106 infoS rfl _ nl _ rfl HsB.out.o (.string ⟨([61, 62]).toArray⟩) rfl 9 wr.heap.size rfl rfl (by omega) (by omega) ?_; intro v2 wC hown hgr hat; have HsC := kH (HsB.out.app hown hgr hat); clear hown hgr hat; obtain ⟨d0, d1, d2, _⟩ := rl_cells (Hrow.out _ HsC.out.b))
    go_loopg [3, 29] (nr + 1) (fun gg s3 si wr => ∃ (j : Nat) (v : Value), j ≤ nr ∧ s3 = v ∧ si = .int .i64 (j : Int) ∧ gg + j = nr + 1 ∧ Hid (WS W1 wr v (nl + 1 + j) (([] ++ r.left.map nodeW ++ [[61, 62]]) ++ (r.right.take j).map nodeW)))
    case atStart => exact ⟨0, _, Nat.zero_le _, rfl, rfl, by omega, kH (by simpa using HsC.out)⟩
    case round =>
     obtain ⟨j, v, hj, rfl, rfl, hgk, Hws⟩ := hrel
     have Hgk := kH hgk
     clear hgk
     obtain ⟨Av, cv, hv⟩ := Hws.out.o.form
     subst hv
     by_cases hjn : j < nr
     · obtain ⟨x, b, off, A, c, hx, hAe, hb, c0, c1, c2, c3, c4, hsl, i0, i1⟩ := nd_cells (HR.out _ Hws.out.b).sr hjn
       subst hAe
       have Hx := kH hx
       have Hxi := kH (HQ.out x (List.mem_of_getElem? hx))
       obtain ⟨w8, hw8⟩ : ∃ w8, w8 = wr.alloc (.cells #[.int .i64 x.op, .int .i64 x.w, .int .i64 x.fl, .slice A x.args.length c, .int .u32 x.imm] 62) := ⟨_, rfl⟩
       have hb8 : Below wr.heap.size wr w8 := by rw [hw8]; exact al0
       have hr8 : w8.heap[wr.heap.size]? = some (.cells #[.int .i64 x.op, .int .i64 x.w, .int .i64 x.fl, .slice A x.args.length c, .int .u32 x.imm] 62 (0, 0)) := by rw [hw8]; exact heap_alloc_new wr _
       have Hs8 := kH (Hws.out.below hb8)
       have Hnt := kH (nodeText_any (c := c) Hxi.out (hsl.below (monoInt _) hb8) (HT.out _ Hs8.out.b))
       obtain ⟨r0, r1, r2, r3, r4⟩ := cells5' hr8
       clear hx hb8 hr8 hsl hb i0 i1
       go_upto_region 11 with (fail)
       rw [← hw8]
       clear hw8 c0 c1 c2 c3 c4
       go_wp2_with fail
       (with_reducible refine Hnt.out.mono ?_)
       rintro e w9 ⟨rfl, hb9⟩
       have Hs9 := kH (Hs8.out.below hb9)
       clear hb9 Hnt r0 r1 r2 r3 r4
       go_wp2_with (at_builtin; refine wpList_append_one' rfl (.tmp 33) (.tmp 36) 106 rfl 9 (.string ByteArray.empty) 16 Tryz.underlying106 infoS rfl _ (nl + 1 + j) _ rfl Hs9.out.o (.string ⟨(nodeW x).toArray⟩) rfl 9 w9.heap.size rfl rfl (by omega) (by omega) ?_; intro v' wA hown hgr hat; have HsA := kH (Hs9.out.app hown hgr hat); clear hown hgr hat)
       go_roundg (gk - 1)
       case measure => have := Hgk.out; omega
       case rel =>
        have := Hgk.out
        refine ⟨j + 1, v', by omega, rfl, by go_num, by omega, kH ?_⟩
        have h := HsA.out
        rw [List.take_add_one, Hx.out, List.map_append, ← List.append_assoc]
        exact h
     · obtain rfl : nr = j := by omega
       have HsB := kH (show WS W1 wr (.slice Av (nl + 1 + nr) cv) (nl + 1 + nr) (([] ++ r.left.map nodeW ++ [[61, 62]]) ++ r.right.map nodeW) from by
        have h := Hws.out
        rw [List.take_of_length_le (by rw [Hlr.out]; exact Nat.le_refl _)] at h
        exact h)
       clear Hws
       obtain ⟨d0, d1, d2, _⟩ := rl_cells (Hrow.out _ HsB.out.b)
       clear d0 d1 d2
       go_wp2_with (at_builtin; refine wpList_append_one' rfl (.tmp 39) (.tmp 40) 106 rfl 9 (.string ByteArray.empty) 16 Tryz.underlying106 infoS rfl _ (nl + 1 + nr) _ rfl HsB.out.o (.string ⟨([105, 102]).toArray⟩) rfl 9 wr.heap.size rfl rfl (by omega) (by omega) ?_; intro v3 wD hown hgr hat; have HsD := kH (HsB.out.app hown hgr hat); clear hown hgr hat; obtain ⟨d0, d1, d2, _⟩ := rl_cells (Hrow.out _ HsD.out.b))
       go_loopg [3, 45] (np + 1) (fun gg s3 si wr => ∃ (j : Nat) (v : Value), j ≤ np ∧ s3 = v ∧ si = .int .i64 (j : Int) ∧ gg + j = np + 1 ∧ Hid (WS W1 wr v (nl + 1 + nr + 1 + j) (([] ++ r.left.map nodeW ++ [[61, 62]] ++ r.right.map nodeW ++ [[105, 102]]) ++ (r.pre.take j).map condW)))
       case atStart => exact ⟨0, _, Nat.zero_le _, rfl, rfl, by omega, kH (by simpa using HsD.out)⟩
       case round =>
        obtain ⟨j, v, hj, rfl, rfl, hgk, Hws⟩ := hrel
        have Hgk := kH hgk
        clear hgk
        obtain ⟨Av, cv, hv⟩ := Hws.out.o.form
        subst hv
        by_cases hjn : j < np
        · obtain ⟨x, b, off, hx, hAe, hb, c0, c1, c2, i0, i1⟩ := cd_cells (HR.out _ Hws.out.b).sp hjn
          subst hAe
          have Hx := kH hx
          have hxi := HP.out x (List.mem_of_getElem? hx)
          obtain ⟨w8, hw8⟩ : ∃ w8, w8 = wr.alloc (.cells #[.int .i64 x.kind, .int .i64 x.hole, .int .u32 x.imm] 88) := ⟨_, rfl⟩
          have hb8 : Below wr.heap.size wr w8 := by rw [hw8]; exact al0
          have hr8 : w8.heap[wr.heap.size]? = some (.cells #[.int .i64 x.kind, .int .i64 x.hole, .int .u32 x.imm] 88 (0, 0)) := by rw [hw8]; exact heap_alloc_new wr _
          have Hs8 := kH (Hws.out.below hb8)
          have HSc := kH (show ∀ Y, Below w8.heap.size w8 Y → Y.cell? ⟨wr.heap.size, 0, none⟩ = some (.int .i64 x.kind) ∧ Y.cell? ⟨wr.heap.size, 1, none⟩ = some (.int .i64 x.hole) ∧ Y.cell? ⟨wr.heap.size, 2, none⟩ = some (.int .u32 x.imm) from fun Y hY => by
           obtain ⟨h0, h1, h2, _⟩ := rl_cells ((hY.block _ (gA hr8).1).trans hr8)
           exact ⟨h0, h1, h2⟩)
          obtain ⟨sa, hsa⟩ : ∃ s, s = itoa x.kind := ⟨_, rfl⟩
          obtain ⟨sb, hsb⟩ : ∃ s, s = itoa x.hole := ⟨_, rfl⟩
          obtain ⟨sd, hsd⟩ : ∃ s, s = itoa x.imm := ⟨_, rfl⟩
          have ha : sa.length ≤ 20 := by rw [hsa]; exact itoa_len hxi.kind
          have hb' : sb.length ≤ 20 := by rw [hsb]; exact itoa_len hxi.hole
          have hd : sd.length ≤ 20 := by rw [hsd]; exact itoa_len ⟨by omega, by omega⟩
          obtain ⟨s1, hs1⟩ : ∃ s, s = sa ++ [46] := ⟨_, rfl⟩
          obtain ⟨s2, hs2⟩ : ∃ s, s = s1 ++ sb := ⟨_, rfl⟩
          obtain ⟨s3, hs3⟩ : ∃ s, s = s2 ++ [46] := ⟨_, rfl⟩
          obtain ⟨s4, hs4⟩ : ∃ s, s = s3 ++ sd := ⟨_, rfl⟩
          have l1 : s1.length ≤ 21 := by rw [hs1, List.length_append]; simp; omega
          have l2 : s2.length ≤ 41 := by rw [hs2, List.length_append]; omega
          have l3 : s3.length ≤ 42 := by rw [hs3, List.length_append]; simp; omega
          have n1 : ¬ 9223372036854775807 < sa.length + 1 := by omega
          have n2 : ¬ 9223372036854775807 < s1.length + sb.length := by omega
          have n3 : ¬ 9223372036854775807 < s2.length + 1 := by omega
          have n4 : ¬ 9223372036854775807 < s3.length + sd.length := by omega
          have m1 : (⟨sa.toArray⟩ ++ ⟨#[46]⟩ : ByteArray) = ⟨s1.toArray⟩ := by rw [hs1]; exact ByteArray.mk_append_mk sa [46]
          have m2 : (⟨s1.toArray⟩ ++ ⟨sb.toArray⟩ : ByteArray) = ⟨s2.toArray⟩ := by rw [hs2]; exact ByteArray.mk_append_mk s1 sb
          have m3 : (⟨s2.toArray⟩ ++ ⟨#[46]⟩ : ByteArray) = ⟨s3.toArray⟩ := by rw [hs3]; exact ByteArray.mk_append_mk s2 [46]
          have m4 : (⟨s3.toArray⟩ ++ ⟨sd.toArray⟩ : ByteArray) = ⟨s4.toArray⟩ := by rw [hs4]; exact ByteArray.mk_append_mk s3 sd
          have HcW := kH (show condW x = s4 from by unfold condW; rw [hs4, hs3, hs2, hs1, hsa, hsb, hsd]; simp [jn])
          have hwi : IntKind.u64.wrap x.imm = x.imm := by rw [IntKind.wrap_u64]; omega
          have HI1 := kH (fun X (h : Below w8.heap.size w8 X) => (by have h := kItoa_any hxi.kind (HT.out _ (Hs8.out.b.trans (h.mono Hs8.out.b.size))); rw [← hsa] at h; exact h))
          have HI2 := kH (fun X (h : Below w8.heap.size w8 X) => (by have h := kItoa_any hxi.hole (HT.out _ (Hs8.out.b.trans (h.mono Hs8.out.b.size))); rw [← hsb] at h; exact h))
          have HI3 := kH (fun X (h : Below w8.heap.size w8 X) => (by have h := fmt_any i0 (by omega : x.imm < 18446744073709551616) (HT.out _ (Hs8.out.b.trans (h.mono Hs8.out.b.size))); rw [← hsd] at h; exact h))
          have Hd8 := kH (show Below w8.heap.size w8 w8.drew from (Below.refl _ _).drew)
          have Hr8 := kH hr8
          have Hlt := kH (show ∀ i, (Value.slice Av (nl + 1 + nr + 1 + j) cv).ownBlock = some i → i < wr.heap.size from fun i hi => Hws.out.o.lt i hi)
          obtain ⟨ii, hi1, hz1, hsz1, hby1⟩ := info_parts infoS
          have Hinf := kH (And.intro hi1 (And.intro hz1 (And.intro hsz1 hby1)))
          clear hx hb8 hr8 hb i0 i1 hxi hsa hsb hsd hs1 hs2 hs3 hs4 hi1 hz1 hsz1 hby1
          go_upto_region 17 with (fail)
          rw [← hw8]
          clear hw8 c0 c1 c2
          refine wp_region_held_drew (S := fun Y : World => Y.cell? ⟨wr.heap.size, 0, none⟩ = some (.int .i64 x.kind) ∧ Y.cell? ⟨wr.heap.size, 1, none⟩ = some (.int .i64 x.hole) ∧ Y.cell? ⟨wr.heap.size, 2, none⟩ = some (.int .u32 x.imm)) (by kernel_rfl) (HSc.out _ Hd8.out) (fun hHeld => ?_)
          refine tk 0 ?_ hHeld (fun Y hY => ?_) ?_
          rotate_left
          · (go_simp) <;> with_reducible rfl
          try simp only [Act.put, yL]
          refine tk 1 ?_ hHeld (fun Y hY => ?_) ?_
          rotate_left
          · (go_simp) <;> with_reducible rfl
          try simp only [Act.put, yL]
          refine tk 2 ?_ hHeld (fun Y hY => ?_) ?_
          rotate_left
          · obtain ⟨y0, y1, y2⟩ := hY
            (go_simp) <;> with_reducible rfl
          try simp only [Act.put, yL]
          refine tk 5 ?_ hHeld (fun Y hY => ?_) ?_
          rotate_left
          · (go_simp) <;> with_reducible rfl
          try simp only [Act.put, yL]
          refine tk 6 ?_ hHeld (fun Y hY => ?_) ?_
          rotate_left
          · obtain ⟨y0, y1, y2⟩ := hY
            (go_simp) <;> with_reducible rfl
          try simp only [Act.put, yL]
          refine tk 10 ?_ hHeld (fun Y hY => ?_) ?_
          rotate_left
          · (go_simp) <;> with_reducible rfl
          try simp only [Act.put, yL]
          refine tk 11 ?_ hHeld (fun Y hY => ?_) ?_
          rotate_left
          · obtain ⟨y0, y1, y2⟩ := hY
            (go_simp) <;> with_reducible rfl
          try simp only [Act.put, yL]
          refine tk 12 ?_ hHeld (fun Y hY => ?_) ?_
          rotate_left
          · (go_simp) <;> with_reducible rfl
          try simp only [Act.put, yL]
          refine rd 3 (fun KK hKK => ?_)
          clear hHeld
          go_simp
          (with_reducible refine (HI1.out _ Hd8.out).mono ?_)
          rintro e x1 ⟨rfl, hb'⟩
          have Hx1 := kH (Hd8.out.trans (hb'.mono Hd8.out.size))
          clear hb'
          refine hKK.out _ _ (HSc.out _ Hx1.out) (fun hHeld => ?_)
          clear hKK KK
          try simp only [Act.put, yL]
          refine wpAnyH_take (i := 4) (oi := _) (v := .string ⟨s1.toArray⟩) rfl (by kernel_rfl) (by kernel_rfl) (by kernel_rfl) (fun _ _ _ h => h) (Or.inl ⟨by rfl, fun Y hY => ?_⟩) hHeld ?_
          · go_simp
          try simp only [Act.put, yL]
          refine rd 7 (fun KK hKK => ?_)
          clear hHeld
          go_simp
          (with_reducible refine (HI2.out _ Hx1.out).mono ?_)
          rintro e x2 ⟨rfl, hb'⟩
          have Hx2 := kH (Hx1.out.trans (hb'.mono Hx1.out.size))
          clear hb'
          refine hKK.out _ _ (HSc.out _ Hx2.out) (fun hHeld => ?_)
          clear hKK KK
          try simp only [Act.put, yL]
          refine wpAnyH_take (i := 8) (oi := _) (v := .string ⟨s2.toArray⟩) rfl (by kernel_rfl) (by kernel_rfl) (by kernel_rfl) (fun _ _ _ h => h) (Or.inl ⟨by rfl, fun Y hY => ?_⟩) hHeld ?_
          · go_simp
          try simp only [Act.put, yL]
          refine wpAnyH_take (i := 9) (oi := _) (v := .string ⟨s3.toArray⟩) rfl (by kernel_rfl) (by kernel_rfl) (by kernel_rfl) (fun _ _ _ h => h) (Or.inl ⟨by rfl, fun Y hY => ?_⟩) hHeld ?_
          · go_simp
          try simp only [Act.put, yL]
          refine rd 13 (fun KK hKK => ?_)
          clear hHeld
          go_simp
          (with_reducible refine (HI3.out _ Hx2.out).mono ?_)
          rintro e x3 ⟨rfl, hb'⟩
          have Hx3 := kH (Hx2.out.trans (hb'.mono Hx2.out.size))
          clear hb'
          refine hKK.out _ _ (HSc.out _ Hx3.out) (fun hHeld => ?_)
          clear hKK KK
          try simp only [Act.put, yL]
          refine wpAnyH_take (i := 14) (oi := _) (v := .string ⟨s4.toArray⟩) rfl (by kernel_rfl) (by kernel_rfl) (by kernel_rfl) (fun _ _ _ h => h) (Or.inl ⟨by rfl, fun Y hY => ?_⟩) hHeld ?_
          · go_simp
          try simp only [Act.put, yL]
          refine rd 15 (fun KK hKK => ?_)
          clear hHeld
          go_simp
          obtain ⟨wa, hwa⟩ : ∃ wa, wa = x3.alloc (.cells #[.string ⟨s4.toArray⟩] 9) := ⟨_, rfl⟩
          rw [← hwa]
          have hba : Below x3.heap.size x3 wa := by rw [hwa]; exact al0
          have Hba := kH (Hx3.out.trans (hba.mono Hx3.out.size))
          have Hra := kH (show wa.heap[x3.heap.size]? = some (.cells #[.string ⟨s4.toArray⟩] 9 (0, 0)) from by rw [hwa]; exact heap_alloc_new x3 _)
          have HsX := kH (Hs8.out.below Hx3.out)
          have HoA := kH (HsX.out.below hba).o
          have Hwa := kH hwa
          have Hsa := kH (show wa.heap.size = x3.heap.size + 1 from by rw [hwa]; simp)
          clear hba hwa
          refine hKK.out _ _ (HSc.out _ Hba.out) (fun hHeld => ?_)
          clear hKK KK
          try simp only [Act.put, yL]
          refine rd 16 (fun KK hKK => ?_)
          clear hHeld
          refine wp_append_at wa (.tmp 49) (.tmp 64) 106 rfl 9 ii (.string ByteArray.empty) 1 16 Tryz.underlying106 Hinf.out.1 Hinf.out.2.1 Hinf.out.2.2.1 Hinf.out.2.2.2 rfl (.slice Av (nl + 1 + nr + 1 + j) cv) (nl + 1 + nr + 1 + j) _ rfl HoA.out ⟨x3.heap.size, 0, none⟩ 1 1 [.string ⟨s4.toArray⟩] rfl rfl (cell_one_rowE Hra.out) (by simp [Value.oneCell']) (by simp only [maxLen]; omega) (by omega) ?_
          intro v' w' hown hgr hat
          have HsE := kH (HsX.out.app (x := s4) hown (by rw [← Hwa.out]; exact hgr) (by rw [← Hsa.out]; exact hat))
          have HSw := kH (show w'.cell? ⟨wr.heap.size, 0, none⟩ = some (.int .i64 x.kind) ∧ w'.cell? ⟨wr.heap.size, 1, none⟩ = some (.int .i64 x.hole) ∧ w'.cell? ⟨wr.heap.size, 2, none⟩ = some (.int .u32 x.imm) from by
           have h8 := (Hba.out.block _ (gA Hr8.out).1).trans Hr8.out
           obtain ⟨h0, h1, h2, _⟩ := rl_cells ((hgr.block _ (gA h8).1 (fun e => by have := Hlt.out _ e.symm; omega)).trans h8)
           exact ⟨h0, h1, h2⟩)
          clear hown hgr hat
          refine hKK.out _ _ HSw.out (fun hHeld => ?_)
          clear hKK KK
          try simp only [Act.put, yL]
          refine tk 17 ?_ hHeld (fun Y hY => ?_) ?_
          rotate_left
          · (go_simp) <;> with_reducible rfl
          try simp only [Act.put, yL]
          refine wpAnyH_done (by kernel_rfl) ?_ _
          go_wp2
          go_roundg (gk - 1)
          case measure => have := Hgk.out; omega
          case rel =>
           have := Hgk.out
           refine ⟨j + 1, v', by omega, rfl, by go_num, by omega, kH ?_⟩
           have h := HsE.out
           rw [List.take_add_one, Hx.out, List.map_append, ← List.append_assoc]
           simp only [Option.toList_some, List.map_cons, List.map_nil]
           rw [HcW.out]
           exact h
        · obtain rfl : np = j := by omega
          have HsB := kH (show WS W1 wr (.slice Av (nl + 1 + nr + 1 + np) cv) (nl + 1 + nr + 1 + np) (wordsOf r) from by
           have h := Hws.out
           rw [List.take_of_length_le (by rw [Hlp.out]; exact Nat.le_refl _)] at h
           have e : ([] ++ r.left.map nodeW ++ [[61, 62]] ++ r.right.map nodeW ++ [[105, 102]]) ++ r.pre.map condW = wordsOf r := by simp [wordsOf, arrow, iff_]
           rw [e] at h
           exact h)
          have Hjl := kH (show (jn 32 (wordsOf r)).length ≤ 140737488355328 from by
           have h := jn_len_le 32 200 (wordsOf r) (fun y hy => by
            unfold wordsOf at hy
            simp only [List.mem_append, List.mem_cons, List.mem_map] at hy
            rcases hy with ⟨x, hx, rfl⟩ | rfl | ⟨x, hx, rfl⟩ | rfl | ⟨x, hx, rfl⟩
            · exact nodeW_len (HL.out x hx)
            · decide
            · exact nodeW_len (HQ.out x hx)
            · decide
            · exact condW_len (HP.out x hx))
           have h2 := HsB.out.len
           omega)
          clear Hws
          go_wp2_with fail
          (with_reducible refine (kJoin_any (words_ne r) 32 HsB.out.o Hjl.out (by omega)).mono ?_)
          rintro e w9 ⟨rfl, hb9⟩
          have Hb9 := kH (HsB.out.b.trans (hb9.mono HsB.out.b.size))
          clear hb9
          go_wp2
          go_ret
          exact ⟨rfl, HB1.out.trans (Hb9.out.mono HB1.out.size)⟩
end KT
end
section
open Go.RowKit Go.Maps Go.Lib
namespace KT
theorem tl_jn (c : UInt8) {l : List (List UInt8)} (h : l ≠ []) : tl c l = c :: jn c l := by
 cases l with
 | nil => exact absurd rfl h
 | cons x l => rw [jn_tl]; simp [tl]
theorem ext_tail (c : UInt8) (l : List UInt8) : (⟨(c :: l).toArray⟩ : ByteArray).extract 1 (l.length + 1) = ⟨l.toArray⟩ := by
 have h := Lib.extract_toList ⟨(c :: l).toArray⟩ 1 (l.length + 1)
 rw [ByteArray.toList_eq] at h
 rw [← Lib.mk_data (ByteArray.extract _ _ _), h]
 simp
theorem rtext_any {r : R.Rl} {nl cl nr cr np cp : Nat} {AL AR AP : Option Addr} {W : World} (hR : RlAt W r nl nr np AL AR AP) (hT : Tens W) (hnl : nl ≤ 100) (hnr : nr ≤ 100) (hnp : np ≤ 100) (hL : ∀ x ∈ r.left, NdI x) (hQ : ∀ x ∈ r.right, NdI x) (hP : ∀ c ∈ r.pre, CdI c) :
 Calls Tryz.prog 74 #[.agg #[.slice AL nl cl, .slice AR nr cr, .slice AP np cp]] W fun e w' => e = .returned (.string ⟨(textW r).toArray⟩) ∧ Below W.heap.size W w' := by
 obtain ⟨W1, hW1⟩ : ∃ W1, W1 = W.alloc (.cells #[.slice AL nl cl, .slice AR nr cr, .slice AP np cp] 33) := ⟨_, rfl⟩
 have hb1 : Below W.heap.size W W1 := by rw [hW1]; exact al0
 have hrow : W1.heap[W.heap.size]? = some (.cells #[.slice AL nl cl, .slice AR nr cr, .slice AP np cp] 33 (0, 0)) := by rw [hW1]; exact heap_alloc_new W _
 have HB1 := kH hb1
 have HR := kH (fun X (h : Below W1.heap.size W1 X) => (hR.below hb1).below h)
 have HT := kH (fun X (h : Below W1.heap.size W1 X) => (hT.below hb1).below h)
 have Hrow := kH (fun (X : World) (h : Below W1.heap.size W1 X) => (h.block _ (gA hrow).1).trans hrow)
 have HL := kH hL
 have HQ := kH hQ
 have HP := kH hP
 have Hll := kH hR.sl.len
 have Hlr := kH hR.sr.len
 have Hlp := kH hR.sp.len
 have Hw1 := kH (show ∀ y ∈ r.left.map nodeW, y.length ≤ 200 from fun y hy => by obtain ⟨x, hx, rfl⟩ := List.mem_map.1 hy; exact nodeW_len (hL x hx))
 have Hw2 := kH (show ∀ y ∈ r.right.map nodeW, y.length ≤ 200 from fun y hy => by obtain ⟨x, hx, rfl⟩ := List.mem_map.1 hy; exact nodeW_len (hQ x hx))
 have Hw3 := kH (show ∀ y ∈ r.pre.map condW, y.length ≤ 200 from fun y hy => by obtain ⟨x, hx, rfl⟩ := List.mem_map.1 hy; exact condW_len (hP x hx))
 have HW1 := kH hW1
 have Hb0 := kH (Below.refl W1.heap.size W1)
 obtain ⟨c0, c1, c2, _⟩ := rl_cells hrow
 clear hR hT hL hQ hP hb1 hrow hW1
 go_enter Tryz.func74, Tryz.ntmps74
 go_upto_region 1 with (fail)
 rw [← HW1.out]
 clear c0 c1 c2
 go_wp2_with fail
 have HC0 := kH (show (tl 32 ([] : List (List UInt8))).length ≤ 0 from by simp [tl])
 go_loopg [3, 4] (nl + 1) (fun gg s3 si wr => ∃ j : Nat, j ≤ nl ∧ s3 = .string ⟨(tl 32 (([] : List (List UInt8)) ++ (r.left.take j).map nodeW)).toArray⟩ ∧ si = .int .i64 (j : Int) ∧ gg + j = nl + 1 ∧ Hid (Below W1.heap.size W1 wr))
 case atStart => exact ⟨0, Nat.zero_le _, (by first | rfl | simp [tl] | (rw [List.take_zero, List.map_nil, List.append_nil])), rfl, by omega, Hb0⟩
 case round =>
  obtain ⟨j, hj, rfl, rfl, hgk, Hb⟩ := hrel
  have Hgk := kH hgk
  clear hgk
  obtain ⟨d0, d1, d2, _⟩ := rl_cells (Hrow.out _ Hb.out)
  obtain ⟨t, ht⟩ : ∃ t, t = tl 32 (([] : List (List UInt8)) ++ (r.left.take j).map nodeW) := ⟨_, rfl⟩
  have Ht := kH ht
  have htl : t.length ≤ 0 + 100 * 201 := by
   rw [ht, show tl 32 (([] : List (List UInt8)) ++ (r.left.take j).map nodeW) = tl 32 (([] : List (List UInt8))) ++ tl 32 ((r.left.take j).map nodeW) from by simp [tl], List.length_append]
   have h1 := tl_len (c := 32) (l := (r.left.take j).map nodeW) (k := 200) (fun y hy => Hw1.out y (by rw [List.map_take] at hy; exact List.mem_of_mem_take hy))
   rw [List.length_map, List.length_take] at h1
   have h2 : (tl 32 (([] : List (List UInt8)))).length ≤ 0 := HC0.out
   have h3 : min j r.left.length ≤ 100 := by omega
   omega
  rw [← ht]
  clear ht
  by_cases hjn : j < nl
  · obtain ⟨x, b, off, A, c, hx, hAe, hb, c0, c1, c2, c3, c4, hsl, i0, i1⟩ := nd_cells (HR.out _ Hb.out).sl hjn
    subst hAe
    have Hx := kH hx
    have Hxi := kH (HL.out x (List.mem_of_getElem? hx))
    obtain ⟨i, hi⟩ : ∃ i, i = nodeW x := ⟨_, rfl⟩
    have hil : i.length ≤ 200 := by rw [hi]; exact nodeW_len Hxi.out
    have Hi := kH hi
    have Hnt := kH (by have h := rnode_any (c := c) Hxi.out hsl (HT.out _ Hb.out); rw [← hi] at h; exact h)
    have n1 : ¬ 9223372036854775807 < t.length + 1 := by omega
    have n2 : ¬ 9223372036854775807 < t.length + 1 + i.length := by omega
    have n2' : ¬ 9223372036854775807 < t.length + (i.length + 1) := by omega
    have m1 := ByteArray.mk_append_mk t [32]
    have m2 := ByteArray.mk_append_mk (t ++ [32]) i
    clear hx hi hsl hb i0 i1
    go_wp2_with fail
    (with_reducible refine Hnt.out.mono ?_)
    rintro e w9 ⟨rfl, hb9⟩
    have Hb9 := kH (Hb.out.trans (hb9.mono Hb.out.size))
    clear hb9 Hnt c0 c1 c2 c3 c4 d0 d1 d2
    go_wp2
    go_roundg (gk - 1)
    case measure => have := Hgk.out; omega
    case rel =>
     have := Hgk.out
     refine ⟨j + 1, by omega, ?_, by go_num, by omega, Hb9⟩
     rw [List.take_add_one, Hx.out, List.map_append, ← List.append_assoc]
     simp only [Option.toList_some, List.map_cons, List.map_nil]
     rw [tl_snoc, ← Ht.out, Hi.out]
  · obtain rfl : nl = j := by omega
    have HtB := kH (show t = tl 32 (([] : List (List UInt8)) ++ r.left.map nodeW) from by
     rw [Ht.out, List.take_of_length_le (by rw [Hll.out]; exact Nat.le_refl _)])
    clear Ht
    have n1 : ¬ 9223372036854775807 < t.length + 3 := by omega
    have m1 := ByteArray.mk_append_mk t [32, 61, 62]
    have Hcap := kH htl
    obtain ⟨p1, hp1⟩ : ∃ p1, p1 = ([] ++ r.left.map nodeW ++ [[61, 62]] : List (List UInt8)) := ⟨_, rfl⟩
    have Hp1 := kH hp1
    have Ht1 := kH (show t ++ [32, 61, 62] = tl 32 p1 from by rw [hp1, tl_snoc, ← HtB.out])
    have HC20200 := kH (show (tl 32 p1).length ≤ 20200 from by rw [← Ht1.out, List.length_append]; have := Hcap.out; simp; omega)
    clear hp1
    go_wp2_with fail
    go_loopg [3, 5] (nr + 1) (fun gg s3 si wr => ∃ j : Nat, j ≤ nr ∧ s3 = .string ⟨(tl 32 (p1 ++ (r.right.take j).map nodeW)).toArray⟩ ∧ si = .int .i64 (j : Int) ∧ gg + j = nr + 1 ∧ Hid (Below W1.heap.size W1 wr))
    case atStart => exact ⟨0, Nat.zero_le _, (by rw [List.take_zero, List.map_nil, List.append_nil, ← Ht1.out]), rfl, by omega, Hb⟩
    case round =>
     obtain ⟨j, hj, rfl, rfl, hgk, Hb⟩ := hrel
     have Hgk := kH hgk
     clear hgk
     obtain ⟨d0, d1, d2, _⟩ := rl_cells (Hrow.out _ Hb.out)
     obtain ⟨t, ht⟩ : ∃ t, t = tl 32 (p1 ++ (r.right.take j).map nodeW) := ⟨_, rfl⟩
     have Ht := kH ht
     have htl : t.length ≤ 20200 + 100 * 201 := by
      rw [ht, show tl 32 (p1 ++ (r.right.take j).map nodeW) = tl 32 (p1) ++ tl 32 ((r.right.take j).map nodeW) from by simp [tl], List.length_append]
      have h1 := tl_len (c := 32) (l := (r.right.take j).map nodeW) (k := 200) (fun y hy => Hw2.out y (by rw [List.map_take] at hy; exact List.mem_of_mem_take hy))
      rw [List.length_map, List.length_take] at h1
      have h2 : (tl 32 (p1)).length ≤ 20200 := HC20200.out
      have h3 : min j r.right.length ≤ 100 := by omega
      omega
     rw [← ht]
     clear ht
     by_cases hjn : j < nr
     · obtain ⟨x, b, off, A, c, hx, hAe, hb, c0, c1, c2, c3, c4, hsl, i0, i1⟩ := nd_cells (HR.out _ Hb.out).sr hjn
       subst hAe
       have Hx := kH hx
       have Hxi := kH (HQ.out x (List.mem_of_getElem? hx))
       obtain ⟨i, hi⟩ : ∃ i, i = nodeW x := ⟨_, rfl⟩
       have hil : i.length ≤ 200 := by rw [hi]; exact nodeW_len Hxi.out
       have Hi := kH hi
       have Hnt := kH (by have h := rnode_any (c := c) Hxi.out hsl (HT.out _ Hb.out); rw [← hi] at h; exact h)
       have n1 : ¬ 9223372036854775807 < t.length + 1 := by omega
       have n2 : ¬ 9223372036854775807 < t.length + 1 + i.length := by omega
       have n2' : ¬ 9223372036854775807 < t.length + (i.length + 1) := by omega
       have m1 := ByteArray.mk_append_mk t [32]
       have m2 := ByteArray.mk_append_mk (t ++ [32]) i
       clear hx hi hsl hb i0 i1
       go_wp2_with fail
       (with_reducible refine Hnt.out.mono ?_)
       rintro e w9 ⟨rfl, hb9⟩
       have Hb9 := kH (Hb.out.trans (hb9.mono Hb.out.size))
       clear hb9 Hnt c0 c1 c2 c3 c4 d0 d1 d2
       go_wp2
       go_roundg (gk - 1)
       case measure => have := Hgk.out; omega
       case rel =>
        have := Hgk.out
        refine ⟨j + 1, by omega, ?_, by go_num, by omega, Hb9⟩
        rw [List.take_add_one, Hx.out, List.map_append, ← List.append_assoc]
        simp only [Option.toList_some, List.map_cons, List.map_nil]
        rw [tl_snoc, ← Ht.out, Hi.out]
     · obtain rfl : nr = j := by omega
       have HtB := kH (show t = tl 32 (p1 ++ r.right.map nodeW) from by
        rw [Ht.out, List.take_of_length_le (by rw [Hlr.out]; exact Nat.le_refl _)])
       clear Ht
       have n1 : ¬ 9223372036854775807 < t.length + 3 := by omega
       have m1 := ByteArray.mk_append_mk t [32, 105, 102]
       have Hcap2 := kH htl
       obtain ⟨p2, hp2⟩ : ∃ p2, p2 = p1 ++ r.right.map nodeW ++ [[105, 102]] := ⟨_, rfl⟩
       have Hp2 := kH hp2
       have Ht2 := kH (show t ++ [32, 105, 102] = tl 32 p2 from by rw [hp2, tl_snoc, ← HtB.out])
       have HC40400 := kH (show (tl 32 p2).length ≤ 40400 from by rw [← Ht2.out, List.length_append]; have := Hcap2.out; simp; omega)
       clear hp2
       go_wp2_with fail
       go_loopg [3, 6] (np + 1) (fun gg s3 si wr => ∃ j : Nat, j ≤ np ∧ s3 = .string ⟨(tl 32 (p2 ++ (r.pre.take j).map condW)).toArray⟩ ∧ si = .int .i64 (j : Int) ∧ gg + j = np + 1 ∧ Hid (Below W1.heap.size W1 wr))
       case atStart => exact ⟨0, Nat.zero_le _, (by rw [List.take_zero, List.map_nil, List.append_nil, ← Ht2.out]), rfl, by omega, Hb⟩
       case round =>
        obtain ⟨j, hj, rfl, rfl, hgk, Hb⟩ := hrel
        have Hgk := kH hgk
        clear hgk
        obtain ⟨d0, d1, d2, _⟩ := rl_cells (Hrow.out _ Hb.out)
        obtain ⟨t, ht⟩ : ∃ t, t = tl 32 (p2 ++ (r.pre.take j).map condW) := ⟨_, rfl⟩
        have Ht := kH ht
        have htl : t.length ≤ 40400 + 100 * 201 := by
         rw [ht, show tl 32 (p2 ++ (r.pre.take j).map condW) = tl 32 p2 ++ tl 32 ((r.pre.take j).map condW) from by simp [tl], List.length_append]
         have h1 := tl_len (c := 32) (l := (r.pre.take j).map condW) (k := 200) (fun y hy => Hw3.out y (by rw [List.map_take] at hy; exact List.mem_of_mem_take hy))
         rw [List.length_map, List.length_take] at h1
         have h2 : (tl 32 p2).length ≤ 40400 := HC40400.out
         have h3 : min j r.pre.length ≤ 100 := by omega
         omega
        rw [← ht]
        clear ht
        by_cases hjn : j < np
        · obtain ⟨x, b, off, hx, hAe, hb, c0, c1, c2, i0, i1⟩ := cd_cells (HR.out _ Hb.out).sp hjn
          subst hAe
          have Hx := kH hx
          have hxi := HP.out x (List.mem_of_getElem? hx)
          obtain ⟨w8, hw8⟩ : ∃ w8, w8 = wr.alloc (.cells #[.int .i64 x.kind, .int .i64 x.hole, .int .u32 x.imm] 88) := ⟨_, rfl⟩
          have hb8 : Below wr.heap.size wr w8 := by rw [hw8]; exact al0
          have hr8 : w8.heap[wr.heap.size]? = some (.cells #[.int .i64 x.kind, .int .i64 x.hole, .int .u32 x.imm] 88 (0, 0)) := by rw [hw8]; exact heap_alloc_new wr _
          have Hb8 := kH (show Below W1.heap.size W1 w8 from Hb.out.trans (hb8.mono Hb.out.size))
          obtain ⟨r0, r1, r2, _⟩ := rl_cells hr8
          obtain ⟨sa, hsa⟩ : ∃ s, s = itoa x.kind := ⟨_, rfl⟩
          obtain ⟨sb, hsb⟩ : ∃ s, s = itoa x.hole := ⟨_, rfl⟩
          obtain ⟨sd, hsd⟩ : ∃ s, s = itoa x.imm := ⟨_, rfl⟩
          have ha : sa.length ≤ 20 := by rw [hsa]; exact itoa_len hxi.kind
          have hb' : sb.length ≤ 20 := by rw [hsb]; exact itoa_len hxi.hole
          have hd : sd.length ≤ 20 := by rw [hsd]; exact itoa_len ⟨by omega, by omega⟩
          obtain ⟨s0, hs0⟩ : ∃ s, s = t ++ [32] := ⟨_, rfl⟩
          obtain ⟨s1, hs1⟩ : ∃ s, s = s0 ++ sa := ⟨_, rfl⟩
          obtain ⟨s2, hs2⟩ : ∃ s, s = s1 ++ [46] := ⟨_, rfl⟩
          obtain ⟨s3, hs3⟩ : ∃ s, s = s2 ++ sb := ⟨_, rfl⟩
          obtain ⟨s4, hs4⟩ : ∃ s, s = s3 ++ [46] := ⟨_, rfl⟩
          obtain ⟨s5, hs5⟩ : ∃ s, s = s4 ++ sd := ⟨_, rfl⟩
          have l0 : s0.length ≤ 60501 := by rw [hs0, List.length_append]; simp; omega
          have l1 : s1.length ≤ 60521 := by rw [hs1, List.length_append]; omega
          have l2 : s2.length ≤ 60522 := by rw [hs2, List.length_append]; simp; omega
          have l3 : s3.length ≤ 60542 := by rw [hs3, List.length_append]; omega
          have l4 : s4.length ≤ 60543 := by rw [hs4, List.length_append]; simp; omega
          have H0 := kH hs0
          have H1 := kH hs1
          have H2 := kH hs2
          have H3 := kH hs3
          have H4 := kH hs4
          have H5 := kH hs5
          have HcW := kH (show s5 = t ++ 32 :: condW x from by unfold condW; rw [hs5, hs4, hs3, hs2, hs1, hs0, hsa, hsb, hsd]; simp [jn])
          have hwi : IntKind.u64.wrap x.imm = x.imm := by rw [IntKind.wrap_u64]; omega
          obtain ⟨ov⟩ := ov_ex w8
          have o0 := ov.cell r0
          have o1 := ov.cell r1
          have o2 := ov.cell r2
          have HI1 := kH (fun u => calls_over (by have h := kItoa_any hxi.kind (HT.out _ (Hb8.out.trans ((ov.below u).mono Hb8.out.size))); rw [← hsa] at h; exact h))
          have HI2 := kH (fun u => calls_over (by have h := kItoa_any hxi.hole (HT.out _ (Hb8.out.trans ((ov.below u).mono Hb8.out.size))); rw [← hsb] at h; exact h))
          have HI3 := kH (fun u => calls_over (by have h := fmt_any i0 (by omega : x.imm < 18446744073709551616) (HT.out _ (Hb8.out.trans ((ov.below u).mono Hb8.out.size))); rw [← hsd] at h; exact h))
          clear hx hb8 hr8 hb i0 i1 hxi hsa hsb hsd hs0 hs1 hs2 hs3 hs4 hs5 r0 r1 r2
          go_upto_region 16 with (fail)
          rw [← hw8]
          clear hw8 c0 c1 c2 d0 d1 d2
          refine wp_region_ovq ov (by kernel_rfl) (by kernel_rfl) ?_
          iterate 1 (go_big_quiet_step (fail))
          refine BigFrame.wpQuiet_want (by rfl) ?_
          intro K hK
          refine quiet_adds rfl (t) ([32]) rfl rfl (by (try simp only [List.length_cons, List.length_nil]); omega) ?_
          refine hK _ ?_
          clear hK K
          rw [← H0.out]
          try simp only [Act.put, List.setIfInBounds_toArray, List.set_cons_zero, List.set_cons_succ]
          iterate 2 (go_big_quiet_step (fail))
          go_big_quiet_step ((go_at_call 86; with_reducible exact HI1.out _))
          refine BigFrame.wpQuiet_want (by rfl) ?_
          intro K hK
          refine quiet_adds rfl (s0) (sa) rfl rfl (by (try simp only [List.length_cons, List.length_nil]); omega) ?_
          refine hK _ ?_
          clear hK K
          rw [← H1.out]
          try simp only [Act.put, List.setIfInBounds_toArray, List.set_cons_zero, List.set_cons_succ]
          refine BigFrame.wpQuiet_want (by rfl) ?_
          intro K hK
          refine quiet_adds rfl (s1) ([46]) rfl rfl (by (try simp only [List.length_cons, List.length_nil]); omega) ?_
          refine hK _ ?_
          clear hK K
          rw [← H2.out]
          try simp only [Act.put, List.setIfInBounds_toArray, List.set_cons_zero, List.set_cons_succ]
          iterate 2 (go_big_quiet_step (fail))
          go_big_quiet_step ((go_at_call 86; with_reducible exact HI2.out _))
          refine BigFrame.wpQuiet_want (by rfl) ?_
          intro K hK
          refine quiet_adds rfl (s2) (sb) rfl rfl (by (try simp only [List.length_cons, List.length_nil]); omega) ?_
          refine hK _ ?_
          clear hK K
          rw [← H3.out]
          try simp only [Act.put, List.setIfInBounds_toArray, List.set_cons_zero, List.set_cons_succ]
          refine BigFrame.wpQuiet_want (by rfl) ?_
          intro K hK
          refine quiet_adds rfl (s3) ([46]) rfl rfl (by (try simp only [List.length_cons, List.length_nil]); omega) ?_
          refine hK _ ?_
          clear hK K
          rw [← H4.out]
          try simp only [Act.put, List.setIfInBounds_toArray, List.set_cons_zero, List.set_cons_succ]
          iterate 3 (go_big_quiet_step (fail))
          go_big_quiet_step ((go_at_call 134; with_reducible exact HI3.out _))
          refine BigFrame.wpQuiet_want (by rfl) ?_
          intro K hK
          refine quiet_adds rfl (s4) (sd) rfl rfl (by (try simp only [List.length_cons, List.length_nil]); omega) ?_
          refine hK _ ?_
          clear hK K
          rw [← H5.out]
          try simp only [Act.put, List.setIfInBounds_toArray, List.set_cons_zero, List.set_cons_succ]
          repeat (go_big_quiet_step (fail))
          refine wpQuiet_nil ?_
          rintro _ ⟨u, rfl⟩
          have Hb9 := kH (Hb8.out.trans ((ov.below u).mono Hb8.out.size))
          clear o0 o1 o2 HI1 HI2 HI3
          generalize ov.f u = w9 at *
          clear ov ha hb' hd hwi l0 l1 l2 l3 l4
          go_wp2
          go_roundg (gk - 1)
          case measure => have := Hgk.out; omega
          case rel =>
           have := Hgk.out
           refine ⟨j + 1, by omega, ?_, by go_num, by omega, Hb9⟩
           rw [List.take_add_one, Hx.out, List.map_append, ← List.append_assoc]
           simp only [Option.toList_some, List.map_cons, List.map_nil]
           rw [tl_snoc, ← Ht.out, HcW.out]
        · obtain rfl : np = j := by omega
          have HtB := kH (show t = 32 :: textW r from by
           rw [Ht.out, List.take_of_length_le (by rw [Hlp.out]; exact Nat.le_refl _), Hp2.out, Hp1.out]
           have e : [] ++ r.left.map nodeW ++ [[61, 62]] ++ r.right.map nodeW ++ [[105, 102]] ++ r.pre.map condW = wordsOf r := by simp [wordsOf, arrow, iff_]
           rw [e, tl_jn 32 (words_ne r)]
           rfl)
          have hl := htl
          rw [HtB.out] at hl ⊢
          clear htl Ht
          have hl1 : (1 : Int) ≤ ((32 :: textW r).length : Int) := by simp; omega
          go_wp2
          go_ret
          exact ⟨by rw [← ext_tail 32 (textW r)]; rfl, HB1.out.trans (Hb.out.mono HB1.out.size)⟩
end KT
end
section
open Go.RowKit Go.Maps Go.Lib
namespace KT
def textOf (r : R.Rl) : List UInt8 := if R.rvalid r = 0 then textW r else []
theorem node_ndI {p : List T.Nd} {right : Bool} (hp : ∀ k x, p[k]? = some x → R.pnode p right k x = true) (hl : p.length ≤ 12) (hi : ∀ x ∈ p, 0 ≤ x.imm ∧ x.imm < 4294967296) : ∀ x ∈ p, NdI x := fun x hx => by
 obtain ⟨k, hk⟩ := List.mem_iff_getElem?.1 hx
 obtain ⟨o1, o2, o3⟩ := (pnode_twf hp).op x hx
 have hk2 := (List.getElem?_eq_some_iff.1 hk).1
 refine ⟨o1, o2, o3, (pnode_twf hp).len x hx, fun a ha => ?_, hi x hx⟩
 have := R.pnode_ord hp k x hk a ha
 exact ⟨by omega, by omega⟩
theorem cond_cdI {W : World} {r : R.Rl} {nl nr np : Nat} {AL AR AP : Option Addr} (hR : RlAt W r nl nr np AL AR AP) (hok : R.ROk r) : ∀ c ∈ r.pre, CdI c := fun c hc => by
 obtain ⟨k, hk⟩ := List.mem_iff_getElem?.1 hc
 have hk2 := (List.getElem?_eq_some_iff.1 hk).1
 rw [hR.sp.len] at hk2
 obtain ⟨x, b, off, hx, _, _, _, _, _, i0, i1⟩ := cd_cells hR.sp hk2
 rw [hk] at hx
 cases hx
 have hcd := List.all_eq_true.1 hok.cd c hc
 unfold R.cdOk at hcd
 simp only [Bool.and_eq_true, decide_eq_true_eq] at hcd
 exact ⟨⟨by omega, by omega⟩, ⟨by omega, by omega⟩, i0, i1⟩
theorem Text_any {r : R.Rl} {nl cl nr cr np cp : Nat} {AL AR AP : Option Addr} {W : World} (hR : RlAt W r nl nr np AL AR AP) (hT : Tens W) :
 Calls Tryz.prog 24 #[.agg #[.slice AL nl cl, .slice AR nr cr, .slice AP np cp]] W fun e w' => e = .returned (.tuple #[.string ⟨(textOf r).toArray⟩, .int .i64 (R.rvalid r)]) ∧ Below W.heap.size W w' := by
 obtain ⟨W1, hW1⟩ : ∃ W1, W1 = W.alloc (.cells #[.slice AL nl cl, .slice AR nr cr, .slice AP np cp] 33) := ⟨_, rfl⟩
 have hb1 : Below W.heap.size W W1 := by rw [hW1]; exact al0
 have hrow : W1.heap[W.heap.size]? = some (.cells #[.slice AL nl cl, .slice AR nr cr, .slice AP np cp] 33 (0, 0)) := by rw [hW1]; exact heap_alloc_new W _
 obtain ⟨c0, c1, c2, _⟩ := rl_cells hrow
 have HR1 := kH (hR.below hb1)
 have HV := kH (gValidate_any r nl cl nr cr np cp AL AR AP W1 HR1.out.sl HR1.out.sr HR1.out.sp HR1.out.fl HR1.out.fr)
 have HB1 := kH hb1
 have HW1 := kH hW1
 have Hrow := kH (fun (X : World) (h : Below W1.heap.size W1 X) => (h.block _ (gA hrow).1).trans hrow)
 by_cases hv : R.rvalid r = 0
 rotate_left
 · obtain ⟨z, hz⟩ : ∃ z, R.rvalid r = z := ⟨_, rfl⟩
   have Ht := kH (show textOf r = [] from by unfold textOf; rw [if_neg hv])
   rw [hz] at HV hv ⊢
   have q : (z != 0) = true := by simpa using hv
   clear hR hT hb1 hrow hW1 hz hv
   go_enter Tryz.func24, Tryz.ntmps24
   go_upto_region 1 with (fail)
   rw [← HW1.out]
   go_wp2_with fail
   (with_reducible refine HV.out.mono ?_)
   rintro e w2 ⟨rfl, hb2⟩
   have Hb2 := kH hb2
   clear hb2 c0 c1 c2 HV
   go_wp2
   go_ret2
   exact ⟨by rw [Ht.out]; rfl, HB1.out.trans (Hb2.out.mono HB1.out.size)⟩
 · have hok := R.rok_of hv
   have Ht := kH (show textOf r = textW r from by unfold textOf; rw [if_pos hv])
   have hnl := hR.sl.len
   have hnr := hR.sr.len
   have hnp := hR.sp.len
   have k1 := hok.llen
   have k2 := hok.rlen
   have k3 := hok.plen
   have HX := kH (fun X (h : Below W1.heap.size W1 X) => written_any (cl := cl) (cr := cr) (cp := cp) ((hR.below hb1).below h) ((hT.below hb1).below h) (by omega) (by omega) (by omega) (node_ndI hok.lp hok.llen (nd_rng hR.sl)) (node_ndI hok.rp hok.rlen (nd_rng hR.sr)) (cond_cdI hR hok))
   rw [hv] at HV ⊢
   clear hR hT hb1 hrow hW1 hv hok hnl hnr hnp k1 k2 k3
   go_enter Tryz.func24, Tryz.ntmps24
   go_upto_region 1 with (fail)
   rw [← HW1.out]
   go_wp2_with fail
   (with_reducible refine HV.out.mono ?_)
   rintro e w2 ⟨rfl, hb2⟩
   have Hb2 := kH hb2
   clear hb2 c0 c1 c2 HV
   obtain ⟨c0, c1, c2, _⟩ := rl_cells (Hrow.out _ Hb2.out)
   go_wp2_with fail
   (with_reducible refine (HX.out _ Hb2.out).mono ?_)
   rintro e w3 ⟨rfl, hb3⟩
   have Hb3 := kH (Hb2.out.trans (hb3.mono Hb2.out.size))
   clear hb3 c0 c1 c2
   go_wp2
   go_ret2
   exact ⟨by rw [Ht.out]; rfl, HB1.out.trans (Hb3.out.mono HB1.out.size)⟩
end KT
end
end Go.Proofs.YtbiopedpceddeaaGreatDoor
