/- Merged: C4KE2. -/
import Derived.Test.YtbiopedpceddeaaGreatDoorW24
import Derived.Test.YtbiopedpceddeaaGreatDoorW26
import Derived.Test.YtbiopedpceddeaaGreatDoorW14
set_option linter.unusedVariables false
set_option linter.unusedSimpArgs false
namespace Go.Proofs.YtbiopedpceddeaaGreatDoor
open Go.RowKit Go.Maps Go.Lib
set_option linter.unusedVariables false
set_option linter.unusedSimpArgs false
namespace KT
theorem cell_one_rowE {w : World} {g : Nat} {v : Value} {T : TypeId} (h : w.heap[g]? = some (.cells #[v] T (0, 0))) : ∀ (j : Nat) u, [v][j]? = some u → w.cell? ((⟨g, 0, none⟩ : Addr).add j) = some u := fun j u hu => by
  rcases j with _ | j
  · simp at hu
    subst hu
    have := cell_of_row _ g 0 _ _ (0, 0) h
    exact this
  · simp at hu
def ss (l : List (List UInt8)) : List Value := l.map fun l => Value.string ⟨l.toArray⟩
theorem ss_snoc (l : List (List UInt8)) (x : List UInt8) : ss (l ++ [x]) = ss l ++ [.string ⟨x.toArray⟩] := by simp [ss]
/-- words in memory of the call's own -/
structure WS (W1 wr : World) (v : Value) (n : Nat) (ws : List (List UInt8)) : Prop where
  len : ws.length = n
  o : OwnAt wr 9 1 v n (ss ws)
  b : Below W1.heap.size W1 wr
  n : ∀ i, v.ownBlock = some i → W1.heap.size ≤ i
theorem WS.below {W1 w w' : World} {v : Value} {n : Nat} {ws : List (List UInt8)} (h : WS W1 w v n ws) (hb : Below w.heap.size w w') : WS W1 w' v n ws :=
  ⟨h.len, h.o.below hb (fun i hi => h.o.lt i hi), h.b.trans (hb.mono h.b.size), h.n⟩
theorem WS.app {W1 w w' : World} {v v' : Value} {n : Nat} {ws : List (List UInt8)} {x : List UInt8} {o : Obj} (h : WS W1 w v n ws) (hown : OwnAt w' 9 1 v' (n + 1) (ss ws ++ [.string ⟨x.toArray⟩])) (hgr : (w.alloc o).grownBy w' v.ownBlock) (hat : v'.ownBlock = v.ownBlock ∨ v'.ownBlock = some (w.heap.size + 1)) : WS W1 w' v' (n + 1) (ws ++ [x]) := by
  have hs := h.b.size
  refine ⟨by rw [List.length_append, h.len]; rfl, by rw [ss_snoc]; exact hown, (h.b.alloc hs _).grown hgr (by simp; omega) h.n, fun i hi => ?_⟩
  rcases hat with e | e
  · exact h.n i (e ▸ hi)
  · rw [e] at hi; injection hi with hi; omega
structure CdI (c : R.Cd) : Prop where
  kind : I64 c.kind
  hole : I64 c.hole
  imm : 0 ≤ c.imm ∧ c.imm < 4294967296
theorem nodeW_len {x : T.Nd} (h : NdI x) : (nodeW x).length ≤ 200 := by
  have ha := itoa_len h.op
  have hb := itoa_len h.w
  have hc := itoa_len h.fl
  have hd := itoa_len (n := x.imm) ⟨by have := h.imm; omega, by have := h.imm; omega⟩
  have h1 := tl_len (c := 44) (l := x.args.map itoa) (k := 20) (fun y hy => by
    obtain ⟨z, hz, rfl⟩ := List.mem_map.1 hy
    exact itoa_len (h.args z hz))
  have h2 := h.len
  unfold nodeW
  rw [jn_tl, List.length_append]
  rw [List.length_map] at h1
  simp only [jn, List.length_append, List.length_cons, List.length_nil]
  omega
theorem condW_len {c : R.Cd} (h : CdI c) : (condW c).length ≤ 200 := by
  have ha := itoa_len h.kind
  have hb := itoa_len h.hole
  have hd := itoa_len (n := c.imm) ⟨by have := h.imm; omega, by have := h.imm; omega⟩
  unfold condW
  simp only [jn, List.length_append, List.length_cons, List.length_nil]
  omega

set_option maxRecDepth 100000 in
set_option maxHeartbeats 4000000 in
theorem written_any {r : R.Rl} {nl cl nr cr np cp : Nat} {AL AR AP : Option Addr} {W : World} (hR : RlAt W r nl nr np AL AR AP) (hT : Tens W) (hnl : nl ≤ 100) (hnr : nr ≤ 100) (hnp : np ≤ 100) (hL : ∀ x ∈ r.left, NdI x) (hQ : ∀ x ∈ r.right, NdI x) (hP : ∀ c ∈ r.pre, CdI c) :
    Calls Tryz.prog 73 #[.agg #[.slice AL nl cl, .slice AR nr cr, .slice AP np cp]] W fun e w' => e = .returned (.string ⟨(textW r).toArray⟩) ∧ Below W.heap.size W w' := by
  obtain ⟨W1, hW1⟩ : ∃ W1, W1 = W.alloc (.cells #[.slice AL nl cl, .slice AR nr cr, .slice AP np cp] 33) := ⟨_, rfl⟩
  have hb1 : Below W.heap.size W W1 := by rw [hW1]; exact (Below.refl _ _).alloc (Nat.le_refl _) _
  have hrow : W1.heap[W.heap.size]? = some (.cells #[.slice AL nl cl, .slice AR nr cr, .slice AP np cp] 33 (0, 0)) := by rw [hW1]; exact heap_alloc_new W _
  have HB1 := Lib.hid hb1
  have HR := Lib.hid (fun X (h : Below W1.heap.size W1 X) => (hR.below hb1).below h)
  have HT := Lib.hid (fun X (h : Below W1.heap.size W1 X) => (hT.below hb1).below h)
  have Hrow := Lib.hid (fun (X : World) (h : Below W1.heap.size W1 X) => (h.block _ (Array.getElem?_eq_some_iff.1 hrow).1).trans hrow)
  have HL := Lib.hid hL
  have HQ := Lib.hid hQ
  have HP := Lib.hid hP
  have Hll := Lib.hid hR.sl.len
  have Hlr := Lib.hid hR.sr.len
  have Hlp := Lib.hid hR.sp.len
  have HW1 := Lib.hid hW1
  have HS0 := Lib.hid (show WS W1 W1 (.slice none 0 0) 0 [] from ⟨rfl, OwnAt.nil_ _ _ _, Below.refl _ _, fun i e => by simp [Value.ownBlock] at e⟩)
  obtain ⟨c0, c1, c2, _⟩ := rl_cells hrow
  clear hR hT hL hQ hP hb1 hrow hW1
  go_enter Tryz.func73, Tryz.ntmps73
  go_upto_region 1 with (fail)
  rw [← HW1.out]
  go_wp2_with fail
  go_loopg [3, 13] (nl + 1) (fun gg s3 si wr => ∃ (j : Nat) (v : Value), j ≤ nl ∧ s3 = v ∧ si = .int .i64 (j : Int) ∧ gg + j = nl + 1 ∧ Hid (WS W1 wr v (j) ([] ++ (r.left.take j).map nodeW)))
  case atStart => exact ⟨0, _, Nat.zero_le _, rfl, rfl, by omega, Lib.hid (by simpa using HS0.out)⟩
  case round =>
    obtain ⟨j, v, hj, rfl, rfl, hgk, Hws⟩ := hrel
    have Hgk := Lib.hid hgk
    clear hgk
    obtain ⟨Av, cv, hv⟩ := Hws.out.o.form
    subst hv
    by_cases hjn : j < nl
    · obtain ⟨x, b, off, A, c, hx, hAe, hb, c0, c1, c2, c3, c4, hsl, i0, i1⟩ := nd_cells (HR.out _ Hws.out.b).sl hjn
      subst hAe
      have Hx := Lib.hid hx
      have Hxi := Lib.hid (HL.out x (List.mem_of_getElem? hx))
      obtain ⟨w8, hw8⟩ : ∃ w8, w8 = wr.alloc (.cells #[.int .i64 x.op, .int .i64 x.w, .int .i64 x.fl, .slice A x.args.length c, .int .u32 x.imm] 62) := ⟨_, rfl⟩
      have hb8 : Below wr.heap.size wr w8 := by rw [hw8]; exact (Below.refl _ _).alloc (Nat.le_refl _) _
      have hr8 : w8.heap[wr.heap.size]? = some (.cells #[.int .i64 x.op, .int .i64 x.w, .int .i64 x.fl, .slice A x.args.length c, .int .u32 x.imm] 62 (0, 0)) := by rw [hw8]; exact heap_alloc_new wr _
      have Hs8 := Lib.hid (Hws.out.below hb8)
      have Hnt := Lib.hid (nodeText_any (c := c) Hxi.out (hsl.below (monoInt _) hb8) (HT.out _ Hs8.out.b))
      obtain ⟨r0, r1, r2, r3, r4⟩ := cells5' hr8
      clear hx hb8 hr8 hsl hb i0 i1
      go_upto_region 5 with (fail)
      rw [← hw8]
      clear hw8 c0 c1 c2 c3 c4
      go_wp2_with fail
      (with_reducible refine Hnt.out.mono ?_)
      rintro e w9 ⟨rfl, hb9⟩
      have Hs9 := Lib.hid (Hs8.out.below hb9)
      clear hb9 Hnt r0 r1 r2 r3 r4
      go_wp2_with (at_builtin; refine wpList_append_one' rfl (.tmp 17) (.tmp 20) 106 rfl 9 (.string ByteArray.empty) 16 Tryz.underlying106 infoS rfl _ (j) _ rfl Hs9.out.o (.string ⟨(nodeW x).toArray⟩) rfl 9 w9.heap.size rfl rfl (by omega) (by omega) ?_; intro v' wA hown hgr hat; have HsA := Lib.hid (Hs9.out.app hown hgr hat); clear hown hgr hat)
      go_roundg (gk - 1)
      case measure => have := Hgk.out; omega
      case rel =>
        have := Hgk.out
        refine ⟨j + 1, v', by omega, rfl, by go_num, by omega, Lib.hid ?_⟩
        have h := HsA.out
        rw [List.take_add_one, Hx.out, List.map_append, ← List.append_assoc]
        exact h
    · obtain rfl : nl = j := by omega
      have HsB := Lib.hid (show WS W1 wr (.slice Av (nl) cv) (nl) ([] ++ r.left.map nodeW) from by
        have h := Hws.out
        rw [List.take_of_length_le (by rw [Hll.out]; exact Nat.le_refl _)] at h
        exact h)
      clear Hws
      obtain ⟨d0, d1, d2, _⟩ := rl_cells (Hrow.out _ HsB.out.b)
      clear d0 d1 d2
      go_wp2_with (at_builtin; refine wpList_append_one' rfl (.tmp 23) (.tmp 24) 106 rfl 9 (.string ByteArray.empty) 16 Tryz.underlying106 infoS rfl _ nl _ rfl HsB.out.o (.string ⟨([61, 62]).toArray⟩) rfl 9 wr.heap.size rfl rfl (by omega) (by omega) ?_; intro v2 wC hown hgr hat; have HsC := Lib.hid (HsB.out.app hown hgr hat); clear hown hgr hat; obtain ⟨d0, d1, d2, _⟩ := rl_cells (Hrow.out _ HsC.out.b))
      go_loopg [3, 29] (nr + 1) (fun gg s3 si wr => ∃ (j : Nat) (v : Value), j ≤ nr ∧ s3 = v ∧ si = .int .i64 (j : Int) ∧ gg + j = nr + 1 ∧ Hid (WS W1 wr v (nl + 1 + j) (([] ++ r.left.map nodeW ++ [[61, 62]]) ++ (r.right.take j).map nodeW)))
      case atStart => exact ⟨0, _, Nat.zero_le _, rfl, rfl, by omega, Lib.hid (by simpa using HsC.out)⟩
      case round =>
        obtain ⟨j, v, hj, rfl, rfl, hgk, Hws⟩ := hrel
        have Hgk := Lib.hid hgk
        clear hgk
        obtain ⟨Av, cv, hv⟩ := Hws.out.o.form
        subst hv
        by_cases hjn : j < nr
        · obtain ⟨x, b, off, A, c, hx, hAe, hb, c0, c1, c2, c3, c4, hsl, i0, i1⟩ := nd_cells (HR.out _ Hws.out.b).sr hjn
          subst hAe
          have Hx := Lib.hid hx
          have Hxi := Lib.hid (HQ.out x (List.mem_of_getElem? hx))
          obtain ⟨w8, hw8⟩ : ∃ w8, w8 = wr.alloc (.cells #[.int .i64 x.op, .int .i64 x.w, .int .i64 x.fl, .slice A x.args.length c, .int .u32 x.imm] 62) := ⟨_, rfl⟩
          have hb8 : Below wr.heap.size wr w8 := by rw [hw8]; exact (Below.refl _ _).alloc (Nat.le_refl _) _
          have hr8 : w8.heap[wr.heap.size]? = some (.cells #[.int .i64 x.op, .int .i64 x.w, .int .i64 x.fl, .slice A x.args.length c, .int .u32 x.imm] 62 (0, 0)) := by rw [hw8]; exact heap_alloc_new wr _
          have Hs8 := Lib.hid (Hws.out.below hb8)
          have Hnt := Lib.hid (nodeText_any (c := c) Hxi.out (hsl.below (monoInt _) hb8) (HT.out _ Hs8.out.b))
          obtain ⟨r0, r1, r2, r3, r4⟩ := cells5' hr8
          clear hx hb8 hr8 hsl hb i0 i1
          go_upto_region 11 with (fail)
          rw [← hw8]
          clear hw8 c0 c1 c2 c3 c4
          go_wp2_with fail
          (with_reducible refine Hnt.out.mono ?_)
          rintro e w9 ⟨rfl, hb9⟩
          have Hs9 := Lib.hid (Hs8.out.below hb9)
          clear hb9 Hnt r0 r1 r2 r3 r4
          go_wp2_with (at_builtin; refine wpList_append_one' rfl (.tmp 33) (.tmp 36) 106 rfl 9 (.string ByteArray.empty) 16 Tryz.underlying106 infoS rfl _ (nl + 1 + j) _ rfl Hs9.out.o (.string ⟨(nodeW x).toArray⟩) rfl 9 w9.heap.size rfl rfl (by omega) (by omega) ?_; intro v' wA hown hgr hat; have HsA := Lib.hid (Hs9.out.app hown hgr hat); clear hown hgr hat)
          go_roundg (gk - 1)
          case measure => have := Hgk.out; omega
          case rel =>
            have := Hgk.out
            refine ⟨j + 1, v', by omega, rfl, by go_num, by omega, Lib.hid ?_⟩
            have h := HsA.out
            rw [List.take_add_one, Hx.out, List.map_append, ← List.append_assoc]
            exact h
        · obtain rfl : nr = j := by omega
          have HsB := Lib.hid (show WS W1 wr (.slice Av (nl + 1 + nr) cv) (nl + 1 + nr) (([] ++ r.left.map nodeW ++ [[61, 62]]) ++ r.right.map nodeW) from by
            have h := Hws.out
            rw [List.take_of_length_le (by rw [Hlr.out]; exact Nat.le_refl _)] at h
            exact h)
          clear Hws
          obtain ⟨d0, d1, d2, _⟩ := rl_cells (Hrow.out _ HsB.out.b)
          clear d0 d1 d2
          go_wp2_with (at_builtin; refine wpList_append_one' rfl (.tmp 39) (.tmp 40) 106 rfl 9 (.string ByteArray.empty) 16 Tryz.underlying106 infoS rfl _ (nl + 1 + nr) _ rfl HsB.out.o (.string ⟨([105, 102]).toArray⟩) rfl 9 wr.heap.size rfl rfl (by omega) (by omega) ?_; intro v3 wD hown hgr hat; have HsD := Lib.hid (HsB.out.app hown hgr hat); clear hown hgr hat; obtain ⟨d0, d1, d2, _⟩ := rl_cells (Hrow.out _ HsD.out.b))
          go_loopg [3, 45] (np + 1) (fun gg s3 si wr => ∃ (j : Nat) (v : Value), j ≤ np ∧ s3 = v ∧ si = .int .i64 (j : Int) ∧ gg + j = np + 1 ∧ Hid (WS W1 wr v (nl + 1 + nr + 1 + j) (([] ++ r.left.map nodeW ++ [[61, 62]] ++ r.right.map nodeW ++ [[105, 102]]) ++ (r.pre.take j).map condW)))
          case atStart => exact ⟨0, _, Nat.zero_le _, rfl, rfl, by omega, Lib.hid (by simpa using HsD.out)⟩
          case round =>
            obtain ⟨j, v, hj, rfl, rfl, hgk, Hws⟩ := hrel
            have Hgk := Lib.hid hgk
            clear hgk
            obtain ⟨Av, cv, hv⟩ := Hws.out.o.form
            subst hv
            by_cases hjn : j < np
            · obtain ⟨x, b, off, hx, hAe, hb, c0, c1, c2, i0, i1⟩ := cd_cells (HR.out _ Hws.out.b).sp hjn
              subst hAe
              have Hx := Lib.hid hx
              have hxi := HP.out x (List.mem_of_getElem? hx)
              obtain ⟨w8, hw8⟩ : ∃ w8, w8 = wr.alloc (.cells #[.int .i64 x.kind, .int .i64 x.hole, .int .u32 x.imm] 88) := ⟨_, rfl⟩
              have hb8 : Below wr.heap.size wr w8 := by rw [hw8]; exact (Below.refl _ _).alloc (Nat.le_refl _) _
              have hr8 : w8.heap[wr.heap.size]? = some (.cells #[.int .i64 x.kind, .int .i64 x.hole, .int .u32 x.imm] 88 (0, 0)) := by rw [hw8]; exact heap_alloc_new wr _
              have Hs8 := Lib.hid (Hws.out.below hb8)
              have HSc := Lib.hid (show ∀ Y, Below w8.heap.size w8 Y → Y.cell? ⟨wr.heap.size, 0, none⟩ = some (.int .i64 x.kind) ∧ Y.cell? ⟨wr.heap.size, 1, none⟩ = some (.int .i64 x.hole) ∧ Y.cell? ⟨wr.heap.size, 2, none⟩ = some (.int .u32 x.imm) from fun Y hY => by
                obtain ⟨h0, h1, h2, _⟩ := rl_cells ((hY.block _ (Array.getElem?_eq_some_iff.1 hr8).1).trans hr8)
                exact ⟨h0, h1, h2⟩)
              obtain ⟨sa, hsa⟩ : ∃ s, s = itoa x.kind := ⟨_, rfl⟩
              obtain ⟨sb, hsb⟩ : ∃ s, s = itoa x.hole := ⟨_, rfl⟩
              obtain ⟨sd, hsd⟩ : ∃ s, s = itoa x.imm := ⟨_, rfl⟩
              have ha : sa.length ≤ 20 := by rw [hsa]; exact itoa_len hxi.kind
              have hb' : sb.length ≤ 20 := by rw [hsb]; exact itoa_len hxi.hole
              have hd : sd.length ≤ 20 := by rw [hsd]; exact itoa_len ⟨by omega, by omega⟩
              obtain ⟨s1, hs1⟩ : ∃ s, s = sa ++ [46] := ⟨_, rfl⟩
              obtain ⟨s2, hs2⟩ : ∃ s, s = s1 ++ sb := ⟨_, rfl⟩
              obtain ⟨s3, hs3⟩ : ∃ s, s = s2 ++ [46] := ⟨_, rfl⟩
              obtain ⟨s4, hs4⟩ : ∃ s, s = s3 ++ sd := ⟨_, rfl⟩
              have l1 : s1.length ≤ 21 := by rw [hs1, List.length_append]; simp; omega
              have l2 : s2.length ≤ 41 := by rw [hs2, List.length_append]; omega
              have l3 : s3.length ≤ 42 := by rw [hs3, List.length_append]; simp; omega
              have n1 : ¬ 9223372036854775807 < sa.length + 1 := by omega
              have n2 : ¬ 9223372036854775807 < s1.length + sb.length := by omega
              have n3 : ¬ 9223372036854775807 < s2.length + 1 := by omega
              have n4 : ¬ 9223372036854775807 < s3.length + sd.length := by omega
              have m1 : (⟨sa.toArray⟩ ++ ⟨#[46]⟩ : ByteArray) = ⟨s1.toArray⟩ := by rw [hs1]; exact ByteArray.mk_append_mk sa [46]
              have m2 : (⟨s1.toArray⟩ ++ ⟨sb.toArray⟩ : ByteArray) = ⟨s2.toArray⟩ := by rw [hs2]; exact ByteArray.mk_append_mk s1 sb
              have m3 : (⟨s2.toArray⟩ ++ ⟨#[46]⟩ : ByteArray) = ⟨s3.toArray⟩ := by rw [hs3]; exact ByteArray.mk_append_mk s2 [46]
              have m4 : (⟨s3.toArray⟩ ++ ⟨sd.toArray⟩ : ByteArray) = ⟨s4.toArray⟩ := by rw [hs4]; exact ByteArray.mk_append_mk s3 sd
              have HcW := Lib.hid (show condW x = s4 from by unfold condW; rw [hs4, hs3, hs2, hs1, hsa, hsb, hsd]; simp [jn])
              have hwi : IntKind.u64.wrap x.imm = x.imm := by rw [IntKind.wrap_u64]; omega
              have HI1 := Lib.hid (fun X (h : Below w8.heap.size w8 X) => (by have h := kItoa_any hxi.kind (HT.out _ (Hs8.out.b.trans (h.mono Hs8.out.b.size))); rw [← hsa] at h; exact h))
              have HI2 := Lib.hid (fun X (h : Below w8.heap.size w8 X) => (by have h := kItoa_any hxi.hole (HT.out _ (Hs8.out.b.trans (h.mono Hs8.out.b.size))); rw [← hsb] at h; exact h))
              have HI3 := Lib.hid (fun X (h : Below w8.heap.size w8 X) => (by have h := fmt_any i0 (by omega : x.imm < 18446744073709551616) (HT.out _ (Hs8.out.b.trans (h.mono Hs8.out.b.size))); rw [← hsd] at h; exact h))
              have Hd8 := Lib.hid (show Below w8.heap.size w8 w8.drew from (Below.refl _ _).drew)
              have Hr8 := Lib.hid hr8
              have Hlt := Lib.hid (show ∀ i, (Value.slice Av (nl + 1 + nr + 1 + j) cv).ownBlock = some i → i < wr.heap.size from fun i hi => Hws.out.o.lt i hi)
              obtain ⟨ii, hi1, hz1, hsz1, hby1⟩ := info_parts infoS
              have Hinf := Lib.hid (And.intro hi1 (And.intro hz1 (And.intro hsz1 hby1)))
              clear hx hb8 hr8 hb i0 i1 hxi hsa hsb hsd hs1 hs2 hs3 hs4 hi1 hz1 hsz1 hby1
              go_upto_region 17 with (fail)
              rw [← hw8]
              clear hw8 c0 c1 c2
              refine wp_region_held_drew (S := fun Y : World => Y.cell? ⟨wr.heap.size, 0, none⟩ = some (.int .i64 x.kind) ∧ Y.cell? ⟨wr.heap.size, 1, none⟩ = some (.int .i64 x.hole) ∧ Y.cell? ⟨wr.heap.size, 2, none⟩ = some (.int .u32 x.imm)) (by kernel_rfl) (HSc.out _ Hd8.out) (fun hHeld => ?_)
              refine wpAnyH_take (i := 0) (oi := _) (v := ?_) rfl (by kernel_rfl) (by kernel_rfl) (by kernel_rfl) (fun _ _ _ h => h) (Or.inl ⟨by rfl, fun Y hY => ?_⟩) hHeld ?_
              rotate_left
              · (go_simp) <;> with_reducible rfl
              try simp only [Act.put, List.setIfInBounds_toArray, List.set_cons_zero, List.set_cons_succ, List.getElem_toArray, List.getElem_cons_succ, List.getElem_cons_zero]
              refine wpAnyH_take (i := 1) (oi := _) (v := ?_) rfl (by kernel_rfl) (by kernel_rfl) (by kernel_rfl) (fun _ _ _ h => h) (Or.inl ⟨by rfl, fun Y hY => ?_⟩) hHeld ?_
              rotate_left
              · (go_simp) <;> with_reducible rfl
              try simp only [Act.put, List.setIfInBounds_toArray, List.set_cons_zero, List.set_cons_succ, List.getElem_toArray, List.getElem_cons_succ, List.getElem_cons_zero]
              refine wpAnyH_take (i := 2) (oi := _) (v := ?_) rfl (by kernel_rfl) (by kernel_rfl) (by kernel_rfl) (fun _ _ _ h => h) (Or.inl ⟨by rfl, fun Y hY => ?_⟩) hHeld ?_
              rotate_left
              · obtain ⟨y0, y1, y2⟩ := hY
                (go_simp) <;> with_reducible rfl
              try simp only [Act.put, List.setIfInBounds_toArray, List.set_cons_zero, List.set_cons_succ, List.getElem_toArray, List.getElem_cons_succ, List.getElem_cons_zero]
              refine wpAnyH_take (i := 5) (oi := _) (v := ?_) rfl (by kernel_rfl) (by kernel_rfl) (by kernel_rfl) (fun _ _ _ h => h) (Or.inl ⟨by rfl, fun Y hY => ?_⟩) hHeld ?_
              rotate_left
              · (go_simp) <;> with_reducible rfl
              try simp only [Act.put, List.setIfInBounds_toArray, List.set_cons_zero, List.set_cons_succ, List.getElem_toArray, List.getElem_cons_succ, List.getElem_cons_zero]
              refine wpAnyH_take (i := 6) (oi := _) (v := ?_) rfl (by kernel_rfl) (by kernel_rfl) (by kernel_rfl) (fun _ _ _ h => h) (Or.inl ⟨by rfl, fun Y hY => ?_⟩) hHeld ?_
              rotate_left
              · obtain ⟨y0, y1, y2⟩ := hY
                (go_simp) <;> with_reducible rfl
              try simp only [Act.put, List.setIfInBounds_toArray, List.set_cons_zero, List.set_cons_succ, List.getElem_toArray, List.getElem_cons_succ, List.getElem_cons_zero]
              refine wpAnyH_take (i := 10) (oi := _) (v := ?_) rfl (by kernel_rfl) (by kernel_rfl) (by kernel_rfl) (fun _ _ _ h => h) (Or.inl ⟨by rfl, fun Y hY => ?_⟩) hHeld ?_
              rotate_left
              · (go_simp) <;> with_reducible rfl
              try simp only [Act.put, List.setIfInBounds_toArray, List.set_cons_zero, List.set_cons_succ, List.getElem_toArray, List.getElem_cons_succ, List.getElem_cons_zero]
              refine wpAnyH_take (i := 11) (oi := _) (v := ?_) rfl (by kernel_rfl) (by kernel_rfl) (by kernel_rfl) (fun _ _ _ h => h) (Or.inl ⟨by rfl, fun Y hY => ?_⟩) hHeld ?_
              rotate_left
              · obtain ⟨y0, y1, y2⟩ := hY
                (go_simp) <;> with_reducible rfl
              try simp only [Act.put, List.setIfInBounds_toArray, List.set_cons_zero, List.set_cons_succ, List.getElem_toArray, List.getElem_cons_succ, List.getElem_cons_zero]
              refine wpAnyH_take (i := 12) (oi := _) (v := ?_) rfl (by kernel_rfl) (by kernel_rfl) (by kernel_rfl) (fun _ _ _ h => h) (Or.inl ⟨by rfl, fun Y hY => ?_⟩) hHeld ?_
              rotate_left
              · (go_simp) <;> with_reducible rfl
              try simp only [Act.put, List.setIfInBounds_toArray, List.set_cons_zero, List.set_cons_succ, List.getElem_toArray, List.getElem_cons_succ, List.getElem_cons_zero]
              refine wpAnyH_ready (rs := [3]) (by kernel_rfl) (by simp) ?_
              refine AllReadyH.cons (o := _) rfl (fun KK hKK => ?_) AllReadyH.nil
              clear hHeld
              go_simp
              (with_reducible refine (HI1.out _ Hd8.out).mono ?_)
              rintro e x1 ⟨rfl, hb'⟩
              have Hx1 := Lib.hid (Hd8.out.trans (hb'.mono Hd8.out.size))
              clear hb'
              refine hKK.out _ _ (HSc.out _ Hx1.out) (fun hHeld => ?_)
              clear hKK KK
              try simp only [Act.put, List.setIfInBounds_toArray, List.set_cons_zero, List.set_cons_succ, List.getElem_toArray, List.getElem_cons_succ, List.getElem_cons_zero]
              refine wpAnyH_take (i := 4) (oi := _) (v := .string ⟨s1.toArray⟩) rfl (by kernel_rfl) (by kernel_rfl) (by kernel_rfl) (fun _ _ _ h => h) (Or.inl ⟨by rfl, fun Y hY => ?_⟩) hHeld ?_
              · go_simp
              try simp only [Act.put, List.setIfInBounds_toArray, List.set_cons_zero, List.set_cons_succ, List.getElem_toArray, List.getElem_cons_succ, List.getElem_cons_zero]
              refine wpAnyH_ready (rs := [7]) (by kernel_rfl) (by simp) ?_
              refine AllReadyH.cons (o := _) rfl (fun KK hKK => ?_) AllReadyH.nil
              clear hHeld
              go_simp
              (with_reducible refine (HI2.out _ Hx1.out).mono ?_)
              rintro e x2 ⟨rfl, hb'⟩
              have Hx2 := Lib.hid (Hx1.out.trans (hb'.mono Hx1.out.size))
              clear hb'
              refine hKK.out _ _ (HSc.out _ Hx2.out) (fun hHeld => ?_)
              clear hKK KK
              try simp only [Act.put, List.setIfInBounds_toArray, List.set_cons_zero, List.set_cons_succ, List.getElem_toArray, List.getElem_cons_succ, List.getElem_cons_zero]
              refine wpAnyH_take (i := 8) (oi := _) (v := .string ⟨s2.toArray⟩) rfl (by kernel_rfl) (by kernel_rfl) (by kernel_rfl) (fun _ _ _ h => h) (Or.inl ⟨by rfl, fun Y hY => ?_⟩) hHeld ?_
              · go_simp
              try simp only [Act.put, List.setIfInBounds_toArray, List.set_cons_zero, List.set_cons_succ, List.getElem_toArray, List.getElem_cons_succ, List.getElem_cons_zero]
              refine wpAnyH_take (i := 9) (oi := _) (v := .string ⟨s3.toArray⟩) rfl (by kernel_rfl) (by kernel_rfl) (by kernel_rfl) (fun _ _ _ h => h) (Or.inl ⟨by rfl, fun Y hY => ?_⟩) hHeld ?_
              · go_simp
              try simp only [Act.put, List.setIfInBounds_toArray, List.set_cons_zero, List.set_cons_succ, List.getElem_toArray, List.getElem_cons_succ, List.getElem_cons_zero]
              refine wpAnyH_ready (rs := [13]) (by kernel_rfl) (by simp) ?_
              refine AllReadyH.cons (o := _) rfl (fun KK hKK => ?_) AllReadyH.nil
              clear hHeld
              go_simp
              (with_reducible refine (HI3.out _ Hx2.out).mono ?_)
              rintro e x3 ⟨rfl, hb'⟩
              have Hx3 := Lib.hid (Hx2.out.trans (hb'.mono Hx2.out.size))
              clear hb'
              refine hKK.out _ _ (HSc.out _ Hx3.out) (fun hHeld => ?_)
              clear hKK KK
              try simp only [Act.put, List.setIfInBounds_toArray, List.set_cons_zero, List.set_cons_succ, List.getElem_toArray, List.getElem_cons_succ, List.getElem_cons_zero]
              refine wpAnyH_take (i := 14) (oi := _) (v := .string ⟨s4.toArray⟩) rfl (by kernel_rfl) (by kernel_rfl) (by kernel_rfl) (fun _ _ _ h => h) (Or.inl ⟨by rfl, fun Y hY => ?_⟩) hHeld ?_
              · go_simp
              try simp only [Act.put, List.setIfInBounds_toArray, List.set_cons_zero, List.set_cons_succ, List.getElem_toArray, List.getElem_cons_succ, List.getElem_cons_zero]
              refine wpAnyH_ready (rs := [15]) (by kernel_rfl) (by simp) ?_
              refine AllReadyH.cons (o := _) rfl (fun KK hKK => ?_) AllReadyH.nil
              clear hHeld
              go_simp
              obtain ⟨wa, hwa⟩ : ∃ wa, wa = x3.alloc (.cells #[.string ⟨s4.toArray⟩] 9) := ⟨_, rfl⟩
              rw [← hwa]
              have hba : Below x3.heap.size x3 wa := by rw [hwa]; exact (Below.refl _ _).alloc (Nat.le_refl _) _
              have Hba := Lib.hid (Hx3.out.trans (hba.mono Hx3.out.size))
              have Hra := Lib.hid (show wa.heap[x3.heap.size]? = some (.cells #[.string ⟨s4.toArray⟩] 9 (0, 0)) from by rw [hwa]; exact heap_alloc_new x3 _)
              have HsX := Lib.hid (Hs8.out.below Hx3.out)
              have HoA := Lib.hid (HsX.out.below hba).o
              have Hwa := Lib.hid hwa
              have Hsa := Lib.hid (show wa.heap.size = x3.heap.size + 1 from by rw [hwa]; simp)
              clear hba hwa
              refine hKK.out _ _ (HSc.out _ Hba.out) (fun hHeld => ?_)
              clear hKK KK
              try simp only [Act.put, List.setIfInBounds_toArray, List.set_cons_zero, List.set_cons_succ, List.getElem_toArray, List.getElem_cons_succ, List.getElem_cons_zero]
              refine wpAnyH_ready (rs := [16]) (by kernel_rfl) (by simp) ?_
              refine AllReadyH.cons (o := _) rfl (fun KK hKK => ?_) AllReadyH.nil
              clear hHeld
              refine wp_append_at wa (.tmp 49) (.tmp 64) 106 rfl 9 ii (.string ByteArray.empty) 1 16 Tryz.underlying106 Hinf.out.1 Hinf.out.2.1 Hinf.out.2.2.1 Hinf.out.2.2.2 rfl (.slice Av (nl + 1 + nr + 1 + j) cv) (nl + 1 + nr + 1 + j) _ rfl HoA.out ⟨x3.heap.size, 0, none⟩ 1 1 [.string ⟨s4.toArray⟩] rfl rfl (cell_one_rowE Hra.out) (by simp [Value.oneCell']) (by simp only [maxLen]; omega) (by omega) ?_
              intro v' w' hown hgr hat
              have HsE := Lib.hid (HsX.out.app (x := s4) hown (by rw [← Hwa.out]; exact hgr) (by rw [← Hsa.out]; exact hat))
              have HSw := Lib.hid (show w'.cell? ⟨wr.heap.size, 0, none⟩ = some (.int .i64 x.kind) ∧ w'.cell? ⟨wr.heap.size, 1, none⟩ = some (.int .i64 x.hole) ∧ w'.cell? ⟨wr.heap.size, 2, none⟩ = some (.int .u32 x.imm) from by
                have h8 := (Hba.out.block _ (Array.getElem?_eq_some_iff.1 Hr8.out).1).trans Hr8.out
                obtain ⟨h0, h1, h2, _⟩ := rl_cells ((hgr.block _ (Array.getElem?_eq_some_iff.1 h8).1 (fun e => by have := Hlt.out _ e.symm; omega)).trans h8)
                exact ⟨h0, h1, h2⟩)
              clear hown hgr hat
              refine hKK.out _ _ HSw.out (fun hHeld => ?_)
              clear hKK KK
              try simp only [Act.put, List.setIfInBounds_toArray, List.set_cons_zero, List.set_cons_succ, List.getElem_toArray, List.getElem_cons_succ, List.getElem_cons_zero]
              refine wpAnyH_take (i := 17) (oi := _) (v := ?_) rfl (by kernel_rfl) (by kernel_rfl) (by kernel_rfl) (fun _ _ _ h => h) (Or.inl ⟨by rfl, fun Y hY => ?_⟩) hHeld ?_
              rotate_left
              · (go_simp) <;> with_reducible rfl
              try simp only [Act.put, List.setIfInBounds_toArray, List.set_cons_zero, List.set_cons_succ, List.getElem_toArray, List.getElem_cons_succ, List.getElem_cons_zero]
              refine wpAnyH_done (by kernel_rfl) ?_ _
              go_wp2
              go_roundg (gk - 1)
              case measure => have := Hgk.out; omega
              case rel =>
                have := Hgk.out
                refine ⟨j + 1, v', by omega, rfl, by go_num, by omega, Lib.hid ?_⟩
                have h := HsE.out
                rw [List.take_add_one, Hx.out, List.map_append, ← List.append_assoc]
                simp only [Option.toList_some, List.map_cons, List.map_nil]
                rw [HcW.out]
                exact h
            · obtain rfl : np = j := by omega
              have HsB := Lib.hid (show WS W1 wr (.slice Av (nl + 1 + nr + 1 + np) cv) (nl + 1 + nr + 1 + np) (wordsOf r) from by
                have h := Hws.out
                rw [List.take_of_length_le (by rw [Hlp.out]; exact Nat.le_refl _)] at h
                have e : ([] ++ r.left.map nodeW ++ [[61, 62]] ++ r.right.map nodeW ++ [[105, 102]]) ++ r.pre.map condW = wordsOf r := by simp [wordsOf, arrow, iff_]
                rw [e] at h
                exact h)
              have Hjl := Lib.hid (show (jn 32 (wordsOf r)).length ≤ 140737488355328 from by
                have h := jn_len_le 32 200 (wordsOf r) (fun y hy => by
                  unfold wordsOf at hy
                  simp only [List.mem_append, List.mem_cons, List.mem_map] at hy
                  rcases hy with ⟨x, hx, rfl⟩ | rfl | ⟨x, hx, rfl⟩ | rfl | ⟨x, hx, rfl⟩
                  · exact nodeW_len (HL.out x hx)
                  · decide
                  · exact nodeW_len (HQ.out x hx)
                  · decide
                  · exact condW_len (HP.out x hx))
                have h2 := HsB.out.len
                omega)
              clear Hws
              go_wp2_with fail
              (with_reducible refine (kJoin_any (words_ne r) 32 HsB.out.o Hjl.out (by omega)).mono ?_)
              rintro e w9 ⟨rfl, hb9⟩
              have Hb9 := Lib.hid (HsB.out.b.trans (hb9.mono HsB.out.b.size))
              clear hb9
              go_wp2
              go_ret
              exact ⟨rfl, HB1.out.trans (Hb9.out.mono HB1.out.size)⟩
end KT
end Go.Proofs.YtbiopedpceddeaaGreatDoor
