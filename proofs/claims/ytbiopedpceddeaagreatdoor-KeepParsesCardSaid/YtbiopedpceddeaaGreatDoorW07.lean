/- Merged: C4U9, C4U10, C4PlainV, C4PlainW. -/
import Derived.Test.YtbiopedpceddeaaGreatDoorW06
import Derived.Test.YtbiopedpceddeaaGreatDoorW03
import Derived.Test.YtbiopedpceddeaaGreatDoorW05
set_option linter.unusedVariables false
set_option linter.unusedSimpArgs false
section
namespace Go.Proofs.YtbiopedpceddeaaGreatDoor
open Go.RowKit
set_option linter.unusedVariables false
set_option linter.unusedSimpArgs false

namespace R
def lab (i : Nat) (x : T.Nd) : Bool := if i < 4 then decide (x.op = 33) && decide (x.imm = i) else decide (x.op = 34) && decide (x.imm = (i : Int) - 4)
def unkTo (all : Bool) (p : List T.Nd) (k : Nat) : List Bool := (List.range 6).map fun i => ((p.zip (need p)).take k).any fun q => (all || q.2) && lab i q.1
/-- which variables (4) and holes (2) a pattern has; all: also in nodes that do not lead to the root -/
def unk (all : Bool) (p : List T.Nd) : List Bool := unkTo all p p.length
theorem unkTo_len (all : Bool) (p : List T.Nd) (k : Nat) : (unkTo all p k).length = 6 := by simp [unkTo]
theorem unkTo_snoc {all : Bool} {p : List T.Nd} {k : Nat} {x : T.Nd} {b : Bool} (hx : p[k]? = some x) (hb : (need p)[k]? = some b) {i : Nat} (hi : i < 6) : (unkTo all p (k + 1))[i]? = some (((unkTo all p k).getD i false) || ((all || b) && lab i x)) := by
  have hz : (p.zip (need p))[k]? = some (x, b) := List.getElem?_zip_eq_some.2 ⟨hx, hb⟩
  unfold unkTo
  rw [K.take_succ_at hz]
  simp [hi, List.getD_eq_getElem?_getD]
theorem unkTo_same {all : Bool} {p : List T.Nd} {k : Nat} {x : T.Nd} {b : Bool} (hx : p[k]? = some x) (hb : (need p)[k]? = some b) (h : ∀ i, i < 6 → ((all || b) && lab i x) = false) : unkTo all p (k + 1) = unkTo all p k := by
  refine List.ext_getElem? fun i => ?_
  by_cases hi : i < 6
  · rw [unkTo_snoc hx hb hi, h i hi, Bool.or_false, List.getD_eq_getElem?_getD, List.getElem?_eq_getElem (by rw [unkTo_len]; exact hi)]; rfl
  · rw [List.getElem?_eq_none (by rw [unkTo_len]; omega), List.getElem?_eq_none (by rw [unkTo_len]; omega)]
theorem unkTo_set {all : Bool} {p : List T.Nd} {k : Nat} {x : T.Nd} {b : Bool} (hx : p[k]? = some x) (hb : (need p)[k]? = some b) (hab : (all || b) = true) {v : Nat} (hv : v < 6) (h : ∀ i, i < 6 → lab i x = decide (i = v)) : unkTo all p (k + 1) = (unkTo all p k).set v true := by
  refine List.ext_getElem? fun i => ?_
  by_cases hi : i < 6
  · rw [unkTo_snoc hx hb hi, hab, h i hi, List.getElem?_set, Bool.true_and, List.getD_eq_getElem?_getD, List.getElem?_eq_getElem (by rw [unkTo_len]; exact hi)]
    by_cases e : v = i
    · subst e; simp [unkTo_len, hi]
    · have : ¬ i = v := fun h => e h.symm
      simp [e, this]
  · rw [List.getElem?_eq_none (by rw [unkTo_len]; omega), List.getElem?_eq_none (by rw [List.length_set, unkTo_len]; omega)]
theorem lab_var {x : T.Nd} {v : Nat} (ho : x.op = 33) (hi : x.imm = v) (hv : v < 4) : ∀ i, i < 6 → lab i x = decide (i = v) := by
  intro i h
  unfold lab
  rw [ho, hi]
  by_cases h4 : i < 4
  · simp [h4]; omega
  · simp [h4]; omega
theorem lab_hole {x : T.Nd} {v : Nat} (ho : x.op = 34) (hi : x.imm = v) (hv : v < 2) : ∀ i, i < 6 → lab i x = decide (i = 4 + v) := by
  intro i h
  unfold lab
  rw [ho, hi]
  by_cases h4 : i < 4
  · simp [h4]; omega
  · simp [h4]; omega
theorem lab_other {x : T.Nd} (h1 : x.op ≠ 33) (h2 : x.op ≠ 34) (i : Nat) : lab i x = false := by
  unfold lab
  simp [h1, h2]
theorem nfold_len (a : Nat) : ∀ (q : List Int) (o : List Bool), (q.foldl (nstep a) o).length = o.length := by
  intro q
  induction q with
  | nil => intro o; rfl
  | cons c q ih => intro o; rw [List.foldl_cons, ih, nstep_len]
theorem need_len (p : List T.Nd) : (need p).length = p.length := by
  have h1 : ∀ (l : List Nat) (o : List Bool), (l.foldl (need1 p) o).length = o.length := by
    intro l
    induction l with
    | nil => intro o; rfl
    | cons a l ih => intro o; rw [List.foldl_cons, ih]; exact nfold_len a _ o
  unfold need
  rw [h1, List.length_set, List.length_replicate]
end R

/-- unknowns as a value -/
def unkV (l : List Bool) : Value := .agg #[.bool (l.getD 0 false), .bool (l.getD 1 false), .bool (l.getD 2 false), .bool (l.getD 3 false), .bool (l.getD 4 false), .bool (l.getD 5 false)]

set_option maxRecDepth 100000 in
set_option maxHeartbeats 2000000 in
theorem gunknowns_any (all : Bool) (p : List T.Nd) (n cp : Nat) (Ap : Option Addr) (W : World) (hP : StAt 5 NdR W Ap n p) (hn1 : 1 ≤ n) (hn : n ≤ 1000000) (harg : ∀ x ∈ p, ∀ a ∈ x.args, 0 ≤ a ∧ a < (n : Int)) (him : ∀ x ∈ p, (x.op = 33 → x.imm < 4) ∧ (x.op = 34 → x.imm < 2)) :
    Calls Tryz.prog 125 #[.slice Ap n cp, .bool all] W fun e w' => e = .returned (unkV (R.unk all p)) ∧ Below W.heap.size W w' := by
  have HP := Lib.hid hP
  have Him := Lib.hid him
  have Hlen := Lib.hid hP.len
  obtain ⟨W1, hW1⟩ : ∃ W1, W1 = (W.alloc (.cells #[.bool false, .bool false, .bool false, .bool false, .bool false, .bool false] 180)).alloc (.cells #[.bool false, .bool false, .bool false, .bool false, .bool false, .bool false] 180) := ⟨_, rfl⟩
  have hb1 : Below W.heap.size W W1 := by rw [hW1]; exact ((Below.refl _ _).alloc (Nat.le_refl _) _).alloc (by simp) _
  have HN := Lib.hid (gneeded_any p n cp Ap W1 (hP.below monoNd hb1) hn1 hn harg)
  have Hr0 := Lib.hid (show W1.heap[W.heap.size]? = some (.cells #[.bool false, .bool false, .bool false, .bool false, .bool false, .bool false] 180 (0, 0)) from by rw [hW1]; exact row_alloc (heap_alloc_new W _) _)
  have Hr1 := Lib.hid (show W1.heap[W.heap.size + 1]? = some (.cells #[.bool false, .bool false, .bool false, .bool false, .bool false, .bool false] 180 (0, 0)) from by rw [hW1]; exact new_two W _ _)
  have Hb1 := Lib.hid hb1
  have hs1 : W1.heap.size = W.heap.size + 2 := by rw [hW1]; simp
  clear hP him hb1 harg
  go_enter Tryz.func125, Tryz.ntmps125
  go_wp2_with fail
  rw [← hW1]
  clear hW1
  (with_reducible refine HN.out.mono ?_)
  rintro e w2 ⟨gn, rfl, hgn, hb2, hrn⟩
  have hs2 := hb2.size
  have Hr02 := Lib.hid (row_step (Lib.hid hb2) Hr0.out)
  have Hr12 := Lib.hid (row_step (Lib.hid hb2) Hr1.out)
  have Hb2 := Lib.hid (Hb1.out.trans (hb2.mono Hb1.out.size))
  have Hrn := Lib.hid hrn
  clear hb2 HN Hr0 Hr1 Hb1 hrn
  go_wp2
  go_loopg [13] (n + 1) (fun g i wr => ∃ (j : Nat), j ≤ n ∧ i = .int .i64 (j : Int) ∧ g + j = n + 1 ∧ Below W.heap.size W wr ∧ Hid (wr.heap[W.heap.size + 1]? = some (.cells ((R.unkTo all p j).map Value.bool).toArray 180 (0, 0))) ∧ Hid (wr.heap[W.heap.size]? = some (.cells #[.bool false, .bool false, .bool false, .bool false, .bool false, .bool false] 180 (0, 0))) ∧ Hid (wr.heap[gn]? = some (.cells ((R.need p).map Value.bool).toArray 4 (0, 0))))
  case atStart => exact ⟨0, Nat.zero_le _, rfl, rfl, Hb2.out, Hr12, Hr02, Hrn⟩
  case round =>
    clear Hb2 Hr12 Hr02 Hrn
    obtain ⟨j, hj, rfl, hgk, hbw, HU, HZ, HNe⟩ := hrel
    have Hgk := Lib.hid hgk; clear hgk
    by_cases hlt : j < n
    · obtain ⟨x, b, off, A, c, hx, rfl, hb, h0, h1, h2, h3, h4, hs, i0, i1⟩ := nd_cells HP.out hlt
      have k0 := (hbw.cell (p := ⟨b, off + j * 5, none⟩) hb).trans h0
      have k1 := (hbw.cell (p := ⟨b, off + j * 5 + 1, none⟩) hb).trans h1
      have k2 := (hbw.cell (p := ⟨b, off + j * 5 + 2, none⟩) hb).trans h2
      have k3 := (hbw.cell (p := ⟨b, off + j * 5 + 3, none⟩) hb).trans h3
      have k4 := (hbw.cell (p := ⟨b, off + j * 5 + 4, none⟩) hb).trans h4
      obtain ⟨bn, hbn⟩ : ∃ bn, (R.need p)[j]? = some bn := ⟨_, List.getElem?_eq_getElem (by rw [R.need_len, Hlen.out]; exact hlt)⟩
      have Hx := Lib.hid hx
      have Hbn := Lib.hid hbn
      have hbs := hbw.size
      have hlt1 : W.heap.size + 1 < wr.heap.size := (Array.getElem?_eq_some_iff.1 HU.out).1
      obtain ⟨l1, l2⟩ := Him.out x (List.mem_of_getElem? hx)
      obtain ⟨op, w, fl, args, imm⟩ := x
      dsimp only at k0 k1 k2 k3 k4 l1 l2 i0 i1
      have HbwR := Lib.hid hbw
      have Hbw := Lib.hid (hbw.alloc hbw.size (.cells #[.int .i64 op, .int .i64 w, .int .i64 fl, .slice A args.length c, .int .u32 imm] 62))
      have HU1 := Lib.hid (row_alloc HU.out (.cells #[.int .i64 op, .int .i64 w, .int .i64 fl, .slice A args.length c, .int .u32 imm] 62))
      have HZ1 := Lib.hid (row_alloc HZ.out (.cells #[.int .i64 op, .int .i64 w, .int .i64 fl, .slice A args.length c, .int .u32 imm] 62))
      have HN1 := Lib.hid (row_alloc HNe.out (.cells #[.int .i64 op, .int .i64 w, .int .i64 fl, .slice A args.length c, .int .u32 imm] 62))
      have hcn : (wr.alloc (.cells #[.int .i64 op, .int .i64 w, .int .i64 fl, .slice A args.length c, .int .u32 imm] 62)).cell? ⟨gn, j, none⟩ = some (.bool bn) := by
        rw [cell_of_row _ _ _ _ _ (0, 0) HN1.out, List.getElem?_toArray, List.getElem?_map, hbn]; rfl
      clear h0 h1 h2 h3 h4 hs hb hbw hx hbn
      have hab : (all = false ∧ bn = false) ∨ (all = true ∨ (all = false ∧ bn = true)) := by cases all <;> cases bn <;> simp
      rcases hab with ⟨rfl, rfl⟩ | hab
      · have HE := Lib.hid (R.unkTo_same (all := false) Hx.out Hbn.out (fun i _ => rfl))
        rw [← HE.out] at HU1
        clear i0 i1 l1 l2
        go_wp2
        go_roundg (gk - 1)
        case measure => have := Hgk.out; omega
        case rel => have := Hgk.out; exact ⟨j + 1, by omega, by go_num, by omega, Hbw.out, HU1, HZ1, HN1⟩
      have Hab := Lib.hid (show (all || bn) = true from by rcases hab with rfl | ⟨rfl, rfl⟩ <;> simp)
      by_cases o33 : op = 33
      · have hv4 := l1 o33
        obtain ⟨v, rfl⟩ : ∃ v : Nat, imm = v := ⟨imm.toNat, by omega⟩
        have hv : v < 4 := by omega
        have HE := Lib.hid (R.unkTo_set Hx.out Hbn.out Hab.out (v := v) (by omega) (R.lab_var (x := ⟨op, w, fl, args, (v : Int)⟩) o33 rfl hv))
        subst o33
        obtain ⟨z, hz⟩ : ∃ z, (R.unkTo all p j)[v]? = some z := ⟨_, List.getElem?_eq_getElem (by rw [R.unkTo_len]; omega)⟩
        have hcz : (wr.alloc (.cells #[.int .i64 33, .int .i64 w, .int .i64 fl, .slice A args.length c, .int .u32 (v : Int)] 62)).cell? ⟨W.heap.size + 1, v, none⟩ = some (.bool z) := by
          rw [cell_of_row _ _ _ _ _ (0, 0) HU1.out, List.getElem?_toArray, List.getElem?_map, hz]; rfl
        have hfz := frozen_row HU1.out v
        have HU2 := Lib.hid (show ((wr.setCell ⟨W.heap.size + 1, v, none⟩ (.bool true)).alloc (.cells #[.int .i64 33, .int .i64 w, .int .i64 fl, .slice A args.length c, .int .u32 (v : Int)] 62)).heap[W.heap.size + 1]? = some (.cells ((R.unkTo all p (j + 1)).map Value.bool).toArray 180 (0, 0)) from by
          refine row_alloc ?_ _
          rw [heap_setCell_same _ _ _ _ _ _ HU.out, HE.out]
          simp [List.map_set])
        have HZ2 := Lib.hid (show ((wr.setCell ⟨W.heap.size + 1, v, none⟩ (.bool true)).alloc (.cells #[.int .i64 33, .int .i64 w, .int .i64 fl, .slice A args.length c, .int .u32 (v : Int)] 62)).heap[W.heap.size]? = some (.cells #[.bool false, .bool false, .bool false, .bool false, .bool false, .bool false] 180 (0, 0)) from row_alloc ((heap_setCell_other _ _ _ _ (by simp)).trans HZ.out) _)
        have HN2 := Lib.hid (show ((wr.setCell ⟨W.heap.size + 1, v, none⟩ (.bool true)).alloc (.cells #[.int .i64 33, .int .i64 w, .int .i64 fl, .slice A args.length c, .int .u32 (v : Int)] 62)).heap[gn]? = some (.cells ((R.need p).map Value.bool).toArray 4 (0, 0)) from row_alloc ((heap_setCell_other _ _ _ _ (by simp; omega)).trans HNe.out) _)
        have Hb2 := Lib.hid (show Below W.heap.size W ((wr.setCell ⟨W.heap.size + 1, v, none⟩ (.bool true)).alloc (.cells #[.int .i64 33, .int .i64 w, .int .i64 fl, .slice A args.length c, .int .u32 (v : Int)] 62)) from (HbwR.out.setCell (p := ⟨W.heap.size + 1, v, none⟩) (by simp) _).alloc (by simp; exact HbwR.out.size) _)
        clear hz l1 l2 hv4 i0 i1
        rcases hab with rfl | ⟨rfl, rfl⟩
        · clear hcn
          go_wp2
          go_roundg (gk - 1)
          case measure => have := Hgk.out; omega
          case rel => have := Hgk.out; exact ⟨j + 1, by omega, by go_num, by omega, Hb2.out, HU2, HZ2, HN2⟩
        · go_wp2
          go_roundg (gk - 1)
          case measure => have := Hgk.out; omega
          case rel => have := Hgk.out; exact ⟨j + 1, by omega, by go_num, by omega, Hb2.out, HU2, HZ2, HN2⟩
      have q33 : (op == 33) = false := by simpa using o33
      by_cases o34 : op = 34
      · have hv4 := l2 o34
        obtain ⟨v, rfl⟩ : ∃ v : Nat, imm = v := ⟨imm.toNat, by omega⟩
        have hv : v < 2 := by omega
        have HE := Lib.hid (R.unkTo_set Hx.out Hbn.out Hab.out (v := 4 + v) (by omega) (R.lab_hole (x := ⟨op, w, fl, args, (v : Int)⟩) o34 rfl hv))
        subst o34
        obtain ⟨z, hz⟩ : ∃ z, (R.unkTo all p j)[4 + v]? = some z := ⟨_, List.getElem?_eq_getElem (by rw [R.unkTo_len]; omega)⟩
        have hcz : (wr.alloc (.cells #[.int .i64 34, .int .i64 w, .int .i64 fl, .slice A args.length c, .int .u32 (v : Int)] 62)).cell? ⟨W.heap.size + 1, 4 + v, none⟩ = some (.bool z) := by
          rw [cell_of_row _ _ _ _ _ (0, 0) HU1.out, List.getElem?_toArray, List.getElem?_map, hz]; rfl
        have hfz := frozen_row HU1.out (4 + v)
        have HU2 := Lib.hid (show ((wr.setCell ⟨W.heap.size + 1, 4 + v, none⟩ (.bool true)).alloc (.cells #[.int .i64 34, .int .i64 w, .int .i64 fl, .slice A args.length c, .int .u32 (v : Int)] 62)).heap[W.heap.size + 1]? = some (.cells ((R.unkTo all p (j + 1)).map Value.bool).toArray 180 (0, 0)) from by
          refine row_alloc ?_ _
          rw [heap_setCell_same _ _ _ _ _ _ HU.out, HE.out]
          simp [List.map_set])
        have HZ2 := Lib.hid (show ((wr.setCell ⟨W.heap.size + 1, 4 + v, none⟩ (.bool true)).alloc (.cells #[.int .i64 34, .int .i64 w, .int .i64 fl, .slice A args.length c, .int .u32 (v : Int)] 62)).heap[W.heap.size]? = some (.cells #[.bool false, .bool false, .bool false, .bool false, .bool false, .bool false] 180 (0, 0)) from row_alloc ((heap_setCell_other _ _ _ _ (by simp)).trans HZ.out) _)
        have HN2 := Lib.hid (show ((wr.setCell ⟨W.heap.size + 1, 4 + v, none⟩ (.bool true)).alloc (.cells #[.int .i64 34, .int .i64 w, .int .i64 fl, .slice A args.length c, .int .u32 (v : Int)] 62)).heap[gn]? = some (.cells ((R.need p).map Value.bool).toArray 4 (0, 0)) from row_alloc ((heap_setCell_other _ _ _ _ (by simp; omega)).trans HNe.out) _)
        have Hb2 := Lib.hid (show Below W.heap.size W ((wr.setCell ⟨W.heap.size + 1, 4 + v, none⟩ (.bool true)).alloc (.cells #[.int .i64 34, .int .i64 w, .int .i64 fl, .slice A args.length c, .int .u32 (v : Int)] 62)) from (HbwR.out.setCell (p := ⟨W.heap.size + 1, 4 + v, none⟩) (by simp) _).alloc (by simp; exact HbwR.out.size) _)
        clear hz l1 l2 hv4 i0 i1 q33
        rcases hab with rfl | ⟨rfl, rfl⟩
        · clear hcn
          go_wp2
          go_roundg (gk - 1)
          case measure => have := Hgk.out; omega
          case rel => have := Hgk.out; exact ⟨j + 1, by omega, by go_num, by omega, Hb2.out, HU2, HZ2, HN2⟩
        · go_wp2
          go_roundg (gk - 1)
          case measure => have := Hgk.out; omega
          case rel => have := Hgk.out; exact ⟨j + 1, by omega, by go_num, by omega, Hb2.out, HU2, HZ2, HN2⟩
      have q34 : (op == 34) = false := by simpa using o34
      have HE := Lib.hid (R.unkTo_same (all := all) Hx.out Hbn.out (fun i _ => by rw [R.lab_other (x := ⟨op, w, fl, args, imm⟩) o33 o34, Bool.and_false]))
      rw [← HE.out] at HU1
      clear i0 i1 l1 l2 o33 o34
      rcases hab with rfl | ⟨rfl, rfl⟩
      · clear hcn
        go_wp2
        go_roundg (gk - 1)
        case measure => have := Hgk.out; omega
        case rel => have := Hgk.out; exact ⟨j + 1, by omega, by go_num, by omega, Hbw.out, HU1, HZ1, HN1⟩
      · go_wp2
        go_roundg (gk - 1)
        case measure => have := Hgk.out; omega
        case rel => have := Hgk.out; exact ⟨j + 1, by omega, by go_num, by omega, Hbw.out, HU1, HZ1, HN1⟩
    · obtain rfl : j = n := by omega
      have e : R.unkTo all p j = R.unk all p := by unfold R.unk; rw [Hlen.out]
      rw [e] at HU
      have hul : (R.unk all p).length = 6 := R.unkTo_len _ _ _
      obtain ⟨b0, b1, b2, b3, b4, b5, hu⟩ : ∃ b0 b1 b2 b3 b4 b5, R.unk all p = [b0, b1, b2, b3, b4, b5] := by
        revert hul
        generalize R.unk all p = u
        intro hul
        match u, hul with
        | [b0, b1, b2, b3, b4, b5], _ => exact ⟨_, _, _, _, _, _, rfl⟩
      rw [hu] at HU
      have Hu := Lib.hid hu
      clear hu
      have c0 : wr.cell? ⟨W.heap.size + 1, 0, none⟩ = some (.bool b0) := by rw [cell_of_row _ _ _ _ _ (0, 0) HU.out]; rfl
      have c1 : wr.cell? ⟨W.heap.size + 1, 1, none⟩ = some (.bool b1) := by rw [cell_of_row _ _ _ _ _ (0, 0) HU.out]; rfl
      have c2 : wr.cell? ⟨W.heap.size + 1, 2, none⟩ = some (.bool b2) := by rw [cell_of_row _ _ _ _ _ (0, 0) HU.out]; rfl
      have c3 : wr.cell? ⟨W.heap.size + 1, 3, none⟩ = some (.bool b3) := by rw [cell_of_row _ _ _ _ _ (0, 0) HU.out]; rfl
      have c4 : wr.cell? ⟨W.heap.size + 1, 4, none⟩ = some (.bool b4) := by rw [cell_of_row _ _ _ _ _ (0, 0) HU.out]; rfl
      have c5 : wr.cell? ⟨W.heap.size + 1, 5, none⟩ = some (.bool b5) := by rw [cell_of_row _ _ _ _ _ (0, 0) HU.out]; rfl
      have z0 : wr.cell? ⟨W.heap.size, 0, none⟩ = some (.bool false) := by rw [cell_of_row _ _ _ _ _ (0, 0) HZ.out]; rfl
      have f0 := frozen_row HZ.out 0
      have z1 : wr.cell? ⟨W.heap.size, 1, none⟩ = some (.bool false) := by rw [cell_of_row _ _ _ _ _ (0, 0) HZ.out]; rfl
      have f1 := frozen_row HZ.out 1
      have z2 : wr.cell? ⟨W.heap.size, 2, none⟩ = some (.bool false) := by rw [cell_of_row _ _ _ _ _ (0, 0) HZ.out]; rfl
      have f2 := frozen_row HZ.out 2
      have z3 : wr.cell? ⟨W.heap.size, 3, none⟩ = some (.bool false) := by rw [cell_of_row _ _ _ _ _ (0, 0) HZ.out]; rfl
      have f3 := frozen_row HZ.out 3
      have z4 : wr.cell? ⟨W.heap.size, 4, none⟩ = some (.bool false) := by rw [cell_of_row _ _ _ _ _ (0, 0) HZ.out]; rfl
      have f4 := frozen_row HZ.out 4
      have z5 : wr.cell? ⟨W.heap.size, 5, none⟩ = some (.bool false) := by rw [cell_of_row _ _ _ _ _ (0, 0) HZ.out]; rfl
      have f5 := frozen_row HZ.out 5
      have HR := Lib.hid (show ((((((wr.setCell ⟨W.heap.size, 0, none⟩ (.bool b0)).setCell ⟨W.heap.size, 1, none⟩ (.bool b1)).setCell ⟨W.heap.size, 2, none⟩ (.bool b2)).setCell ⟨W.heap.size, 3, none⟩ (.bool b3)).setCell ⟨W.heap.size, 4, none⟩ (.bool b4)).setCell ⟨W.heap.size, 5, none⟩ (.bool b5)).heap[W.heap.size]? = some (.cells #[.bool b0, .bool b1, .bool b2, .bool b3, .bool b4, .bool b5] 180 (0, 0)) from by
        rw [heap_setCell_same _ _ _ _ _ _ (heap_setCell_same _ _ _ _ _ _ (heap_setCell_same _ _ _ _ _ _ (heap_setCell_same _ _ _ _ _ _ (heap_setCell_same _ _ _ _ _ _ (heap_setCell_same _ _ _ _ _ _ HZ.out)))))]
        rfl)
      have HbR := Lib.hid (show Below W.heap.size W ((((((wr.setCell ⟨W.heap.size, 0, none⟩ (.bool b0)).setCell ⟨W.heap.size, 1, none⟩ (.bool b1)).setCell ⟨W.heap.size, 2, none⟩ (.bool b2)).setCell ⟨W.heap.size, 3, none⟩ (.bool b3)).setCell ⟨W.heap.size, 4, none⟩ (.bool b4)).setCell ⟨W.heap.size, 5, none⟩ (.bool b5)) from ((((((hbw.setCell (p := ⟨W.heap.size, 0, none⟩) (Nat.le_refl _) _).setCell (p := ⟨W.heap.size, 1, none⟩) (Nat.le_refl _) _).setCell (p := ⟨W.heap.size, 2, none⟩) (Nat.le_refl _) _).setCell (p := ⟨W.heap.size, 3, none⟩) (Nat.le_refl _) _).setCell (p := ⟨W.heap.size, 4, none⟩) (Nat.le_refl _) _).setCell (p := ⟨W.heap.size, 5, none⟩) (Nat.le_refl _) _))
      clear hbw e hul
      go_wp2
      refine bodyPost_ret (results_cell_row rfl _ _ W.heap.size _ _ (0, 0) _ rfl HR.out Tryz.underlying180 rfl (by kernel_rfl)) rfl ?_
      exact ⟨by rw [Hu.out]; rfl, HbR.out⟩
end Go.Proofs.YtbiopedpceddeaaGreatDoor
end
section
namespace Go.Proofs.YtbiopedpceddeaaGreatDoor
set_option linter.unusedVariables false
set_option linter.unusedSimpArgs false
namespace R
theorem unk_left {p : List T.Nd} {i : Nat} (hi : i < 6) : (unk false p).getD i false = if i < 4 then occ p 33 i else occ p 34 ((i : Int) - 4) := by
  unfold unk unkTo occ
  rw [List.getD_eq_getElem?_getD, List.getElem?_map, List.getElem?_range hi]
  have e : (p.zip (need p)).take p.length = p.zip (need p) := List.take_of_length_le (by rw [List.length_zip]; omega)
  rw [e]
  simp only [Option.map_some, Option.getD_some, Bool.false_or]
  by_cases h : i < 4
  · rw [if_pos h]
    congr 1
    funext q
    unfold lab
    rw [if_pos h, Bool.and_assoc]
  · rw [if_neg h]
    congr 1
    funext q
    unfold lab
    rw [if_neg h, Bool.and_assoc]
theorem unk_right {p : List T.Nd} {i : Nat} (hi : i < 6) : (unk true p).getD i false = p.any (lab i) := by
  unfold unk unkTo
  rw [List.getD_eq_getElem?_getD, List.getElem?_map, List.getElem?_range hi]
  have e : (p.zip (need p)).take p.length = p.zip (need p) := List.take_of_length_le (by rw [List.length_zip]; omega)
  rw [e]
  simp only [Option.map_some, Option.getD_some, Bool.true_or, Bool.true_and]
  have h : ∀ (l : List T.Nd) (b : List Bool), l.length ≤ b.length → ((l.zip b).any fun q => lab i q.1) = l.any (lab i) := by
    intro l
    induction l with
    | nil => intro b _; rfl
    | cons x l ih =>
      intro b hb
      cases b with
      | nil => simp at hb
      | cons c b => rw [List.zip_cons_cons, List.any_cons, List.any_cons, ih b (by simpa using hb)]
  exact h _ _ (by rw [need_len]; exact Nat.le_refl _)
/-- what stands on the right stands on the left -/
def within (r : Rl) : Bool := (List.range 6).all fun i => !(unk true r.right).getD i false || (unk false r.left).getD i false
theorem within_iff {r : Rl} (h : ∀ x ∈ r.right, (x.op = 33 ∨ x.op = 34) → 0 ≤ x.imm ∧ x.imm < 2) : (r.right.all fun x => (!decide (x.op = 33 ∨ x.op = 34)) || occ r.left x.op x.imm) = within r := by
  rw [Bool.eq_iff_iff]
  unfold within
  rw [List.all_eq_true, List.all_eq_true]
  constructor
  · intro hh i hi
    have hi6 : i < 6 := by simpa using hi
    rw [unk_right hi6, unk_left hi6]
    cases ha : r.right.any (lab i)
    · rfl
    obtain ⟨x, hx, hl⟩ := List.any_eq_true.1 ha
    have := hh x hx
    unfold lab at hl
    by_cases h4 : i < 4
    · rw [if_pos h4] at hl ⊢
      simp only [Bool.and_eq_true, decide_eq_true_eq] at hl
      obtain ⟨o, m⟩ := hl
      rw [← m, ← o]
      simpa [o] using this
    · rw [if_neg h4] at hl ⊢
      simp only [Bool.and_eq_true, decide_eq_true_eq] at hl
      obtain ⟨o, m⟩ := hl
      rw [← m, ← o]
      simpa [o] using this
  · intro hh x hx
    by_cases ho : x.op = 33 ∨ x.op = 34
    · obtain ⟨h0, h2⟩ := h x hx ho
      obtain ⟨v, hv⟩ : ∃ v : Nat, x.imm = v := ⟨x.imm.toNat, by omega⟩
      rcases ho with ho | ho
      · have := hh v (by simp; omega)
        rw [unk_right (by omega), unk_left (by omega), if_pos (by omega)] at this
        have ha : r.right.any (lab v) = true := List.any_eq_true.2 ⟨x, hx, by unfold lab; rw [if_pos (by omega)]; simp [ho, hv]⟩
        rw [ha] at this
        rw [ho, hv]
        simpa using this
      · have := hh (4 + v) (by simp; omega)
        have e : ((4 + v : Nat) : Int) - 4 = (v : Int) := by omega
        rw [unk_right (by omega), unk_left (by omega), if_neg (by omega), e] at this
        have ha : r.right.any (lab (4 + v)) = true := List.any_eq_true.2 ⟨x, hx, by unfold lab; rw [if_neg (by omega), e]; simp [ho, hv]⟩
        rw [ha] at this
        rw [ho, hv]
        simpa using this
    · simp [ho]
theorem pnode_imm {p : List T.Nd} {right : Bool} {k : Nat} {x : T.Nd} (h : pnode p right k x = true) (ho : x.op = 33 ∨ x.op = 34) : x.imm < 2 := by
  unfold pnode at h
  simp only [Bool.and_eq_true] at h
  have := h.2
  unfold pimmOk at this
  rw [if_neg (by omega), if_pos ho] at this
  simp only [Bool.and_eq_true, decide_eq_true_eq] at this
  exact this.2
theorem pnode_args {p : List T.Nd} {right : Bool} {k : Nat} {x : T.Nd} (h : pnode p right k x = true) : ∀ a ∈ x.args, 0 ≤ a ∧ a < (k : Int) := by
  unfold pnode at h
  simp only [Bool.and_eq_true] at h
  have := h.1.2
  unfold T.argsOk at this
  intro a ha
  have := List.all_eq_true.1 this a ha
  simpa using this
theorem pnode_len {p : List T.Nd} {right : Bool} {k : Nat} {x : T.Nd} (h : pnode p right k x = true) : (x.args.length : Int) = par x.op ∧ 0 ≤ par x.op := by
  unfold pnode at h
  simp only [Bool.and_eq_true, decide_eq_true_eq] at h
  obtain ⟨⟨⟨⟨⟨⟨h1, h2⟩, h3⟩, h4⟩, h5⟩, h6⟩, h7⟩ := h
  exact ⟨h2, h1⟩
theorem pnode_ar {p : List T.Nd} {right : Bool} {k : Nat} {x : T.Nd} (h : pnode p right k x = true) (h1 : 1 ≤ x.op) (h2 : x.op ≤ 18) : (x.args.length : Int) = T.ar x.op := by
  obtain ⟨e1, e2⟩ := pnode_len h
  by_cases hr : 16 ≤ x.op ∧ x.op ≤ 18
  · rw [par_none hr] at e2; omega
  · rw [e1, par_rar hr]
    unfold rar
    rw [if_neg (by omega), if_neg (by omega)]
end R
end Go.Proofs.YtbiopedpceddeaaGreatDoor
end
section
namespace Go.Proofs.YtbiopedpceddeaaGreatDoor
set_option linter.unusedVariables false
set_option linter.unusedSimpArgs false
namespace R
open T (Nd F)

/-- a valid rule -/
structure ROk (r : Rl) : Prop where
  lpos : 1 ≤ r.left.length
  llen : r.left.length ≤ 12
  rpos : 1 ≤ r.right.length
  rlen : r.right.length ≤ 12
  plen : r.pre.length ≤ 4
  lp : ∀ k x, r.left[k]? = some x → pnode r.left false k x = true
  rp : ∀ k x, r.right[k]? = some x → pnode r.right true k x = true
  cd : r.pre.all cdOk = true
  lt : ∀ x ∈ r.left, T.typed r.left x = true
  rt : ∀ x ∈ r.right, T.typed r.right x = true
  root : rootW r.left ≤ 1
  same : rootW r.right = rootW r.left
  occ : ∀ x ∈ r.right, (x.op = 33 ∨ x.op = 34) → occ r.left x.op x.imm = true
  cocc : ∀ c ∈ r.pre, R.occ r.left 34 c.hole = true

theorem all_zip {p : List Nd} {f : Nat → Nd → Bool} : (p.zipIdx.all fun q => f q.2 q.1) = true ↔ ∀ k x, p[k]? = some x → f k x = true := by
  rw [List.all_eq_true]
  constructor
  · intro h i x hx
    exact h (x, i) (List.mem_zipIdx_iff_getElem?.2 hx)
  · rintro h ⟨x, i⟩ hp
    exact h i x (List.mem_zipIdx_iff_getElem?.1 hp)

theorem rok_of {r : Rl} (h : rvalid r = 0) : ROk r := by
  unfold rvalid at h
  split at h
  · cases h
  rename_i h1
  split at h
  · cases h
  rename_i h2
  split at h
  · cases h
  rename_i h3
  split at h
  · cases h
  rename_i h4
  split at h
  · cases h
  rename_i h5
  simp only [Bool.not_eq_false, Bool.and_eq_true, decide_eq_true_eq] at h2 h3 h4 h5
  refine ⟨by omega, by omega, by omega, by omega, by omega, all_zip.1 h2.1, all_zip.1 h2.2, h3, fun x hx => List.all_eq_true.1 h4.1.1.1 x hx, fun x hx => List.all_eq_true.1 h4.1.1.2 x hx, h4.1.2, h4.2, fun x hx ho => ?_, fun c hc => List.all_eq_true.1 h5.2 c hc⟩
  have := List.all_eq_true.1 h5.1 x hx
  simp only [ho, decide_true, Bool.not_true, Bool.false_or] at this
  exact this

theorem ar_bd {op : Int} (h : 0 ≤ T.ar op) : 0 ≤ op ∧ op ≤ 33 ∧ T.ar op ≤ 3 := by
  unfold T.ar at h ⊢
  repeat' split at h
  all_goals first | omega | skip
  all_goals simp_all
  all_goals omega

theorem flOk_bd {op fl : Int} (h : flOk op fl = true) : 0 ≤ fl ∧ fl ≤ 4 := by
  unfold flOk at h
  split at h
  · simp at h; omega
  · split at h
    · simp at h; omega
    · simp at h; omega

section
end

theorem pnode_ord {p : List Nd} {right : Bool} (h : ∀ k x, p[k]? = some x → pnode p right k x = true) : T.Ord p := fun k x hx => pnode_args (h k x hx)
theorem pnode_flags {p : List Nd} {right : Bool} {k : Nat} {x : Nd} (h : pnode p right k x = true) : flOk x.op x.fl = true := by
  unfold pnode at h
  simp only [Bool.and_eq_true, decide_eq_true_eq] at h
  exact h.1.1.2

end R
end Go.Proofs.YtbiopedpceddeaaGreatDoor
end
section
namespace Go.Proofs.YtbiopedpceddeaaGreatDoor
set_option linter.unusedVariables false
set_option linter.unusedSimpArgs false
namespace T
/-- a tree of a list -/
def InT (t : List Nd) (g : F) : Prop := ∃ k : Int, Rep t [k] g

theorem Rep.inj {out : List Nd} (hn : out.Nodup) {la : List Int} {f : F} (r : Rep out la f) : ∀ {lb : List Int}, Rep out lb f → la = lb := by
  induction r with
  | nil => intro lb s; cases s; rfl
  | @cons a la x kids rest h0 hx _ _ ih1 ih2 =>
    intro lb s
    generalize hg : F.cons x.op x.w x.fl x.imm kids rest = g at s
    cases s with
    | nil => cases hg
    | @cons b lb y kids' rest' h0' hx' hk' hr' =>
      injection hg with e1 e2 e3 e4 e5 e6
      subst e5
      subst e6
      have e := ih1 hk'
      have e' := ih2 hr'
      have exy : x = y := by
        obtain ⟨xo, xw, xf, xa, xi⟩ := x
        obtain ⟨yo, yw, yf, ya, yi⟩ := y
        dsimp only at *
        subst e1 e2 e3 e4 e
        rfl
      subst exy
      have h1 := (idx_at hn hx).2
      have h2 := (idx_at hn hx').2
      have : a = b := by omega
      rw [this, e']

/-- each tree of out is a tree of t -/
def Cov (t out : List Nd) : Prop := ∀ (i : Int) (g : F), Rep out [i] g → InT t g

theorem cov_add {t out : List Nd} {y : Nd} {kids : F} (hc : Cov t out) (ho : Ord out) (hy : ∀ a ∈ y.args, 0 ≤ a ∧ a < (out.length : Int)) (hk : Rep out y.args kids) (ht : InT t (.cons y.op y.w y.fl y.imm kids .nil)) : Cov t (addN out y).1 := by
  unfold addN
  by_cases hm : y ∈ out
  · rw [if_pos hm]; exact hc
  · rw [if_neg hm]
    intro i f r
    rcases Int.lt_or_le i out.length with hi | hi
    · exact hc i f (r.cut ho hi)
    · cases r with
      | @cons _ _ x kids' rest h0 hx hk' hr =>
        cases hr
        have hi' : i.toNat = out.length := by
          have := (List.getElem?_eq_some_iff.1 hx).1
          simp at this
          omega
        rw [hi'] at hx
        simp at hx
        subst hx
        have e := (hk.mono (u := out ++ [y]) (fun k x hx => pre_at (List.prefix_append _ _) k x hx)).det hk'
        subst e
        exact ht

theorem cnn_cov {t : List Nd} {la : List Int} {f : F} (r : Rep t la f) : ∀ {out : List Nd}, out.Nodup → Ord out → Cov t out → Cov t (cnn f out).1 := by
  induction r with
  | nil => intro out _ _ hc; exact hc
  | @cons a la x kids rest h0 hx hk _ ih1 ih2 =>
    intro out hn ho hc
    have t1 := cnn_told kids hn ho
    have c1 := ih1 hn ho hc
    simp only [cnn]
    have s2 := addN_spec (y := ⟨x.op, x.w, x.fl, (cnn kids out).2, x.imm⟩) t1.nd
    have o2 := addN_ord (y := ⟨x.op, x.w, x.fl, (cnn kids out).2, x.imm⟩) t1.ord t1.lo
    exact ih2 s2.2.1 o2 (cov_add c1 t1.ord t1.lo t1.rep ⟨a, Rep.cons (x := x) h0 hx hk .nil⟩)

theorem nodup_le : ∀ (n : Nat) (l : List Nat), l.Nodup → (∀ a ∈ l, a < n) → l.length ≤ n := by
  intro n
  induction n with
  | zero =>
    intro l _ h
    cases l with
    | nil => simp
    | cons a l => have := h a (by simp); omega
  | succ n ih =>
    intro l hd h
    by_cases hm : n ∈ l
    · have h1 := List.length_erase_of_mem hm
      have h2 := ih (l.erase n) (hd.erase _) (fun a ha => by
        have ha' := List.mem_of_mem_erase ha
        have := h a ha'
        have hne : a ≠ n := fun e => by
          rw [List.Nodup.mem_erase_iff hd] at ha
          exact ha.1 e
        omega)
      omega
    · have := ih l hd (fun a ha => by
        have := h a ha
        have hne : a ≠ n := fun e => hm (e ▸ ha)
        omega)
      omega

theorem cov_len {t out : List Nd} (hn : out.Nodup) (ho : Ord out) (hc : Cov t out) : out.length ≤ t.length := by
  have h : ∀ i : Nat, ∃ k : Nat, i < out.length → (k < t.length ∧ ∀ g, Rep out [(i : Int)] g → Rep t [(k : Int)] g) := fun i => by
    by_cases hi : i < out.length
    · obtain ⟨g, hg⟩ := Rep.one ho hi
      obtain ⟨k, hk⟩ := hc i g hg
      have hk0 : 0 ≤ k ∧ k.toNat < t.length := by
        cases hk with
        | cons h0 hx _ _ => exact ⟨h0, (List.getElem?_eq_some_iff.1 hx).1⟩
      exact ⟨k.toNat, fun _ => ⟨hk0.2, fun g' hg' => by rw [hg'.det hg, Int.toNat_of_nonneg hk0.1]; exact hk⟩⟩
    · exact ⟨0, fun h => absurd h hi⟩
  obtain ⟨c, hcf⟩ := Classical.axiomOfChoice h
  have hnd : ((List.range out.length).map c).Nodup := by
    unfold List.Nodup
    rw [List.pairwise_map]
    refine List.Pairwise.imp_of_mem ?_ (List.nodup_range (n := out.length))
    intro i j hi hj hij e
    have hi := List.mem_range.1 hi
    have hj := List.mem_range.1 hj
    obtain ⟨g, hg⟩ := Rep.one ho hi
    obtain ⟨g', hg'⟩ := Rep.one ho hj
    have r1 := (hcf i hi).2 g hg
    have r2 := (hcf j hj).2 g' hg'
    rw [e] at r1
    have := r1.det r2
    subst this
    have := hg.inj hn hg'
    simp at this
    omega
  have := nodup_le t.length _ hnd (fun a ha => by
    obtain ⟨i, hi, rfl⟩ := List.mem_map.1 ha
    exact (hcf i (List.mem_range.1 hi)).1)
  simpa using this

theorem cov_nil (t : List Nd) : Cov t [] := fun i g r => by cases r with | cons h0 hx _ _ => simp at hx

end T

namespace R
open T (Nd F)
end R
end Go.Proofs.YtbiopedpceddeaaGreatDoor
end
