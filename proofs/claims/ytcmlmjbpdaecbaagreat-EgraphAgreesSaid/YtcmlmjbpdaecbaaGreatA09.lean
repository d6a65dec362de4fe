/- Merged: QPlainT2, QT5, QT6, QG1, QG2. -/
import Derived.Test.YtcmlmjbpdaecbaaGreatA02
import Derived.Test.YtcmlmjbpdaecbaaGreatA08
import Derived.Test.YtcmlmjbpdaecbaaGreatA04
import Derived.Test.YtcmlmjbpdaecbaaGreatA06
import Derived.Test.YtcmlmjbpdaecbaaGreatA07
import Derived.DeepKeys4
import Derived.Deep.DeepCutAuto
set_option linter.unusedVariables false
set_option linter.unusedSimpArgs false
section
namespace Go.Proofs.YtcmlmjbpdaecbaaGreat.T
set_option linter.unusedVariables false
set_option linter.unusedSimpArgs false
/-- what is asked of the nodes where their variables are gone through -/
def okVars (t : List Nd) : Prop := ∀ y ∈ t, 0 ≤ y.imm ∧ (y.op = 33 → y.imm < 4 ∧ 1 ≤ y.w)
theorem okVars.take {t : List Nd} (h : okVars t) (j : Nat) : okVars (t.take j) := fun y hy => h y (List.mem_of_mem_take hy)
theorem widths_mem {t : List Nd} {v : Nat} {z : Int} : (widths t)[v]? = some z → z ≠ 0 → ∃ (i : Nat) (y : Nd), t[i]? = some y ∧ y.op = 33 ∧ y.imm.toNat = v ∧ y.w = z := by
  refine snocInd (P := fun t => (widths t)[v]? = some z → z ≠ 0 → ∃ (i : Nat) (y : Nd), t[i]? = some y ∧ y.op = 33 ∧ y.imm.toNat = v ∧ y.w = z) (fun h hz => ?_) (fun t x ih h hz => ?_) t
  · exfalso
    have hv : v < 4 := (List.getElem?_eq_some_iff.1 h).1
    have : v = 0 ∨ v = 1 ∨ v = 2 ∨ v = 3 := by omega
    rcases this with rfl | rfl | rfl | rfl <;> exact hz (Option.some.inj h).symm
  · have go : (widths t)[v]? = some z → ∃ (i : Nat) (y : Nd), (t ++ [x])[i]? = some y ∧ y.op = 33 ∧ y.imm.toNat = v ∧ y.w = z := fun h' => by
      obtain ⟨i, y, h1, h2⟩ := ih h' hz
      exact ⟨i, y, by rw [List.getElem?_append_left (List.getElem?_eq_some_iff.1 h1).1]; exact h1, h2⟩
    rw [widths_snoc] at h
    split at h
    · rename_i hx
      by_cases he : x.imm.toNat = v
      · have hl := widths_len t
        have hv : v < 4 := by have := (List.getElem?_eq_some_iff.1 h).1; rw [List.length_set] at this; omega
        rw [he, List.getElem?_set_self (by omega)] at h
        exact ⟨t.length, x, by simp, hx, he, Option.some.inj h⟩
      · rw [List.getElem?_set_ne he] at h; exact go h
    · exact go h
theorem clash_other {t : List Nd} {x : Nd} (h : clashes t = false) (hx : x.op ≠ 33) : clashes (t ++ [x]) = false := by
  rw [clashes_iff] at h ⊢
  intro i j a b hij ha hb
  by_cases hj : j < t.length
  · rw [List.getElem?_append_left hj] at hb
    rw [List.getElem?_append_left (by omega)] at ha
    exact h i j a b hij ha hb
  · have : j = t.length := by have := (List.getElem?_eq_some_iff.1 hb).1; simp at this; omega
    subst this
    simp at hb
    subst hb
    unfold clash
    simp [hx]
theorem clash_good {t : List Nd} {x : Nd} (h : clashes t = false) (ht : okVars t) (hx : x.op = 33) (h0 : 0 ≤ x.imm) {v : Int} (hv : (widths t)[x.imm.toNat]? = some v) (hg : v = 0 ∨ v = x.w) : clashes (t ++ [x]) = false := by
  have h' := h
  rw [clashes_iff] at h ⊢
  intro i j a b hij ha hb
  by_cases hj : j < t.length
  · rw [List.getElem?_append_left hj] at hb
    rw [List.getElem?_append_left (by omega)] at ha
    exact h i j a b hij ha hb
  · have : j = t.length := by have := (List.getElem?_eq_some_iff.1 hb).1; simp at this; omega
    subst this
    simp at hb
    subst hb
    rw [List.getElem?_append_left hij] at ha
    unfold clash
    by_cases ho : a.op = 33
    · by_cases he : a.imm = x.imm
      · have hm := ht a (List.mem_of_getElem? ha)
        have := widths_at h' (fun y hy => (ht y hy).1) ha ho (hm.2 ho).1
        rw [he, hv] at this
        have hw := Option.some.inj this
        have := (hm.2 ho).2
        have : a.w = x.w := by omega
        simp [this]
      · simp [he]
    · simp [ho]
theorem clash_bad {t : List Nd} {x : Nd} (ht : okVars t) (hx : x.op = 33) (h0 : 0 ≤ x.imm) {v : Int} (hv : (widths t)[x.imm.toNat]? = some v) (h1 : v ≠ 0) (h2 : v ≠ x.w) : clashes (t ++ [x]) = true := by
  cases e : clashes (t ++ [x])
  · exfalso
    obtain ⟨i, y, hy, ho, hi, hw⟩ := widths_mem hv h1
    have hlt := (List.getElem?_eq_some_iff.1 hy).1
    have := clashes_iff.1 e i t.length y x hlt (by rw [List.getElem?_append_left hlt]; exact hy) (by simp)
    have hy0 := (ht y (List.mem_of_getElem? hy)).1
    have he : y.imm = x.imm := by omega
    unfold clash at this
    simp [ho, hx, he, hw] at this
    exact h2 this
  · rfl
theorem clashes_take {t : List Nd} {j : Nat} (h : clashes (t.take j) = true) : clashes t = true := by
  cases e : clashes t
  · exfalso
    have : clashes (t.take j) = false := clashes_iff.2 fun i k a b hik ha hb => by
      rw [List.getElem?_take] at ha hb
      split at ha
      · split at hb
        · exact clashes_iff.1 e i k a b hik ha hb
        · cases hb
      · cases ha
    rw [h] at this
    cases this
  · rfl
/-- the nodes of a term of right shapes -/
theorem okVars_of {z : Bool} {t : List Nd} (h : ∀ i x, t[i]? = some x → shaped z i x = true) (h0 : ∀ y ∈ t, 0 ≤ y.imm) : okVars t := fun y hy => by
  refine ⟨h0 y hy, fun ho => ?_⟩
  obtain ⟨i, hi⟩ := List.mem_iff_getElem?.1 hy
  obtain ⟨_, _, h3, _, h5, _⟩ := shaped_args (h i y hi)
  unfold immOk at h5
  rw [if_neg (by omega), if_pos ho] at h5
  exact ⟨by simpa using h5, h3⟩
end Go.Proofs.YtcmlmjbpdaecbaaGreat.T
end
section
namespace Go.Proofs.YtcmlmjbpdaecbaaGreat
open Go.RowKit
set_option linter.unusedVariables false
set_option linter.unusedSimpArgs false

/-- what widths gives back -/
def WdR (t : List T.Nd) (W : World) (e : Ending) (w' : World) : Prop := Below W.heap.size W w' ∧
  ((T.clashes t = true ∧ e = .returned (.tuple #[.slice none 0 0, .bool false])) ∨
   (T.clashes t = false ∧ ∃ g, e = .returned (.tuple #[.slice (some ⟨g, 0, none⟩) 4 4, .bool true]) ∧ W.heap.size ≤ g ∧ w'.heap[g]? = some (.cells ((T.widths t).map (Value.int .i64)).toArray 3 (0, 0))))

theorem wd_four (t : List T.Nd) {v : Nat} (hv : v < 4) : ∃ z, (T.widths t)[v]? = some z := ⟨_, List.getElem?_eq_getElem (by rw [T.widths_len]; exact hv)⟩

set_option maxRecDepth 100000 in
set_option maxHeartbeats 2000000 in
theorem pwidths_any (t : List T.Nd) (n ct : Nat) (At : Option Addr) (W : World) (hT : StAt 5 NdR W At n t) (hok : T.okVars t) (hn : n ≤ 1000000) :
    Calls Tryz.prog 149 #[.slice At n ct] W (WdR t W) := by
  have HT := Lib.hid hT
  have Hok := Lib.hid hok
  have Hlen := Lib.hid hT.len
  clear hT hok
  have hmk := fun (W' : World) => run_make_n (P := Tryz.prog) 60 3 (.int .i64 0) 8 Tryz.underlying60 infoInt rfl .i64 .i64 4 (4 : Int) rfl (by omega) (by omega) W'
  go_enter Tryz.func149, Tryz.ntmps149
  go_wp2
  clear hmk
  go_loopg [11] (n + 1) (fun g i wr => ∃ (j : Nat), j ≤ n ∧ i = .int .i64 (j : Int) ∧ g + j = n + 1 ∧ Below W.heap.size W wr ∧ Hid (T.clashes (t.take j) = false) ∧ Hid (wr.heap[W.heap.size]? = some (.cells ((T.widths (t.take j)).map (Value.int .i64)).toArray 3 (0, 0))))
  case atStart => exact ⟨0, Nat.zero_le _, rfl, rfl, (Below.refl _ _).alloc (Nat.le_refl _) _, by show _ = _; rw [List.take_zero]; rfl, by show _ = _; rw [List.take_zero]; exact heap_alloc_new W _⟩
  case round =>
    obtain ⟨j, hj, rfl, hgk, hbw, HC, HW⟩ := hrel
    have Hgk := Lib.hid hgk; clear hgk
    by_cases hlt : j < n
    · obtain ⟨x, b, off, A, c, hx, rfl, hb, h0, h1, h2, h3, h4, hs, i0, i1⟩ := nd_cells HT.out hlt
      have k0 := (hbw.cell (p := ⟨b, off + j * 5, none⟩) hb).trans h0
      have k1 := (hbw.cell (p := ⟨b, off + j * 5 + 1, none⟩) hb).trans h1
      have k2 := (hbw.cell (p := ⟨b, off + j * 5 + 2, none⟩) hb).trans h2
      have k3 := (hbw.cell (p := ⟨b, off + j * 5 + 3, none⟩) hb).trans h3
      have k4 := (hbw.cell (p := ⟨b, off + j * 5 + 4, none⟩) hb).trans h4
      have Hx := Lib.hid hx
      have Htk := Lib.hid (show t.take (j + 1) = t.take j ++ [x] from K.take_succ_at hx)
      have Hokx := Lib.hid (Hok.out x (List.mem_of_getElem? hx))
      have hbs := hbw.size
      have hlt0 : W.heap.size < wr.heap.size := (Array.getElem?_eq_some_iff.1 HW.out).1
      obtain ⟨op, w, fl, args, imm⟩ := x
      dsimp only at k0 k1 k2 k3 k4 Hokx i0 i1
      clear h0 h1 h2 h3 h4 hs hx hb
      have Hbw := Lib.hid (hbw.alloc hbw.size (.cells #[.int .i64 op, .int .i64 w, .int .i64 fl, .slice A args.length c, .int .u32 imm] 63))
      have HW1 := Lib.hid (row_alloc HW.out (.cells #[.int .i64 op, .int .i64 w, .int .i64 fl, .slice A args.length c, .int .u32 imm] 63))
      have HbwR := Lib.hid hbw
      clear hbw
      by_cases ho : op = 33
      · have Ho := Lib.hid ho
        obtain ⟨m4, w1⟩ := Hokx.out.2 ho
        subst ho
        obtain ⟨v, rfl⟩ : ∃ v : Nat, imm = v := ⟨imm.toNat, by omega⟩
        have hv4 : v < 4 := by omega
        obtain ⟨z, hz⟩ := wd_four (t.take j) hv4
        have hcz : (wr.alloc (.cells #[.int .i64 33, .int .i64 w, .int .i64 fl, .slice A args.length c, .int .u32 (v : Int)] 63)).cell? ⟨W.heap.size, v, none⟩ = some (.int .i64 z) := by
          rw [cell_of_row _ _ _ _ _ (0, 0) HW1.out, List.getElem?_toArray, List.getElem?_map, hz]; rfl
        have Hz := Lib.hid hz
        have hfz : (wr.alloc (.cells #[.int .i64 33, .int .i64 w, .int .i64 fl, .slice A args.length c, .int .u32 (v : Int)] 63)).frozen? ⟨W.heap.size, v, none⟩ = false := by simp [World.frozen?, HW1.out]
        clear hz Ho
        by_cases hg : z = 0 ∨ z = w
        · have HC2 := Lib.hid (show T.clashes (t.take (j + 1)) = false from by
            rw [Htk.out]; exact T.clash_good HC.out (Hok.out.take j) rfl (by exact Int.natCast_nonneg v) (v := z) (by rw [Int.toNat_natCast]; exact Hz.out) hg)
          have HW2 := Lib.hid (show ((wr.setCell ⟨W.heap.size, v, none⟩ (.int .i64 w)).alloc (.cells #[.int .i64 33, .int .i64 w, .int .i64 fl, .slice A args.length c, .int .u32 (v : Int)] 63)).heap[W.heap.size]? = some (.cells ((T.widths (t.take (j + 1))).map (Value.int .i64)).toArray 3 (0, 0)) from by
            refine row_alloc ?_ _
            rw [heap_setCell_same _ _ _ _ _ _ HW.out, Htk.out, T.widths_snoc, if_pos rfl]
            simp [List.map_set])
          have Hb2 := Lib.hid (show Below W.heap.size W ((wr.setCell ⟨W.heap.size, v, none⟩ (.int .i64 w)).alloc (.cells #[.int .i64 33, .int .i64 w, .int .i64 fl, .slice A args.length c, .int .u32 (v : Int)] 63)) from (HbwR.out.setCell (p := ⟨W.heap.size, v, none⟩) (Nat.le_refl _) (.int .i64 w)).alloc (by simp; exact HbwR.out.size) _)
          rcases hg with rfl | rfl
          · have z1 : ((0 : Int) != 0) = false := rfl
            go_wp2
            go_roundg (gk - 1)
            case measure => have := Hgk.out; omega
            case rel => have := Hgk.out; exact ⟨j + 1, by omega, by go_num, by omega, Hb2.out, HC2.out, HW2.out⟩
          · have z1 : (z != 0) = true := by simp; omega
            have z2 : (z != z) = false := by simp
            go_wp2
            go_roundg (gk - 1)
            case measure => have := Hgk.out; omega
            case rel => have := Hgk.out; exact ⟨j + 1, by omega, by go_num, by omega, Hb2.out, HC2.out, HW2.out⟩
        · have z1 : (z != 0) = true := by simp; omega
          have z2 : (z != w) = true := by simp; omega
          have HC2 := Lib.hid (show T.clashes t = true from T.clashes_take (j := j + 1) (by
            rw [Htk.out]; exact T.clash_bad (Hok.out.take j) rfl (by exact Int.natCast_nonneg v) (v := z) (by rw [Int.toNat_natCast]; exact Hz.out) (fun h => hg (.inl h)) (fun h => hg (.inr h))))
          clear hg
          go_wp2
          go_ret2
          exact ⟨Hbw.out, .inl ⟨HC2.out, rfl⟩⟩
      · have q : (op != 33) = true := by simpa using ho
        have HC2 := Lib.hid (show T.clashes (t.take (j + 1)) = false from by rw [Htk.out]; exact T.clash_other HC.out ho)
        have HW2 := Lib.hid (show (wr.alloc (.cells #[.int .i64 op, .int .i64 w, .int .i64 fl, .slice A args.length c, .int .u32 imm] 63)).heap[W.heap.size]? = some (.cells ((T.widths (t.take (j + 1))).map (Value.int .i64)).toArray 3 (0, 0)) from by rw [Htk.out, T.widths_snoc, if_neg ho]; exact HW1.out)
        clear ho
        go_wp2
        go_roundg (gk - 1)
        case measure => have := Hgk.out; omega
        case rel => have := Hgk.out; exact ⟨j + 1, by omega, by go_num, by omega, Hbw.out, HC2.out, HW2.out⟩
    · obtain rfl : j = n := by omega
      have e : t.take j = t := List.take_of_length_le (by rw [Hlen.out]; exact Nat.le_refl _)
      rw [e] at HC HW
      go_wp2
      go_ret2
      exact ⟨hbw, .inr ⟨HC.out, W.heap.size, rfl, Nat.le_refl _, HW.out⟩⟩
end Go.Proofs.YtcmlmjbpdaecbaaGreat
end
section
namespace Go.Proofs.YtcmlmjbpdaecbaaGreat
open Go.RowKit
set_option linter.unusedVariables false
set_option linter.unusedSimpArgs false

theorem nd_imm {W : World} {At : Option Addr} {n : Nat} {t : List T.Nd} (h : StAt 5 NdR W At n t) : ∀ y ∈ t, 0 ≤ y.imm := fun y hy => by
  obtain ⟨i, hi⟩ := List.mem_iff_getElem?.1 hy
  have hl : i < n := by have := (List.getElem?_eq_some_iff.1 hi).1; rw [h.len] at this; exact this
  obtain ⟨x, _, _, _, _, hx, _, _, _, _, _, _, _, _, h0, _⟩ := nd_cells h hl
  rw [hi] at hx
  cases hx
  exact h0

set_option maxRecDepth 100000 in
set_option maxHeartbeats 4000000 in
theorem pValidate_any (t : List T.Nd) (n ct : Nat) (At : Option Addr) (W : World) (hT : StAt 5 NdR W At n t) :
    Calls Tryz.prog 109 #[.slice At n ct] W fun e w' => e = .returned (.int .i64 (T.valid true t)) ∧ Below W.heap.size W w' := by
  have HT := Lib.hid hT
  have hle := hT.le
  have hlen := hT.len
  have Him := Lib.hid (nd_imm hT)
  clear hT
  by_cases hsz : t.length < 1 ∨ 300 < t.length
  · have hv : T.valid true t = 3 := by unfold T.valid; rw [if_pos hsz]
    rw [hv]
    rw [hlen] at hsz
    clear hv hlen
    by_cases h0 : n < 1
    · have q0 : decide ((n : Int) < 1) = true := by simp; omega
      clear hsz
      go_enter Tryz.func109, Tryz.ntmps109
      go_wp2
      go_ret
      exact ⟨rfl, Below.refl _ _⟩
    · have q0 : decide ((n : Int) < 1) = false := by simp; omega
      have q1 : decide (300 < (n : Int)) = true := by simp; omega
      clear hsz
      go_enter Tryz.func109, Tryz.ntmps109
      go_wp2
      go_ret
      exact ⟨rfl, Below.refl _ _⟩
  · have Hv := Lib.hid (show T.valid true t = if (t.zipIdx.all fun p => T.shaped true p.2 p.1) = false then 1 else if (t.all (T.typed t)) = false then 6 else if T.clashes t = true then 7 else 0 from by unfold T.valid; rw [if_neg hsz])
    rw [hlen] at hsz
    have q0 : decide ((n : Int) < 1) = false := by simp; omega
    have q1 : decide (300 < (n : Int)) = false := by simp; omega
    have hn : n ≤ 300 := by omega
    have Hlen := Lib.hid hlen
    clear hsz hlen
    go_enter Tryz.func109, Tryz.ntmps109
    go_wp2
    try simp only [q0, q1]
    clear q0 q1
    go_loopg [19] (n + 1) (fun g i wr => ∃ (j : Nat), j ≤ n ∧ i = .int .i64 (j : Int) ∧ g + j = n + 1 ∧ Below W.heap.size W wr ∧ Hid (T.shapedTo true t j))
    case atStart => exact ⟨0, Nat.zero_le _, rfl, rfl, Below.refl _ _, fun i x hi => by omega⟩
    case round =>
      obtain ⟨j, hj, rfl, hgk, hbw, HS⟩ := hrel
      have Hgk := Lib.hid hgk; clear hgk
      by_cases hlt : j < n
      · obtain ⟨x, b, off, A, c, hx, rfl, hb, h0, h1, h2, h3, h4, hs, i0, i1⟩ := nd_cells HT.out hlt
        have k0 := (hbw.cell (p := ⟨b, off + j * 5, none⟩) hb).trans h0
        have k1 := (hbw.cell (p := ⟨b, off + j * 5 + 1, none⟩) hb).trans h1
        have k2 := (hbw.cell (p := ⟨b, off + j * 5 + 2, none⟩) hb).trans h2
        have k3 := (hbw.cell (p := ⟨b, off + j * 5 + 3, none⟩) hb).trans h3
        have k4 := (hbw.cell (p := ⟨b, off + j * 5 + 4, none⟩) hb).trans h4
        have Hx := Lib.hid hx
        have Hbw := Lib.hid (hbw.alloc hbw.size (.cells #[.int .i64 x.op, .int .i64 x.w, .int .i64 x.fl, .slice A x.args.length c, .int .u32 x.imm] 63))
        have Hc := Lib.hid (pisShaped_any j x A c (wr.alloc (.cells #[.int .i64 x.op, .int .i64 x.w, .int .i64 x.fl, .slice A x.args.length c, .int .u32 x.imm] 63)) (by
          have := hs.below (monoInt _) hbw
          exact this.below (monoInt _) ((Below.refl _ _).alloc (Nat.le_refl _) _)))
        unfold ndV at Hc
        clear h0 h1 h2 h3 h4 hs hx hb hbw
        cases hsh : T.shaped true j x
        · rw [hsh] at Hc
          have Hsh := Lib.hid hsh
          clear hsh
          go_wp2_with fail
          refine Hc.out.mono ?_
          rintro e w2 ⟨rfl, hb2⟩
          have Hb2 := Lib.hid (Hbw.out.trans (hb2.mono Hbw.out.size))
          clear hb2 k0 k1 k2 k3 k4
          go_wp2
          go_ret
          exact ⟨ret_int (by rw [Hv.out, T.shaped_bad Hx.out Hsh.out]; rfl), Hb2.out⟩
        · rw [hsh] at Hc
          have Hsh := Lib.hid hsh
          clear hsh
          go_wp2_with fail
          refine Hc.out.mono ?_
          rintro e w2 ⟨rfl, hb2⟩
          have Hb2 := Lib.hid (Hbw.out.trans (hb2.mono Hbw.out.size))
          clear hb2 k0 k1 k2 k3 k4
          go_wp2
          go_roundg (gk - 1)
          case measure => have := Hgk.out; omega
          case rel => have := Hgk.out; exact ⟨j + 1, by omega, by go_num, by omega, Hb2.out, HS.out.next Hx.out Hsh.out⟩
      · obtain rfl : j = n := by omega
        have hall := HS.out.all (by rw [Hlen.out]; exact Nat.le_refl _)
        have Hall := Lib.hid (T.shaped_all.1 hall)
        have Hv2 := Lib.hid (show T.valid true t = if (t.all (T.typed t)) = false then 6 else if T.clashes t = true then 7 else 0 from by rw [Hv.out, hall]; rfl)
        have Hbw := Lib.hid hbw
        clear hall hbw HS
        go_wp2
        go_loopg [31] (j + 1) (fun g i wr => ∃ (p : Nat), p ≤ j ∧ i = .int .i64 (p : Int) ∧ g + p = j + 1 ∧ Below W.heap.size W wr ∧ Hid (T.typedTo t p))
        case atStart => exact ⟨0, Nat.zero_le _, rfl, rfl, Hbw.out, fun i x hi => by omega⟩
        case round =>
          clear Hbw
          obtain ⟨p, hp, rfl, hgk, hbw, HS⟩ := hrel
          have Hgk2 := Lib.hid hgk; clear hgk
          by_cases hlt : p < j
          · obtain ⟨x, b, off, A, c, hx, rfl, hb, h0, h1, h2, h3, h4, hs, i0, i1⟩ := nd_cells HT.out hlt
            have k0 := (hbw.cell (p := ⟨b, off + p * 5, none⟩) hb).trans h0
            have k1 := (hbw.cell (p := ⟨b, off + p * 5 + 1, none⟩) hb).trans h1
            have k2 := (hbw.cell (p := ⟨b, off + p * 5 + 2, none⟩) hb).trans h2
            have k3 := (hbw.cell (p := ⟨b, off + p * 5 + 3, none⟩) hb).trans h3
            have k4 := (hbw.cell (p := ⟨b, off + p * 5 + 4, none⟩) hb).trans h4
            have Hx := Lib.hid hx
            obtain ⟨g1, g2, _, _, _, g3⟩ := T.shaped_args (Hall.out p x hx)
            have Hbw := Lib.hid (hbw.alloc hbw.size (.cells #[.int .i64 x.op, .int .i64 x.w, .int .i64 x.fl, .slice A x.args.length c, .int .u32 x.imm] 63))
            have Hc := Lib.hid (pisTyped_any t x j ct (some ⟨b, off, none⟩) A c (wr.alloc (.cells #[.int .i64 x.op, .int .i64 x.w, .int .i64 x.fl, .slice A x.args.length c, .int .u32 x.imm] 63)) (HT.out.below monoNd Hbw.out) (hs.below (monoInt _) Hbw.out) g1 (fun a ha => by have := g3 a ha; omega))
            unfold ndV at Hc
            clear h0 h1 h2 h3 h4 hs hx hb hbw g1 g2 g3
            cases hsh : T.typed t x
            · rw [hsh] at Hc
              have Hsh := Lib.hid hsh
              clear hsh
              go_wp2_with fail
              refine Hc.out.mono ?_
              rintro e w2 ⟨rfl, hb2⟩
              have Hb2 := Lib.hid (Hbw.out.trans (hb2.mono Hbw.out.size))
              clear hb2 k0 k1 k2 k3 k4
              go_wp2
              go_ret
              exact ⟨ret_int (by rw [Hv2.out, T.typed_bad Hx.out Hsh.out]; rfl), Hb2.out⟩
            · rw [hsh] at Hc
              have Hsh := Lib.hid hsh
              clear hsh
              go_wp2_with fail
              refine Hc.out.mono ?_
              rintro e w2 ⟨rfl, hb2⟩
              have Hb2 := Lib.hid (Hbw.out.trans (hb2.mono Hbw.out.size))
              clear hb2 k0 k1 k2 k3 k4
              go_wp2
              go_roundg (gk - 1)
              case measure => have := Hgk2.out; omega
              case rel => have := Hgk2.out; exact ⟨p + 1, by omega, by go_num, by omega, Hb2.out, HS.out.next Hx.out Hsh.out⟩
          · obtain rfl : p = j := by omega
            have hall := HS.out.all (by rw [Hlen.out]; exact Nat.le_refl _)
            have Hv3 := Lib.hid (show T.valid true t = if T.clashes t = true then 7 else 0 from by rw [Hv2.out, hall]; rfl)
            have Hw := Lib.hid (pwidths_any t p ct At wr (HT.out.below monoNd hbw) (T.okVars_of Hall.out Him.out) (by omega))
            have Hbw := Lib.hid hbw
            clear hall hbw HS
            go_wp2_with fail
            refine Hw.out.mono ?_
            rintro e w2 ⟨hb2, (⟨hc, rfl⟩ | ⟨hc, g, rfl, _, _⟩)⟩
            · have Hc := Lib.hid hc
              have Hb2 := Lib.hid (Hbw.out.trans (hb2.mono Hbw.out.size))
              clear hc hb2
              go_wp2
              go_ret
              exact ⟨ret_int (by rw [Hv3.out, Hc.out]; rfl), Hb2.out⟩
            · have Hc := Lib.hid hc
              have Hb2 := Lib.hid (Hbw.out.trans (hb2.mono Hbw.out.size))
              clear hc hb2
              go_wp2
              go_ret
              exact ⟨ret_int (by rw [Hv3.out, Hc.out]; rfl), Hb2.out⟩
end Go.Proofs.YtcmlmjbpdaecbaaGreat
end
section
namespace Go.Proofs.YtcmlmjbpdaecbaaGreat
open Go.RowKit Go.MapKept Go.Maps Go.WideMaps
set_option linter.unusedVariables false
set_option linter.unusedSimpArgs false

/-- what lies outside M stays -/
structure Kpm (M : Nat → Prop) (w w' : World) : Prop where
  os : w'.os = w.os
  tape : w'.tape = w.tape
  output : w'.output = w.output
  size : w.heap.size ≤ w'.heap.size
  block : ∀ k, k < w.heap.size → ¬ M k → w'.heap[k]? = w.heap[k]?

section
variable {M N : Nat → Prop} {a b c w w' : World} {B : Nat}

theorem Kpm.refl (M : Nat → Prop) (w : World) : Kpm M w w := ⟨rfl, rfl, rfl, Nat.le_refl _, fun _ _ _ => rfl⟩
theorem Kpm.trans (h : Kpm M a b) (k : Kpm N b c) (hN : ∀ i, i < a.heap.size → N i → M i) : Kpm M a c :=
  ⟨k.os.trans h.os, k.tape.trans h.tape, k.output.trans h.output, Nat.le_trans h.size k.size, fun i hi hm => (k.block i (Nat.lt_of_lt_of_le hi h.size) (fun hn => hm (hN i hi hn))).trans (h.block i hi hm)⟩
theorem Kpm.weak (h : Kpm M a b) (hi : ∀ i, i < a.heap.size → M i → N i) : Kpm N a b :=
  ⟨h.os, h.tape, h.output, h.size, fun i hl hn => h.block i hl fun hm => hn (hi i hl hm)⟩
theorem Kpm.below (h : Kpm M a b) (hB : B ≤ a.heap.size) (hM : ∀ i, M i → B ≤ i) : Below B a b :=
  ⟨h.os, h.tape, h.output, h.size, fun i hi => h.block i (by omega) fun hm => by have := hM i hm; omega⟩
theorem Kpm.of_below (h : Below a.heap.size a b) (M : Nat → Prop) : Kpm M a b :=
  ⟨h.os, h.tape, h.output, h.size, fun i hi _ => h.block i hi⟩
theorem Kpm.grown {row : Option Nat} (h : a.grownBy b row) (hr : ∀ g, row = some g → M g) : Kpm M a b :=
  ⟨h.os, h.tape, h.output, h.size, fun i hi hm => h.block i hi fun e => hm (hr i e.symm)⟩
theorem Kpm.drew (h : Kpm M a b) : Kpm M a b.drew := ⟨h.os, h.tape, h.output, h.size, h.block⟩
theorem Kpm.alloc (h : Kpm M a b) (o : Obj) : Kpm M a (b.alloc o) :=
  h.trans (Kpm.of_below ((Below.refl _ _).alloc (Nat.le_refl _) o) (fun _ => False)) (fun _ _ h => h.elim)
theorem Kpm.setCell (h : Kpm M a b) {p : Addr} (hp : p.block < a.heap.size → M p.block) (u : Value) : Kpm M a (b.setCell p u) :=
  ⟨h.os, h.tape, h.output, by simpa using h.size, fun i hi hm => (Below.heap_setCell b p u i (fun e => hm (by rw [e]; exact hp (by rw [← e]; exact hi)))).trans (h.block i hi hm)⟩
end

theorem frozen_row {W : World} {g : Nat} {cs : Array Value} {T : TypeId} (h : W.heap[g]? = some (.cells cs T (0, 0))) (k : Nat) : W.frozen? ⟨g, k, none⟩ = false := by simp [World.frozen?, h]

def I64 (n : Int) : Prop := -9223372036854775808 ≤ n ∧ n ≤ 9223372036854775807
theorem lit_i64 {n : Int} (h : I64 n) : (Lit.int .i64 n).wf = true := by
  have e1 : IntKind.i64.min = -9223372036854775808 := by decide
  have e2 : IntKind.i64.max = 9223372036854775807 := by decide
  unfold Lit.wf
  rw [Bool.and_eq_true, decide_eq_true_eq, decide_eq_true_eq, e1, e2]
  exact h
theorem lit_u32 {n : Int} (h : 0 ≤ n ∧ n < 4294967296) : (Lit.int .u32 n).wf = true := by
  have e1 : IntKind.u32.min = 0 := by decide
  have e2 : IntKind.u32.max = 4294967295 := by decide
  unfold Lit.wf
  rw [Bool.and_eq_true, decide_eq_true_eq, decide_eq_true_eq, e1, e2]
  omega

/-- an operation as a key: of the builder of terms, of the graph, of the reference -/
def opV (k : E.Opn) : Value := .agg #[.int .i64 k.op, .int .i64 k.w, .int .u32 k.imm, .int .i64 k.a0, .int .i64 k.a1, .int .i64 k.a2]
theorem opV_inj : ∀ a b, opV a = opV b → a = b := by
  rintro ⟨⟩ ⟨⟩ h
  simp [opV] at h
  simpa using h
structure OWf (k : E.Opn) : Prop where
  op : I64 k.op
  w : I64 k.w
  imm : 0 ≤ k.imm ∧ k.imm < 4294967296
  a0 : I64 k.a0
  a1 : I64 k.a1
  a2 : I64 k.a2

theorem intKeyed : Keyed Tryz.prog 3 := int_keyed Tryz.underlying3
theorem bkKeyed : Keyed Tryz.prog 230 := Keyed.of_law (deep_law_laid (by kernel_rfl) (m := 3) (by omega) (of_decide_eq_true (by kernel_rfl)) (by kernel_rfl) (by kernel_rfl))
theorem opKeyed : Keyed Tryz.prog 85 := Keyed.of_law (deep_law_laid (by kernel_rfl) (m := 3) (by omega) (of_decide_eq_true (by kernel_rfl)) (by kernel_rfl) (by kernel_rfl))

theorem keyLits_int {P : Program} {t : TypeId} {q : IntKind} (h : P.underlying t = some (.int q)) (d : Nat) {n : Int} (hn : (Lit.int q n).wf = true) : P.keyLits (d + 1) t [.int q n] = some [.int q n] := by
  simp [Program.keyLits, h, hn]
theorem keyLits_three {P : Program} {t e : TypeId} {q : IntKind} (h : P.underlying t = some (.array 3 e)) (he : P.underlying e = some (.int q)) (hc : P.cellsOf t = 3) (hce : P.cellsOf e = 1) (d : Nat) {a b c : Int} (ha : (Lit.int q a).wf = true) (hb : (Lit.int q b).wf = true) (hcw : (Lit.int q c).wf = true) :
    P.keyLits (d + 2) t [.int q a, .int q b, .int q c] = some [.int q a, .int q b, .int q c] := by
  unfold Program.keyLits
  simp only [h, hc, hce]
  refine (if_pos rfl).trans ?_
  simp only [List.range, List.range.loop, List.mapM_cons, List.mapM_nil, Nat.zero_mul, Nat.one_mul, Nat.reduceMul, List.drop_zero, List.drop_succ_cons, List.take_succ_cons, List.take_zero, keyLits_int he _ ha, keyLits_int he _ hb, keyLits_int he _ hcw]
  rfl

theorem keyOf_bk {k : E.Opn} (h : OWf k) : ∃ l, keyOf Tryz.prog 230 (opV k) = some l := by
  obtain ⟨h1, h2, h4, h5, h6, h7⟩ := h
  have f1 : Tryz.prog.keyType 230 = true := by kernel_rfl
  have f2 : Tryz.prog.cellsOf 230 = 6 := by kernel_rfl
  have f3 : Tryz.prog.cellsOf 83 = 3 := by kernel_rfl
  have f4 : Tryz.prog.cellsOf 3 = 1 := by kernel_rfl
  have f5 : Tryz.prog.cellsOf 61 = 1 := by kernel_rfl
  obtain ⟨d, hd⟩ : ∃ d, Tryz.prog.types.size + 1 = d + 4 := ⟨Tryz.prog.types.size - 3, by have : 3 ≤ Tryz.prog.types.size := of_decide_eq_true (by kernel_rfl); omega⟩
  have hL : Tryz.prog.keyLits (Tryz.prog.types.size + 1) 230 (opV k).cells.toList = some [.int .i64 k.op, .int .i64 k.w, .int .u32 k.imm, .int .i64 k.a0, .int .i64 k.a1, .int .i64 k.a2] := by
    rw [hd]
    unfold Program.keyLits
    simp only [Tryz.underlying230, f2]
    simp only [opV, Value.cells]
    refine (if_pos ⟨rfl, by kernel_rfl⟩).trans ?_
    simp only [List.mapM_cons, List.mapM_nil, f3, f4, f5, List.drop_zero, List.drop_succ_cons, List.take_succ_cons, List.take_zero]
    rw [keyLits_int Tryz.underlying3 (d + 2) (lit_i64 h1), keyLits_int Tryz.underlying3 (d + 2) (lit_i64 h2), keyLits_int Tryz.underlying61 (d + 2) (lit_u32 h4), keyLits_three Tryz.underlying83 Tryz.underlying3 f3 f4 (d + 1) (lit_i64 h5) (lit_i64 h6) (lit_i64 h7)]
    rfl
  have hf : (opV k).formed Tryz.prog 230 = true := by simp [Value.formed, Tryz.underlying230, f2, opV]
  unfold keyOf
  simp only [Tryz.underlying230, f1, hf, hL, Bool.and_self, if_true, Option.map_some]
  exact ⟨_, rfl⟩
theorem keyOf_op {k : E.Opn} (h : OWf k) : ∃ l, keyOf Tryz.prog 85 (opV k) = some l := by
  obtain ⟨h1, h2, h4, h5, h6, h7⟩ := h
  have f1 : Tryz.prog.keyType 85 = true := by kernel_rfl
  have f2 : Tryz.prog.cellsOf 85 = 6 := by kernel_rfl
  have f3 : Tryz.prog.cellsOf 83 = 3 := by kernel_rfl
  have f4 : Tryz.prog.cellsOf 3 = 1 := by kernel_rfl
  have f5 : Tryz.prog.cellsOf 61 = 1 := by kernel_rfl
  obtain ⟨d, hd⟩ : ∃ d, Tryz.prog.types.size + 1 = d + 4 := ⟨Tryz.prog.types.size - 3, by have : 3 ≤ Tryz.prog.types.size := of_decide_eq_true (by kernel_rfl); omega⟩
  have hL : Tryz.prog.keyLits (Tryz.prog.types.size + 1) 85 (opV k).cells.toList = some [.int .i64 k.op, .int .i64 k.w, .int .u32 k.imm, .int .i64 k.a0, .int .i64 k.a1, .int .i64 k.a2] := by
    rw [hd]
    unfold Program.keyLits
    simp only [Tryz.underlying85, f2]
    simp only [opV, Value.cells]
    refine (if_pos ⟨rfl, by kernel_rfl⟩).trans ?_
    simp only [List.mapM_cons, List.mapM_nil, f3, f4, f5, List.drop_zero, List.drop_succ_cons, List.take_succ_cons, List.take_zero]
    rw [keyLits_int Tryz.underlying3 (d + 2) (lit_i64 h1), keyLits_int Tryz.underlying3 (d + 2) (lit_i64 h2), keyLits_int Tryz.underlying61 (d + 2) (lit_u32 h4), keyLits_three Tryz.underlying83 Tryz.underlying3 f3 f4 (d + 1) (lit_i64 h5) (lit_i64 h6) (lit_i64 h7)]
    rfl
  have hf : (opV k).formed Tryz.prog 85 = true := by simp [Value.formed, Tryz.underlying85, f2, opV]
  unfold keyOf
  simp only [Tryz.underlying85, f1, hf, hL, Bool.and_self, if_true, Option.map_some]
  exact ⟨_, rfl⟩

def ekI (n : Int) : Value := .int .i64 n
theorem ekI_inj : ∀ a b, ekI a = ekI b → a = b := by intro a b h; simp [ekI] at h; exact h
/-- elements that are numbers of classes -/
def NatE {κ : Type} (_ : World) (_ : κ) (u : Value) (n : Nat) : Prop := u = .int .i64 (n : Int)
/-- classes as they lie in memory -/
def ivs (l : List Nat) : List Value := l.map fun (c : Nat) => Value.int .i64 (c : Int)
def ini (l : List Nat) : List Int := l.map fun (c : Nat) => (c : Int)
end Go.Proofs.YtcmlmjbpdaecbaaGreat
end
section
namespace Go.Proofs.YtcmlmjbpdaecbaaGreat
open Go.RowKit Go.MapKept Go.Maps Go.WideMaps
set_option linter.unusedVariables false
set_option linter.unusedSimpArgs false

theorem ini_some {l : List Nat} {k : Nat} {a : Int} (h : (ini l)[k]? = some a) : ∃ c : Nat, a = (c : Int) ∧ l[k]? = some c := by
  unfold ini at h
  rw [List.getElem?_map] at h
  cases e : l[k]? with
  | none => rw [e] at h; cases h
  | some d => rw [e] at h; simp at h; exact ⟨d, h.symm, rfl⟩
theorem ini_len (l : List Nat) : (ini l).length = l.length := by simp [ini]

namespace E
theorem root_next {p : List Nat} (hd : Down p) {c d : Nat} (h : p[c]? = some d) : d ≤ c ∧ (d = c → root p c = c) ∧ root p d = root p c := by
  have hl := (List.getElem?_eq_some_iff.1 h).1
  have e : p.getD c c = d := by rw [List.getD_eq_getElem?_getD, h]; rfl
  have h1 := hd c hl
  rw [e] at h1
  refine ⟨h1, fun k => root_of_fix (by rw [e, k]), ?_⟩
  have := root_step (p := p) (c := c) (by rw [e]; exact h1)
  rw [e] at this
  exact this
end E

set_option maxRecDepth 100000 in
set_option maxHeartbeats 1000000 in
theorem gfind_any {p : List Nat} {b n ca : Nat} {A : Option Addr} {W : World} (hrow : W.cell? ⟨b, 0, none⟩ = some (.slice A n ca)) (hp : SlAt (IntR .i64) W A n (ini p)) (hd : E.Down p) (c : Nat) (hc : c < p.length) :
    Calls Tryz.prog 100 #[.pointer (some ⟨b, 0, none⟩), .int .i64 (c : Int)] W fun e W' => e = .returned (.int .i64 (E.root p c : Nat)) ∧ W' = W := by
  have hn : p.length = n := by have := hp.len; rw [ini_len] at this; exact this
  have hle := hp.le
  have Hp := Lib.hid hp
  have Hd := Lib.hid hd
  have Hn := Lib.hid hn
  have Hc := Lib.hid hc
  clear hp hd hn hc
  go_enter Tryz.func100, Tryz.ntmps100
  go_wp2
  go_loopg [1] c (fun gg i wr => ∃ (j : Nat), i = .int .i64 (j : Int) ∧ gg = j ∧ Hid (j ≤ c ∧ E.root p j = E.root p c) ∧ wr = W)
  case atStart => exact ⟨c, rfl, rfl, Lib.hid ⟨Nat.le_refl _, rfl⟩, rfl⟩
  case round =>
    obtain ⟨j, rfl, hgk, Hj, rfl⟩ := hrel
    have Hgk := Lib.hid hgk; clear hgk
    have hjn : j < n := by have := Hj.out.1; have := Hc.out; have := Hn.out; omega
    obtain ⟨x, ba, off, u, hx, rfl, hba, hcell, rfl⟩ := Hp.out.at_ hjn
    obtain ⟨d, rfl, hd'⟩ := ini_some hx
    obtain ⟨d1, d2, d3⟩ := E.root_next Hd.out hd'
    have D2 := Lib.hid d2
    have D3 := Lib.hid d3
    clear hx hd' d2 d3 hba
    by_cases hdj : d = j
    · subst hdj
      have hres := D2.out rfl
      have Hres := Lib.hid hres
      clear hres
      go_wp2
      go_ret
      exact ⟨congrArg (fun n : Nat => Ending.returned (Value.int .i64 (n : Int))) (show d = E.root p c from Hres.out.symm.trans Hj.out.2), rfl⟩
    · have hne : (d : Int) ≠ (j : Int) := by omega
      have D1 := Lib.hid d1
      have Hdj := Lib.hid hdj
      clear d1 hdj
      go_wp2
      go_roundg d
      case measure => have := Hgk.out; have := D1.out; have := Hdj.out; omega
      case rel =>
        have := D1.out
        exact ⟨d, rfl, rfl, Lib.hid ⟨by have := Hj.out.1; omega, D3.out.trans Hj.out.2⟩, rfl⟩
end Go.Proofs.YtcmlmjbpdaecbaaGreat
end
