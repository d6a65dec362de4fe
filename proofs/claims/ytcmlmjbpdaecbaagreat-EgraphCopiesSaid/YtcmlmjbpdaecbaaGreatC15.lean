/- Merged: PlainT2, T5, T6. -/
import Derived.Test.YtcmlmjbpdaecbaaGreatC02
import Derived.Test.YtcmlmjbpdaecbaaGreatC14
set_option linter.unusedVariables false
set_option linter.unusedSimpArgs false
section
namespace Go.Proofs.YtcmlmjbpdaecbaaGreat.T
set_option linter.unusedVariables false
set_option linter.unusedSimpArgs false
/-- what is asked of the nodes where their variables are gone through -/
def okVars (t : List Nd) : Prop := ∀ y ∈ t, 0 ≤ y.imm ∧ (y.op = 33 → y.imm < 4 ∧ 1 ≤ y.w)
theorem okVars.take {t : List Nd} (h : okVars t) (j : Nat) : okVars (t.take j) := fun y hy => h y (List.mem_of_mem_take hy)
theorem widths_mem {t : List Nd} {v : Nat} {z : Int} : (widths t)[v]? = some z → z ≠ 0 → ∃ (i : Nat) (y : Nd), t[i]? = some y ∧ y.op = 33 ∧ y.imm.toNat = v ∧ y.w = z := by
  refine snocInd (P := fun t => (widths t)[v]? = some z → z ≠ 0 → ∃ (i : Nat) (y : Nd), t[i]? = some y ∧ y.op = 33 ∧ y.imm.toNat = v ∧ y.w = z) (fun h hz => ?_) (fun t x ih h hz => ?_) t
  · exfalso
    have hv : v < 4 := (List.getElem?_eq_some_iff.1 h).1
    have : v = 0 ∨ v = 1 ∨ v = 2 ∨ v = 3 := by omega
    rcases this with rfl | rfl | rfl | rfl <;> exact hz (Option.some.inj h).symm
  · have go : (widths t)[v]? = some z → ∃ (i : Nat) (y : Nd), (t ++ [x])[i]? = some y ∧ y.op = 33 ∧ y.imm.toNat = v ∧ y.w = z := fun h' => by
      obtain ⟨i, y, h1, h2⟩ := ih h' hz
      exact ⟨i, y, by rw [List.getElem?_append_left (List.getElem?_eq_some_iff.1 h1).1]; exact h1, h2⟩
    rw [widths_snoc] at h
    split at h
    · rename_i hx
      by_cases he : x.imm.toNat = v
      · have hl := widths_len t
        have hv : v < 4 := by have := (List.getElem?_eq_some_iff.1 h).1; rw [List.length_set] at this; omega
        rw [he, List.getElem?_set_self (by omega)] at h
        exact ⟨t.length, x, by simp, hx, he, Option.some.inj h⟩
      · rw [List.getElem?_set_ne he] at h; exact go h
    · exact go h
theorem clash_other {t : List Nd} {x : Nd} (h : clashes t = false) (hx : x.op ≠ 33) : clashes (t ++ [x]) = false := by
  rw [clashes_iff] at h ⊢
  intro i j a b hij ha hb
  by_cases hj : j < t.length
  · rw [List.getElem?_append_left hj] at hb
    rw [List.getElem?_append_left (by omega)] at ha
    exact h i j a b hij ha hb
  · have : j = t.length := by have := (List.getElem?_eq_some_iff.1 hb).1; simp at this; omega
    subst this
    simp at hb
    subst hb
    unfold clash
    simp [hx]
theorem clash_good {t : List Nd} {x : Nd} (h : clashes t = false) (ht : okVars t) (hx : x.op = 33) (h0 : 0 ≤ x.imm) {v : Int} (hv : (widths t)[x.imm.toNat]? = some v) (hg : v = 0 ∨ v = x.w) : clashes (t ++ [x]) = false := by
  have h' := h
  rw [clashes_iff] at h ⊢
  intro i j a b hij ha hb
  by_cases hj : j < t.length
  · rw [List.getElem?_append_left hj] at hb
    rw [List.getElem?_append_left (by omega)] at ha
    exact h i j a b hij ha hb
  · have : j = t.length := by have := (List.getElem?_eq_some_iff.1 hb).1; simp at this; omega
    subst this
    simp at hb
    subst hb
    rw [List.getElem?_append_left hij] at ha
    unfold clash
    by_cases ho : a.op = 33
    · by_cases he : a.imm = x.imm
      · have hm := ht a (List.mem_of_getElem? ha)
        have := widths_at h' (fun y hy => (ht y hy).1) ha ho (hm.2 ho).1
        rw [he, hv] at this
        have hw := Option.some.inj this
        have := (hm.2 ho).2
        have : a.w = x.w := by omega
        simp [this]
      · simp [he]
    · simp [ho]
theorem clash_bad {t : List Nd} {x : Nd} (ht : okVars t) (hx : x.op = 33) (h0 : 0 ≤ x.imm) {v : Int} (hv : (widths t)[x.imm.toNat]? = some v) (h1 : v ≠ 0) (h2 : v ≠ x.w) : clashes (t ++ [x]) = true := by
  cases e : clashes (t ++ [x])
  · exfalso
    obtain ⟨i, y, hy, ho, hi, hw⟩ := widths_mem hv h1
    have hlt := (List.getElem?_eq_some_iff.1 hy).1
    have := clashes_iff.1 e i t.length y x hlt (by rw [List.getElem?_append_left hlt]; exact hy) (by simp)
    have hy0 := (ht y (List.mem_of_getElem? hy)).1
    have he : y.imm = x.imm := by omega
    unfold clash at this
    simp [ho, hx, he, hw] at this
    exact h2 this
  · rfl
theorem clashes_take {t : List Nd} {j : Nat} (h : clashes (t.take j) = true) : clashes t = true := by
  cases e : clashes t
  · exfalso
    have : clashes (t.take j) = false := clashes_iff.2 fun i k a b hik ha hb => by
      rw [List.getElem?_take] at ha hb
      split at ha
      · split at hb
        · exact clashes_iff.1 e i k a b hik ha hb
        · cases hb
      · cases ha
    rw [h] at this
    cases this
  · rfl
/-- the nodes of a term of right shapes -/
theorem okVars_of {z : Bool} {t : List Nd} (h : ∀ i x, t[i]? = some x → shaped z i x = true) (h0 : ∀ y ∈ t, 0 ≤ y.imm) : okVars t := fun y hy => by
  refine ⟨h0 y hy, fun ho => ?_⟩
  obtain ⟨i, hi⟩ := List.mem_iff_getElem?.1 hy
  obtain ⟨_, _, h3, _, h5, _⟩ := shaped_args (h i y hi)
  unfold immOk at h5
  rw [if_neg (by omega), if_pos ho] at h5
  exact ⟨by simpa using h5, h3⟩
end Go.Proofs.YtcmlmjbpdaecbaaGreat.T
end
section
namespace Go.Proofs.YtcmlmjbpdaecbaaGreat
open Go.RowKit
set_option linter.unusedVariables false
set_option linter.unusedSimpArgs false

/-- what widths gives back -/
def WdR (t : List T.Nd) (W : World) (e : Ending) (w' : World) : Prop := Below W.heap.size W w' ∧
  ((T.clashes t = true ∧ e = .returned (.tuple #[.slice none 0 0, .bool false])) ∨
   (T.clashes t = false ∧ ∃ g, e = .returned (.tuple #[.slice (some ⟨g, 0, none⟩) 4 4, .bool true]) ∧ W.heap.size ≤ g ∧ w'.heap[g]? = some (.cells ((T.widths t).map (Value.int .i64)).toArray 3 (0, 0))))

theorem wd_four (t : List T.Nd) {v : Nat} (hv : v < 4) : ∃ z, (T.widths t)[v]? = some z := ⟨_, List.getElem?_eq_getElem (by rw [T.widths_len]; exact hv)⟩

set_option maxRecDepth 100000 in
set_option maxHeartbeats 2000000 in
theorem pwidths_any (t : List T.Nd) (n ct : Nat) (At : Option Addr) (W : World) (hT : StAt 5 NdR W At n t) (hok : T.okVars t) (hn : n ≤ 1000000) :
    Calls Tryz.prog 149 #[.slice At n ct] W (WdR t W) := by
  have HT := Lib.hid hT
  have Hok := Lib.hid hok
  have Hlen := Lib.hid hT.len
  clear hT hok
  have hmk := fun (W' : World) => run_make_n (P := Tryz.prog) 60 3 (.int .i64 0) 8 Tryz.underlying60 infoInt rfl .i64 .i64 4 (4 : Int) rfl (by omega) (by omega) W'
  go_enter Tryz.func149, Tryz.ntmps149
  go_wp2
  clear hmk
  go_loopg [11] (n + 1) (fun g i wr => ∃ (j : Nat), j ≤ n ∧ i = .int .i64 (j : Int) ∧ g + j = n + 1 ∧ Below W.heap.size W wr ∧ Hid (T.clashes (t.take j) = false) ∧ Hid (wr.heap[W.heap.size]? = some (.cells ((T.widths (t.take j)).map (Value.int .i64)).toArray 3 (0, 0))))
  case atStart => exact ⟨0, Nat.zero_le _, rfl, rfl, (Below.refl _ _).alloc (Nat.le_refl _) _, by show _ = _; rw [List.take_zero]; rfl, by show _ = _; rw [List.take_zero]; exact heap_alloc_new W _⟩
  case round =>
    obtain ⟨j, hj, rfl, hgk, hbw, HC, HW⟩ := hrel
    have Hgk := Lib.hid hgk; clear hgk
    by_cases hlt : j < n
    · obtain ⟨x, b, off, A, c, hx, rfl, hb, h0, h1, h2, h3, h4, hs, i0, i1⟩ := nd_cells HT.out hlt
      have k0 := (hbw.cell (p := ⟨b, off + j * 5, none⟩) hb).trans h0
      have k1 := (hbw.cell (p := ⟨b, off + j * 5 + 1, none⟩) hb).trans h1
      have k2 := (hbw.cell (p := ⟨b, off + j * 5 + 2, none⟩) hb).trans h2
      have k3 := (hbw.cell (p := ⟨b, off + j * 5 + 3, none⟩) hb).trans h3
      have k4 := (hbw.cell (p := ⟨b, off + j * 5 + 4, none⟩) hb).trans h4
      have Hx := Lib.hid hx
      have Htk := Lib.hid (show t.take (j + 1) = t.take j ++ [x] from K.take_succ_at hx)
      have Hokx := Lib.hid (Hok.out x (List.mem_of_getElem? hx))
      have hbs := hbw.size
      have hlt0 : W.heap.size < wr.heap.size := (Array.getElem?_eq_some_iff.1 HW.out).1
      obtain ⟨op, w, fl, args, imm⟩ := x
      dsimp only at k0 k1 k2 k3 k4 Hokx i0 i1
      clear h0 h1 h2 h3 h4 hs hx hb
      have Hbw := Lib.hid (hbw.alloc hbw.size (.cells #[.int .i64 op, .int .i64 w, .int .i64 fl, .slice A args.length c, .int .u32 imm] 63))
      have HW1 := Lib.hid (row_alloc HW.out (.cells #[.int .i64 op, .int .i64 w, .int .i64 fl, .slice A args.length c, .int .u32 imm] 63))
      have HbwR := Lib.hid hbw
      clear hbw
      by_cases ho : op = 33
      · have Ho := Lib.hid ho
        obtain ⟨m4, w1⟩ := Hokx.out.2 ho
        subst ho
        obtain ⟨v, rfl⟩ : ∃ v : Nat, imm = v := ⟨imm.toNat, by omega⟩
        have hv4 : v < 4 := by omega
        obtain ⟨z, hz⟩ := wd_four (t.take j) hv4
        have hcz : (wr.alloc (.cells #[.int .i64 33, .int .i64 w, .int .i64 fl, .slice A args.length c, .int .u32 (v : Int)] 63)).cell? ⟨W.heap.size, v, none⟩ = some (.int .i64 z) := by
          rw [cell_of_row _ _ _ _ _ (0, 0) HW1.out, List.getElem?_toArray, List.getElem?_map, hz]; rfl
        have Hz := Lib.hid hz
        have hfz : (wr.alloc (.cells #[.int .i64 33, .int .i64 w, .int .i64 fl, .slice A args.length c, .int .u32 (v : Int)] 63)).frozen? ⟨W.heap.size, v, none⟩ = false := by simp [World.frozen?, HW1.out]
        clear hz Ho
        by_cases hg : z = 0 ∨ z = w
        · have HC2 := Lib.hid (show T.clashes (t.take (j + 1)) = false from by
            rw [Htk.out]; exact T.clash_good HC.out (Hok.out.take j) rfl (by exact Int.natCast_nonneg v) (v := z) (by rw [Int.toNat_natCast]; exact Hz.out) hg)
          have HW2 := Lib.hid (show ((wr.setCell ⟨W.heap.size, v, none⟩ (.int .i64 w)).alloc (.cells #[.int .i64 33, .int .i64 w, .int .i64 fl, .slice A args.length c, .int .u32 (v : Int)] 63)).heap[W.heap.size]? = some (.cells ((T.widths (t.take (j + 1))).map (Value.int .i64)).toArray 3 (0, 0)) from by
            refine row_alloc ?_ _
            rw [heap_setCell_same _ _ _ _ _ _ HW.out, Htk.out, T.widths_snoc, if_pos rfl]
            simp [List.map_set])
          have Hb2 := Lib.hid (show Below W.heap.size W ((wr.setCell ⟨W.heap.size, v, none⟩ (.int .i64 w)).alloc (.cells #[.int .i64 33, .int .i64 w, .int .i64 fl, .slice A args.length c, .int .u32 (v : Int)] 63)) from (HbwR.out.setCell (p := ⟨W.heap.size, v, none⟩) (Nat.le_refl _) (.int .i64 w)).alloc (by simp; exact HbwR.out.size) _)
          rcases hg with rfl | rfl
          · have z1 : ((0 : Int) != 0) = false := rfl
            go_wp2
            go_roundg (gk - 1)
            case measure => have := Hgk.out; omega
            case rel => have := Hgk.out; exact ⟨j + 1, by omega, by go_num, by omega, Hb2.out, HC2.out, HW2.out⟩
          · have z1 : (z != 0) = true := by simp; omega
            have z2 : (z != z) = false := by simp
            go_wp2
            go_roundg (gk - 1)
            case measure => have := Hgk.out; omega
            case rel => have := Hgk.out; exact ⟨j + 1, by omega, by go_num, by omega, Hb2.out, HC2.out, HW2.out⟩
        · have z1 : (z != 0) = true := by simp; omega
          have z2 : (z != w) = true := by simp; omega
          have HC2 := Lib.hid (show T.clashes t = true from T.clashes_take (j := j + 1) (by
            rw [Htk.out]; exact T.clash_bad (Hok.out.take j) rfl (by exact Int.natCast_nonneg v) (v := z) (by rw [Int.toNat_natCast]; exact Hz.out) (fun h => hg (.inl h)) (fun h => hg (.inr h))))
          clear hg
          go_wp2
          go_ret2
          exact ⟨Hbw.out, .inl ⟨HC2.out, rfl⟩⟩
      · have q : (op != 33) = true := by simpa using ho
        have HC2 := Lib.hid (show T.clashes (t.take (j + 1)) = false from by rw [Htk.out]; exact T.clash_other HC.out ho)
        have HW2 := Lib.hid (show (wr.alloc (.cells #[.int .i64 op, .int .i64 w, .int .i64 fl, .slice A args.length c, .int .u32 imm] 63)).heap[W.heap.size]? = some (.cells ((T.widths (t.take (j + 1))).map (Value.int .i64)).toArray 3 (0, 0)) from by rw [Htk.out, T.widths_snoc, if_neg ho]; exact HW1.out)
        clear ho
        go_wp2
        go_roundg (gk - 1)
        case measure => have := Hgk.out; omega
        case rel => have := Hgk.out; exact ⟨j + 1, by omega, by go_num, by omega, Hbw.out, HC2.out, HW2.out⟩
    · obtain rfl : j = n := by omega
      have e : t.take j = t := List.take_of_length_le (by rw [Hlen.out]; exact Nat.le_refl _)
      rw [e] at HC HW
      go_wp2
      go_ret2
      exact ⟨hbw, .inr ⟨HC.out, W.heap.size, rfl, Nat.le_refl _, HW.out⟩⟩
end Go.Proofs.YtcmlmjbpdaecbaaGreat
end
section
namespace Go.Proofs.YtcmlmjbpdaecbaaGreat
open Go.RowKit
set_option linter.unusedVariables false
set_option linter.unusedSimpArgs false

theorem nd_imm {W : World} {At : Option Addr} {n : Nat} {t : List T.Nd} (h : StAt 5 NdR W At n t) : ∀ y ∈ t, 0 ≤ y.imm := fun y hy => by
  obtain ⟨i, hi⟩ := List.mem_iff_getElem?.1 hy
  have hl : i < n := by have := (List.getElem?_eq_some_iff.1 hi).1; rw [h.len] at this; exact this
  obtain ⟨x, _, _, _, _, hx, _, _, _, _, _, _, _, _, h0, _⟩ := nd_cells h hl
  rw [hi] at hx
  cases hx
  exact h0

set_option maxRecDepth 100000 in
set_option maxHeartbeats 4000000 in
theorem pValidate_any (t : List T.Nd) (n ct : Nat) (At : Option Addr) (W : World) (hT : StAt 5 NdR W At n t) :
    Calls Tryz.prog 109 #[.slice At n ct] W fun e w' => e = .returned (.int .i64 (T.valid true t)) ∧ Below W.heap.size W w' := by
  have HT := Lib.hid hT
  have hle := hT.le
  have hlen := hT.len
  have Him := Lib.hid (nd_imm hT)
  clear hT
  by_cases hsz : t.length < 1 ∨ 300 < t.length
  · have hv : T.valid true t = 3 := by unfold T.valid; rw [if_pos hsz]
    rw [hv]
    rw [hlen] at hsz
    clear hv hlen
    by_cases h0 : n < 1
    · have q0 : decide ((n : Int) < 1) = true := by simp; omega
      clear hsz
      go_enter Tryz.func109, Tryz.ntmps109
      go_wp2
      go_ret
      exact ⟨rfl, Below.refl _ _⟩
    · have q0 : decide ((n : Int) < 1) = false := by simp; omega
      have q1 : decide (300 < (n : Int)) = true := by simp; omega
      clear hsz
      go_enter Tryz.func109, Tryz.ntmps109
      go_wp2
      go_ret
      exact ⟨rfl, Below.refl _ _⟩
  · have Hv := Lib.hid (show T.valid true t = if (t.zipIdx.all fun p => T.shaped true p.2 p.1) = false then 1 else if (t.all (T.typed t)) = false then 6 else if T.clashes t = true then 7 else 0 from by unfold T.valid; rw [if_neg hsz])
    rw [hlen] at hsz
    have q0 : decide ((n : Int) < 1) = false := by simp; omega
    have q1 : decide (300 < (n : Int)) = false := by simp; omega
    have hn : n ≤ 300 := by omega
    have Hlen := Lib.hid hlen
    clear hsz hlen
    go_enter Tryz.func109, Tryz.ntmps109
    go_wp2
    try simp only [q0, q1]
    clear q0 q1
    go_loopg [19] (n + 1) (fun g i wr => ∃ (j : Nat), j ≤ n ∧ i = .int .i64 (j : Int) ∧ g + j = n + 1 ∧ Below W.heap.size W wr ∧ Hid (T.shapedTo true t j))
    case atStart => exact ⟨0, Nat.zero_le _, rfl, rfl, Below.refl _ _, fun i x hi => by omega⟩
    case round =>
      obtain ⟨j, hj, rfl, hgk, hbw, HS⟩ := hrel
      have Hgk := Lib.hid hgk; clear hgk
      by_cases hlt : j < n
      · obtain ⟨x, b, off, A, c, hx, rfl, hb, h0, h1, h2, h3, h4, hs, i0, i1⟩ := nd_cells HT.out hlt
        have k0 := (hbw.cell (p := ⟨b, off + j * 5, none⟩) hb).trans h0
        have k1 := (hbw.cell (p := ⟨b, off + j * 5 + 1, none⟩) hb).trans h1
        have k2 := (hbw.cell (p := ⟨b, off + j * 5 + 2, none⟩) hb).trans h2
        have k3 := (hbw.cell (p := ⟨b, off + j * 5 + 3, none⟩) hb).trans h3
        have k4 := (hbw.cell (p := ⟨b, off + j * 5 + 4, none⟩) hb).trans h4
        have Hx := Lib.hid hx
        have Hbw := Lib.hid (hbw.alloc hbw.size (.cells #[.int .i64 x.op, .int .i64 x.w, .int .i64 x.fl, .slice A x.args.length c, .int .u32 x.imm] 63))
        have Hc := Lib.hid (pisShaped_any j x A c (wr.alloc (.cells #[.int .i64 x.op, .int .i64 x.w, .int .i64 x.fl, .slice A x.args.length c, .int .u32 x.imm] 63)) (by
          have := hs.below (monoInt _) hbw
          exact this.below (monoInt _) ((Below.refl _ _).alloc (Nat.le_refl _) _)))
        unfold ndV at Hc
        clear h0 h1 h2 h3 h4 hs hx hb hbw
        cases hsh : T.shaped true j x
        · rw [hsh] at Hc
          have Hsh := Lib.hid hsh
          clear hsh
          go_wp2_with fail
          refine Hc.out.mono ?_
          rintro e w2 ⟨rfl, hb2⟩
          have Hb2 := Lib.hid (Hbw.out.trans (hb2.mono Hbw.out.size))
          clear hb2 k0 k1 k2 k3 k4
          go_wp2
          go_ret
          exact ⟨ret_int (by rw [Hv.out, T.shaped_bad Hx.out Hsh.out]; rfl), Hb2.out⟩
        · rw [hsh] at Hc
          have Hsh := Lib.hid hsh
          clear hsh
          go_wp2_with fail
          refine Hc.out.mono ?_
          rintro e w2 ⟨rfl, hb2⟩
          have Hb2 := Lib.hid (Hbw.out.trans (hb2.mono Hbw.out.size))
          clear hb2 k0 k1 k2 k3 k4
          go_wp2
          go_roundg (gk - 1)
          case measure => have := Hgk.out; omega
          case rel => have := Hgk.out; exact ⟨j + 1, by omega, by go_num, by omega, Hb2.out, HS.out.next Hx.out Hsh.out⟩
      · obtain rfl : j = n := by omega
        have hall := HS.out.all (by rw [Hlen.out]; exact Nat.le_refl _)
        have Hall := Lib.hid (T.shaped_all.1 hall)
        have Hv2 := Lib.hid (show T.valid true t = if (t.all (T.typed t)) = false then 6 else if T.clashes t = true then 7 else 0 from by rw [Hv.out, hall]; rfl)
        have Hbw := Lib.hid hbw
        clear hall hbw HS
        go_wp2
        go_loopg [31] (j + 1) (fun g i wr => ∃ (p : Nat), p ≤ j ∧ i = .int .i64 (p : Int) ∧ g + p = j + 1 ∧ Below W.heap.size W wr ∧ Hid (T.typedTo t p))
        case atStart => exact ⟨0, Nat.zero_le _, rfl, rfl, Hbw.out, fun i x hi => by omega⟩
        case round =>
          clear Hbw
          obtain ⟨p, hp, rfl, hgk, hbw, HS⟩ := hrel
          have Hgk2 := Lib.hid hgk; clear hgk
          by_cases hlt : p < j
          · obtain ⟨x, b, off, A, c, hx, rfl, hb, h0, h1, h2, h3, h4, hs, i0, i1⟩ := nd_cells HT.out hlt
            have k0 := (hbw.cell (p := ⟨b, off + p * 5, none⟩) hb).trans h0
            have k1 := (hbw.cell (p := ⟨b, off + p * 5 + 1, none⟩) hb).trans h1
            have k2 := (hbw.cell (p := ⟨b, off + p * 5 + 2, none⟩) hb).trans h2
            have k3 := (hbw.cell (p := ⟨b, off + p * 5 + 3, none⟩) hb).trans h3
            have k4 := (hbw.cell (p := ⟨b, off + p * 5 + 4, none⟩) hb).trans h4
            have Hx := Lib.hid hx
            obtain ⟨g1, g2, _, _, _, g3⟩ := T.shaped_args (Hall.out p x hx)
            have Hbw := Lib.hid (hbw.alloc hbw.size (.cells #[.int .i64 x.op, .int .i64 x.w, .int .i64 x.fl, .slice A x.args.length c, .int .u32 x.imm] 63))
            have Hc := Lib.hid (pisTyped_any t x j ct (some ⟨b, off, none⟩) A c (wr.alloc (.cells #[.int .i64 x.op, .int .i64 x.w, .int .i64 x.fl, .slice A x.args.length c, .int .u32 x.imm] 63)) (HT.out.below monoNd Hbw.out) (hs.below (monoInt _) Hbw.out) g1 (fun a ha => by have := g3 a ha; omega))
            unfold ndV at Hc
            clear h0 h1 h2 h3 h4 hs hx hb hbw g1 g2 g3
            cases hsh : T.typed t x
            · rw [hsh] at Hc
              have Hsh := Lib.hid hsh
              clear hsh
              go_wp2_with fail
              refine Hc.out.mono ?_
              rintro e w2 ⟨rfl, hb2⟩
              have Hb2 := Lib.hid (Hbw.out.trans (hb2.mono Hbw.out.size))
              clear hb2 k0 k1 k2 k3 k4
              go_wp2
              go_ret
              exact ⟨ret_int (by rw [Hv2.out, T.typed_bad Hx.out Hsh.out]; rfl), Hb2.out⟩
            · rw [hsh] at Hc
              have Hsh := Lib.hid hsh
              clear hsh
              go_wp2_with fail
              refine Hc.out.mono ?_
              rintro e w2 ⟨rfl, hb2⟩
              have Hb2 := Lib.hid (Hbw.out.trans (hb2.mono Hbw.out.size))
              clear hb2 k0 k1 k2 k3 k4
              go_wp2
              go_roundg (gk - 1)
              case measure => have := Hgk2.out; omega
              case rel => have := Hgk2.out; exact ⟨p + 1, by omega, by go_num, by omega, Hb2.out, HS.out.next Hx.out Hsh.out⟩
          · obtain rfl : p = j := by omega
            have hall := HS.out.all (by rw [Hlen.out]; exact Nat.le_refl _)
            have Hv3 := Lib.hid (show T.valid true t = if T.clashes t = true then 7 else 0 from by rw [Hv2.out, hall]; rfl)
            have Hw := Lib.hid (pwidths_any t p ct At wr (HT.out.below monoNd hbw) (T.okVars_of Hall.out Him.out) (by omega))
            have Hbw := Lib.hid hbw
            clear hall hbw HS
            go_wp2_with fail
            refine Hw.out.mono ?_
            rintro e w2 ⟨hb2, (⟨hc, rfl⟩ | ⟨hc, g, rfl, _, _⟩)⟩
            · have Hc := Lib.hid hc
              have Hb2 := Lib.hid (Hbw.out.trans (hb2.mono Hbw.out.size))
              clear hc hb2
              go_wp2
              go_ret
              exact ⟨ret_int (by rw [Hv3.out, Hc.out]; rfl), Hb2.out⟩
            · have Hc := Lib.hid hc
              have Hb2 := Lib.hid (Hbw.out.trans (hb2.mono Hbw.out.size))
              clear hc hb2
              go_wp2
              go_ret
              exact ⟨ret_int (by rw [Hv3.out, Hc.out]; rfl), Hb2.out⟩
end Go.Proofs.YtcmlmjbpdaecbaaGreat
end
