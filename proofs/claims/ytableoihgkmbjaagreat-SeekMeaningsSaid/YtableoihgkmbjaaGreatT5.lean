/- Walks of the program's layer of terms: the widths of the variables. -/
import Derived.Test.YtableoihgkmbjaaGreatT4
import Derived.Test.YtableoihgkmbjaaGreatPlainT2
namespace Go.Proofs.YtableoihgkmbjaaGreat
open Go.RowKit
set_option linter.unusedVariables false
set_option linter.unusedSimpArgs false

/-- what widths gives back -/
def WdR (t : List T.Nd) (W : World) (e : Ending) (w' : World) : Prop := Below W.heap.size W w' ∧
  ((T.clashes t = true ∧ e = .returned (.tuple #[.slice none 0 0, .bool false])) ∨
   (T.clashes t = false ∧ ∃ g, e = .returned (.tuple #[.slice (some ⟨g, 0, none⟩) 4 4, .bool true]) ∧ W.heap.size ≤ g ∧ w'.heap[g]? = some (.cells ((T.widths t).map (Value.int .i64)).toArray 3 (0, 0))))

theorem wd_four (t : List T.Nd) {v : Nat} (hv : v < 4) : ∃ z, (T.widths t)[v]? = some z := ⟨_, List.getElem?_eq_getElem (by rw [T.widths_len]; exact hv)⟩

set_option maxRecDepth 100000 in
set_option maxHeartbeats 2000000 in
theorem pwidths_any (t : List T.Nd) (n ct : Nat) (At : Option Addr) (W : World) (hT : StAt 5 NdR W At n t) (hok : T.okVars t) (hn : n ≤ 1000000) :
    Calls Tryz.prog 67 #[.slice At n ct] W (WdR t W) := by
  have HT := Lib.hid hT
  have Hok := Lib.hid hok
  have Hlen := Lib.hid hT.len
  clear hT hok
  have hmk := fun (W' : World) => run_make_n (P := Tryz.prog) 59 3 (.int .i64 0) 8 Tryz.underlying59 infoInt rfl .i64 .i64 4 (4 : Int) rfl (by omega) (by omega) W'
  go_enter Tryz.func67, Tryz.ntmps67
  go_wp2
  clear hmk
  go_loopg [11] (n + 1) (fun g i wr => ∃ (j : Nat), j ≤ n ∧ i = .int .i64 (j : Int) ∧ g + j = n + 1 ∧ Below W.heap.size W wr ∧ Hid (T.clashes (t.take j) = false) ∧ Hid (wr.heap[W.heap.size]? = some (.cells ((T.widths (t.take j)).map (Value.int .i64)).toArray 3 (0, 0))))
  case atStart => exact ⟨0, Nat.zero_le _, rfl, rfl, (Below.refl _ _).alloc (Nat.le_refl _) _, by show _ = _; rw [List.take_zero]; rfl, by show _ = _; rw [List.take_zero]; exact heap_alloc_new W _⟩
  case round =>
    obtain ⟨j, hj, rfl, hgk, hbw, HC, HW⟩ := hrel
    have Hgk := Lib.hid hgk; clear hgk
    by_cases hlt : j < n
    · obtain ⟨x, b, off, A, c, hx, rfl, hb, h0, h1, h2, h3, h4, hs, i0, i1⟩ := nd_cells HT.out hlt
      have k0 := (hbw.cell (p := ⟨b, off + j * 5, none⟩) hb).trans h0
      have k1 := (hbw.cell (p := ⟨b, off + j * 5 + 1, none⟩) hb).trans h1
      have k2 := (hbw.cell (p := ⟨b, off + j * 5 + 2, none⟩) hb).trans h2
      have k3 := (hbw.cell (p := ⟨b, off + j * 5 + 3, none⟩) hb).trans h3
      have k4 := (hbw.cell (p := ⟨b, off + j * 5 + 4, none⟩) hb).trans h4
      have Hx := Lib.hid hx
      have Htk := Lib.hid (show t.take (j + 1) = t.take j ++ [x] from K.take_succ_at hx)
      have Hokx := Lib.hid (Hok.out x (List.mem_of_getElem? hx))
      have hbs := hbw.size
      have hlt0 : W.heap.size < wr.heap.size := (Array.getElem?_eq_some_iff.1 HW.out).1
      obtain ⟨op, w, fl, args, imm⟩ := x
      dsimp only at k0 k1 k2 k3 k4 Hokx i0 i1
      clear h0 h1 h2 h3 h4 hs hx hb
      have Hbw := Lib.hid (hbw.alloc hbw.size (.cells #[.int .i64 op, .int .i64 w, .int .i64 fl, .slice A args.length c, .int .u32 imm] 61))
      have HW1 := Lib.hid (row_alloc HW.out (.cells #[.int .i64 op, .int .i64 w, .int .i64 fl, .slice A args.length c, .int .u32 imm] 61))
      have HbwR := Lib.hid hbw
      clear hbw
      by_cases ho : op = 33
      · have Ho := Lib.hid ho
        obtain ⟨m4, w1⟩ := Hokx.out.2 ho
        subst ho
        obtain ⟨v, rfl⟩ : ∃ v : Nat, imm = v := ⟨imm.toNat, by omega⟩
        have hv4 : v < 4 := by omega
        obtain ⟨z, hz⟩ := wd_four (t.take j) hv4
        have hcz : (wr.alloc (.cells #[.int .i64 33, .int .i64 w, .int .i64 fl, .slice A args.length c, .int .u32 (v : Int)] 61)).cell? ⟨W.heap.size, v, none⟩ = some (.int .i64 z) := by
          rw [cell_of_row _ _ _ _ _ (0, 0) HW1.out, List.getElem?_toArray, List.getElem?_map, hz]; rfl
        have Hz := Lib.hid hz
        have hfz : (wr.alloc (.cells #[.int .i64 33, .int .i64 w, .int .i64 fl, .slice A args.length c, .int .u32 (v : Int)] 61)).frozen? ⟨W.heap.size, v, none⟩ = false := by simp [World.frozen?, HW1.out]
        clear hz Ho
        by_cases hg : z = 0 ∨ z = w
        · have HC2 := Lib.hid (show T.clashes (t.take (j + 1)) = false from by
            rw [Htk.out]; exact T.clash_good HC.out (Hok.out.take j) rfl (by exact Int.natCast_nonneg v) (v := z) (by rw [Int.toNat_natCast]; exact Hz.out) hg)
          have HW2 := Lib.hid (show ((wr.setCell ⟨W.heap.size, v, none⟩ (.int .i64 w)).alloc (.cells #[.int .i64 33, .int .i64 w, .int .i64 fl, .slice A args.length c, .int .u32 (v : Int)] 61)).heap[W.heap.size]? = some (.cells ((T.widths (t.take (j + 1))).map (Value.int .i64)).toArray 3 (0, 0)) from by
            refine row_alloc ?_ _
            rw [heap_setCell_same _ _ _ _ _ _ HW.out, Htk.out, T.widths_snoc, if_pos rfl]
            simp [List.map_set])
          have Hb2 := Lib.hid (show Below W.heap.size W ((wr.setCell ⟨W.heap.size, v, none⟩ (.int .i64 w)).alloc (.cells #[.int .i64 33, .int .i64 w, .int .i64 fl, .slice A args.length c, .int .u32 (v : Int)] 61)) from (HbwR.out.setCell (p := ⟨W.heap.size, v, none⟩) (Nat.le_refl _) (.int .i64 w)).alloc (by simp; exact HbwR.out.size) _)
          rcases hg with rfl | rfl
          · have z1 : ((0 : Int) != 0) = false := rfl
            go_wp2
            go_roundg (gk - 1)
            case measure => have := Hgk.out; omega
            case rel => have := Hgk.out; exact ⟨j + 1, by omega, by go_num, by omega, Hb2.out, HC2.out, HW2.out⟩
          · have z1 : (z != 0) = true := by simp; omega
            have z2 : (z != z) = false := by simp
            go_wp2
            go_roundg (gk - 1)
            case measure => have := Hgk.out; omega
            case rel => have := Hgk.out; exact ⟨j + 1, by omega, by go_num, by omega, Hb2.out, HC2.out, HW2.out⟩
        · have z1 : (z != 0) = true := by simp; omega
          have z2 : (z != w) = true := by simp; omega
          have HC2 := Lib.hid (show T.clashes t = true from T.clashes_take (j := j + 1) (by
            rw [Htk.out]; exact T.clash_bad (Hok.out.take j) rfl (by exact Int.natCast_nonneg v) (v := z) (by rw [Int.toNat_natCast]; exact Hz.out) (fun h => hg (.inl h)) (fun h => hg (.inr h))))
          clear hg
          go_wp2
          go_ret2
          exact ⟨Hbw.out, .inl ⟨HC2.out, rfl⟩⟩
      · have q : (op != 33) = true := by simpa using ho
        have HC2 := Lib.hid (show T.clashes (t.take (j + 1)) = false from by rw [Htk.out]; exact T.clash_other HC.out ho)
        have HW2 := Lib.hid (show (wr.alloc (.cells #[.int .i64 op, .int .i64 w, .int .i64 fl, .slice A args.length c, .int .u32 imm] 61)).heap[W.heap.size]? = some (.cells ((T.widths (t.take (j + 1))).map (Value.int .i64)).toArray 3 (0, 0)) from by rw [Htk.out, T.widths_snoc, if_neg ho]; exact HW1.out)
        clear ho
        go_wp2
        go_roundg (gk - 1)
        case measure => have := Hgk.out; omega
        case rel => have := Hgk.out; exact ⟨j + 1, by omega, by go_num, by omega, Hbw.out, HC2.out, HW2.out⟩
    · obtain rfl : j = n := by omega
      have e : t.take j = t := List.take_of_length_le (by rw [Hlen.out]; exact Nat.le_refl _)
      rw [e] at HC HW
      go_wp2
      go_ret2
      exact ⟨hbw, .inr ⟨HC.out, W.heap.size, rfl, Nat.le_refl _, HW.out⟩⟩
end Go.Proofs.YtableoihgkmbjaaGreat
