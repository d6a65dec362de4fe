/- Walks of the reference's layer of terms: the widths of the variables. -/
import Derived.Test.YtableoihgkmbjaaGreatT10
namespace Go.Proofs.YtableoihgkmbjaaGreat
open Go.RowKit
set_option linter.unusedVariables false
set_option linter.unusedSimpArgs false

theorem rValidate_any (t : List T.Nd) (n ct : Nat) (At : Option Addr) (W : World) (hT : StAt 5 NdR W At n t) :
    Calls Tryz.prog 64 #[.slice At n ct] W fun e w' => e = .returned (.int .i64 (T.valid true t)) ∧ Below W.heap.size W w' := by
  have HC := Lib.hid (rChecked_any true t n ct At W hT)
  clear hT
  obtain ⟨v, hv⟩ : ∃ v, v = T.valid true t := ⟨_, rfl⟩
  rw [← hv] at HC ⊢
  clear hv
  go_enter Tryz.func64, Tryz.ntmps64
  go_wp2_with fail
  refine HC.out.mono ?_
  rintro e w1 ⟨rfl, hb1⟩
  have Hb1 := Lib.hid hb1
  clear hb1
  go_wp2
  go_ret
  exact ⟨rfl, Hb1.out⟩

set_option maxRecDepth 100000 in
set_option maxHeartbeats 2000000 in
theorem rwidths_any (t : List T.Nd) (n ct : Nat) (At : Option Addr) (W : World) (hT : StAt 5 NdR W At n t) (hok : T.okVars t) (hn : n ≤ 1000000) :
    Calls Tryz.prog 65 #[.slice At n ct] W fun e w' => ∃ g, e = .returned (.slice (some ⟨g, 0, none⟩) 4 4) ∧ W.heap.size ≤ g ∧ w'.heap[g]? = some (.cells ((T.widths t).map (Value.int .i64)).toArray 3 (0, 0)) ∧ Below W.heap.size W w' := by
  have HT := Lib.hid hT
  have Hok := Lib.hid hok
  have Hlen := Lib.hid hT.len
  clear hT hok
  have hmk := fun (W' : World) => run_make_n (P := Tryz.prog) 59 3 (.int .i64 0) 8 Tryz.underlying59 infoInt rfl .i64 .i64 4 (4 : Int) rfl (by omega) (by omega) W'
  go_enter Tryz.func65, Tryz.ntmps65
  go_wp2
  clear hmk
  go_loopg [4] (n + 1) (fun g i wr => ∃ (j : Nat), j ≤ n ∧ i = .int .i64 (j : Int) ∧ g + j = n + 1 ∧ Below W.heap.size W wr ∧ Hid (wr.heap[W.heap.size]? = some (.cells ((T.widths (t.take j)).map (Value.int .i64)).toArray 3 (0, 0))))
  case atStart => exact ⟨0, Nat.zero_le _, rfl, rfl, (Below.refl _ _).alloc (Nat.le_refl _) _, by show _ = _; rw [List.take_zero]; exact heap_alloc_new W _⟩
  case round =>
    obtain ⟨j, hj, rfl, hgk, hbw, HW⟩ := hrel
    have Hgk := Lib.hid hgk; clear hgk
    by_cases hlt : j < n
    · obtain ⟨x, b, off, A, c, hx, rfl, hb, h0, h1, h2, h3, h4, hs, i0, i1⟩ := nd_cells HT.out hlt
      have k0 := (hbw.cell (p := ⟨b, off + j * 5, none⟩) hb).trans h0
      have k1 := (hbw.cell (p := ⟨b, off + j * 5 + 1, none⟩) hb).trans h1
      have k4 := (hbw.cell (p := ⟨b, off + j * 5 + 4, none⟩) hb).trans h4
      have Htk := Lib.hid (show t.take (j + 1) = t.take j ++ [x] from K.take_succ_at hx)
      have Hokx := Lib.hid (Hok.out x (List.mem_of_getElem? hx))
      obtain ⟨op, w, fl, args, imm⟩ := x
      dsimp only at k0 k1 k4 Hokx i0 i1
      have Hbw := Lib.hid hbw
      have hne : b ≠ W.heap.size := by omega
      clear h0 h1 h2 h3 h4 hs hx hbw
      by_cases ho : op = 33
      · obtain ⟨m4, w1⟩ := Hokx.out.2 ho
        subst ho
        obtain ⟨v, rfl⟩ : ∃ v : Nat, imm = v := ⟨imm.toNat, by omega⟩
        have hv4 : v < 4 := by omega
        obtain ⟨z, hz⟩ := wd_four (t.take j) hv4
        have hcz : wr.cell? ⟨W.heap.size, v, none⟩ = some (.int .i64 z) := by
          rw [cell_of_row _ _ _ _ _ (0, 0) HW.out, List.getElem?_toArray, List.getElem?_map, hz]; rfl
        have hfz : wr.frozen? ⟨W.heap.size, v, none⟩ = false := by simp [World.frozen?, HW.out]
        have HW2 := Lib.hid (show (wr.setCell ⟨W.heap.size, v, none⟩ (.int .i64 w)).heap[W.heap.size]? = some (.cells ((T.widths (t.take (j + 1))).map (Value.int .i64)).toArray 3 (0, 0)) from by
          rw [heap_setCell_same _ _ _ _ _ _ HW.out, Htk.out, T.widths_snoc, if_pos rfl]
          simp [List.map_set])
        have Hb2 := Lib.hid (Hbw.out.setCell (p := ⟨W.heap.size, v, none⟩) (Nat.le_refl _) (.int .i64 w))
        clear hz
        go_wp2
        go_region
        go_wp2
        go_roundg (gk - 1)
        case measure => have := Hgk.out; omega
        case rel => have := Hgk.out; exact ⟨j + 1, by omega, by go_num, by omega, Hb2.out.drew, HW2.out⟩
      · have q : (op == 33) = false := by simpa using ho
        have HW2 := Lib.hid (show wr.heap[W.heap.size]? = some (.cells ((T.widths (t.take (j + 1))).map (Value.int .i64)).toArray 3 (0, 0)) from by rw [Htk.out, T.widths_snoc, if_neg ho]; exact HW.out)
        clear ho
        go_wp2
        go_roundg (gk - 1)
        case measure => have := Hgk.out; omega
        case rel => have := Hgk.out; exact ⟨j + 1, by omega, by go_num, by omega, Hbw.out, HW2.out⟩
    · obtain rfl : j = n := by omega
      have e : t.take j = t := List.take_of_length_le (by rw [Hlen.out]; exact Nat.le_refl _)
      rw [e] at HW
      go_wp2
      go_ret
      exact ⟨W.heap.size, rfl, Nat.le_refl _, HW.out, hbw⟩

set_option maxRecDepth 100000 in
set_option maxHeartbeats 1000000 in
theorem rWidths_any (t : List T.Nd) (n ct : Nat) (At : Option Addr) (W : World) (hT : StAt 5 NdR W At n t) : Calls Tryz.prog 45 #[.slice At n ct] W (WsR t W) := by
  have HV := Lib.hid (rValidate_any t n ct At W hT)
  have HT := Lib.hid hT
  have hlen := hT.len
  clear hT
  by_cases hv : T.valid true t = 0
  · obtain ⟨v1, v2, v3, v4, v5⟩ := valid_ok hv
    rw [hv] at HV
    have HW := Lib.hid (fun W' (h : Below W.heap.size W W') => rwidths_any t n ct At W' (HT.out.below monoNd h) (T.okVars_of v3 (nd_imm HT.out)) (by omega))
    have Hv := Lib.hid hv
    clear hv v1 v2 v3 v4 v5 hlen
    go_enter Tryz.func45, Tryz.ntmps45
    go_wp2_with fail
    refine HV.out.mono ?_
    rintro e w1 ⟨rfl, hb1⟩
    have Hb1 := Lib.hid hb1
    clear hb1
    go_wp2_with fail
    refine (HW.out _ Hb1.out).mono ?_
    rintro e w2 ⟨g, rfl, hg, hrow, hb2⟩
    have Hb2 := Lib.hid (Hb1.out.trans (hb2.mono Hb1.out.size))
    have Hg := Lib.hid (Nat.le_trans Hb1.out.size hg)
    have Hrow := Lib.hid hrow
    clear hb2 hg hrow
    go_wp2
    go_ret2
    exact ⟨Hb2.out, .inr ⟨Hv.out, g, rfl, Hg.out, Hrow.out⟩⟩
  · have Hv := Lib.hid hv
    obtain ⟨er, her⟩ : ∃ er, er = T.valid true t := ⟨_, rfl⟩
    rw [← her] at HV hv
    have hvb : (er != 0) = true := by simpa using hv
    have Her := Lib.hid her
    clear her hlen
    go_enter Tryz.func45, Tryz.ntmps45
    go_wp2_with fail
    refine HV.out.mono ?_
    rintro e w1 ⟨rfl, hb1⟩
    have Hb1 := Lib.hid hb1
    clear hb1
    go_wp2
    go_ret2
    exact ⟨Hb1.out, .inl ⟨Hv.out, by rw [← Her.out]; rfl⟩⟩
end Go.Proofs.YtableoihgkmbjaaGreat
