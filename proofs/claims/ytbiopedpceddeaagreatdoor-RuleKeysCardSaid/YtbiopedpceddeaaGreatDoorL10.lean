/- Rules: which terms with flags are right (the program). -/
import Derived.Test.YtbiopedpceddeaaGreatDoorL09
set_option linter.unusedVariables false
set_option linter.unusedSimpArgs false
namespace Go.Proofs.YtbiopedpceddeaaGreatDoor
open Go.RowKit
set_option linter.unusedVariables false
set_option linter.unusedSimpArgs false

namespace R
/-- the flags of a list's nodes are ints -/
def flr (t : List T.Nd) : Prop := ∀ y ∈ t, -9223372036854775808 ≤ y.fl ∧ y.fl ≤ 9223372036854775807
def tnodeTo (t : List T.Nd) (j : Nat) : Prop := ∀ i x, i < j → t[i]? = some x → tnode i x = true
theorem tnode_all {t : List T.Nd} : (t.zipIdx.all fun p => tnode p.2 p.1) = true ↔ ∀ i x, t[i]? = some x → tnode i x = true := by
  rw [List.all_eq_true]
  constructor
  · intro h i x hx
    exact h (x, i) (List.mem_zipIdx_iff_getElem?.2 hx)
  · rintro h ⟨x, i⟩ hp
    exact h i x (List.mem_zipIdx_iff_getElem?.1 hp)
theorem fvalid_eq (t : List T.Nd) : fvalid t = if t.length < 1 ∨ 300 < t.length then 3 else if (t.zipIdx.all fun p => tnode p.2 p.1) = false then 1 else if (t.all (T.typed t)) = false then 6 else if T.clashes t = true then 7 else 0 := by
  unfold fvalid
  by_cases h : t.length < 1 ∨ 300 < t.length
  · rw [if_pos h, if_pos h]
  rw [if_neg h, if_neg h]
  unfold T.valid
  rw [if_neg h]
  have e : (t.zipIdx.all fun p => tnode p.2 p.1) = ((t.all fun x => flOk x.op x.fl) && (t.zipIdx.all fun p => T.shaped false p.2 p.1)) := by
    rw [Bool.eq_iff_iff, Bool.and_eq_true, tnode_all, T.shaped_all, List.all_eq_true]
    constructor
    · intro h'
      refine ⟨fun x hx => ?_, fun i x hx => ?_⟩
      · obtain ⟨i, hi⟩ := List.mem_iff_getElem?.1 hx
        have := h' i x hi
        unfold tnode at this
        exact (Bool.and_eq_true_iff.1 this).1
      · have := h' i x hx
        unfold tnode at this
        exact (Bool.and_eq_true_iff.1 this).2
    · rintro ⟨h1, h2⟩ i x hx
      unfold tnode
      rw [h1 x (List.mem_of_getElem? hx), h2 i x hx]; rfl
  rw [e]
  cases (t.all fun x => flOk x.op x.fl)
  · rw [if_pos rfl, Bool.false_and, if_pos rfl]
  · rw [if_neg (by decide), Bool.true_and]
theorem tnode_bad_at {t : List T.Nd} {j : Nat} {x : T.Nd} (hx : t[j]? = some x) (h : tnode j x = false) : (t.zipIdx.all fun p => tnode p.2 p.1) = false := by
  rw [Bool.eq_false_iff]
  intro h'
  rw [tnode_all.1 h' j x hx] at h
  cases h
theorem tnodeTo.next {t : List T.Nd} {j : Nat} {x : T.Nd} (h : tnodeTo t j) (hx : t[j]? = some x) (hs : tnode j x = true) : tnodeTo t (j + 1) := by
  intro i y hi hy
  by_cases e : i = j
  · subst e; rw [hx] at hy; cases hy; exact hs
  · exact h i y (by omega) hy
theorem tnodeTo.all {t : List T.Nd} {j : Nat} (h : tnodeTo t j) (hj : t.length ≤ j) : ∀ i x, t[i]? = some x → tnode i x = true := fun i x hx => h i x (by have := (List.getElem?_eq_some_iff.1 hx).1; omega) hx
theorem tnode_shaped {i : Nat} {x : T.Nd} (h : tnode i x = true) : T.shaped false i x = true := by
  unfold tnode at h; exact (Bool.and_eq_true_iff.1 h).2
end R

set_option maxRecDepth 100000 in
set_option maxHeartbeats 4000000 in
theorem gValidateFlagged_any (t : List T.Nd) (n ct : Nat) (At : Option Addr) (W : World) (hT : StAt 5 NdR W At n t) (hf : R.flr t) :
    Calls Tryz.prog 44 #[.slice At n ct] W fun e w' => e = .returned (.int .i64 (R.fvalid t)) ∧ Below W.heap.size W w' := by
  have HT := Lib.hid hT
  have hle := hT.le
  have hlen := hT.len
  have Him := Lib.hid (nd_imm hT)
  have Hf := Lib.hid hf
  clear hT hf
  by_cases hsz : t.length < 1 ∨ 300 < t.length
  · have hv : R.fvalid t = 3 := by unfold R.fvalid; rw [if_pos hsz]
    rw [hv]
    rw [hlen] at hsz
    clear hv hlen
    by_cases h0 : n < 1
    · have q0 : decide ((n : Int) < 1) = true := by simp; omega
      have q1 : decide (300 < (n : Int)) = false := by simp; omega
      clear hsz
      go_enter Tryz.func44, Tryz.ntmps44
      go_wp2
      go_ret
      exact ⟨rfl, Below.refl _ _⟩
    · have q0 : decide ((n : Int) < 1) = false := by simp; omega
      have q1 : decide (300 < (n : Int)) = true := by simp; omega
      clear hsz
      go_enter Tryz.func44, Tryz.ntmps44
      go_wp2
      go_ret
      exact ⟨rfl, Below.refl _ _⟩
  · have Hv := Lib.hid (show R.fvalid t = if (t.zipIdx.all fun p => R.tnode p.2 p.1) = false then 1 else if (t.all (T.typed t)) = false then 6 else if T.clashes t = true then 7 else 0 from by rw [R.fvalid_eq, if_neg hsz])
    rw [hlen] at hsz
    have q0 : decide ((n : Int) < 1) = false := by simp; omega
    have q1 : decide (300 < (n : Int)) = false := by simp; omega
    have hn : n ≤ 300 := by omega
    have Hlen := Lib.hid hlen
    clear hsz hlen
    go_enter Tryz.func44, Tryz.ntmps44
    go_wp2
    try simp only [q0, q1]
    clear q0 q1
    go_loopg [19] (n + 1) (fun g i wr => ∃ (j : Nat), j ≤ n ∧ i = .int .i64 (j : Int) ∧ g + j = n + 1 ∧ Below W.heap.size W wr ∧ Hid (R.tnodeTo t j))
    case atStart => exact ⟨0, Nat.zero_le _, rfl, rfl, Below.refl _ _, fun i x hi => by omega⟩
    case round =>
      obtain ⟨j, hj, rfl, hgk, hbw, HS⟩ := hrel
      have Hgk := Lib.hid hgk; clear hgk
      by_cases hlt : j < n
      · obtain ⟨x, b, off, A, c, hx, rfl, hb, h0, h1, h2, h3, h4, hs, i0, i1⟩ := nd_cells HT.out hlt
        have k0 := (hbw.cell (p := ⟨b, off + j * 5, none⟩) hb).trans h0
        have k1 := (hbw.cell (p := ⟨b, off + j * 5 + 1, none⟩) hb).trans h1
        have k2 := (hbw.cell (p := ⟨b, off + j * 5 + 2, none⟩) hb).trans h2
        have k3 := (hbw.cell (p := ⟨b, off + j * 5 + 3, none⟩) hb).trans h3
        have k4 := (hbw.cell (p := ⟨b, off + j * 5 + 4, none⟩) hb).trans h4
        have Hx := Lib.hid hx
        have Hbw := Lib.hid (hbw.alloc hbw.size (.cells #[.int .i64 x.op, .int .i64 x.w, .int .i64 x.fl, .slice A x.args.length c, .int .u32 x.imm] 62))
        have Hc := Lib.hid (gTermNode_any j x A c (wr.alloc (.cells #[.int .i64 x.op, .int .i64 x.w, .int .i64 x.fl, .slice A x.args.length c, .int .u32 x.imm] 62)) (by
          have := hs.below (monoInt _) hbw
          exact this.below (monoInt _) ((Below.refl _ _).alloc (Nat.le_refl _) _)) (Hf.out x (List.mem_of_getElem? hx)) ⟨i0, i1⟩)
        unfold ndV at Hc
        clear h0 h1 h2 h3 h4 hs hx hb hbw
        cases hsh : R.tnode j x
        · rw [hsh] at Hc
          have Hsh := Lib.hid hsh
          clear hsh
          go_wp2_with fail
          refine Hc.out.mono ?_
          rintro e w2 ⟨rfl, hb2⟩
          have Hb2 := Lib.hid (Hbw.out.trans (hb2.mono Hbw.out.size))
          clear hb2 k0 k1 k2 k3 k4
          go_wp2
          go_ret
          exact ⟨ret_int (by rw [Hv.out, R.tnode_bad_at Hx.out Hsh.out]; rfl), Hb2.out⟩
        · rw [hsh] at Hc
          have Hsh := Lib.hid hsh
          clear hsh
          go_wp2_with fail
          refine Hc.out.mono ?_
          rintro e w2 ⟨rfl, hb2⟩
          have Hb2 := Lib.hid (Hbw.out.trans (hb2.mono Hbw.out.size))
          clear hb2 k0 k1 k2 k3 k4
          go_wp2
          go_roundg (gk - 1)
          case measure => have := Hgk.out; omega
          case rel => have := Hgk.out; exact ⟨j + 1, by omega, by go_num, by omega, Hb2.out, HS.out.next Hx.out Hsh.out⟩
      · obtain rfl : j = n := by omega
        have hall := HS.out.all (by rw [Hlen.out]; exact Nat.le_refl _)
        have Hall := Lib.hid (fun i x hx => R.tnode_shaped (hall i x hx))
        have Hv2 := Lib.hid (show R.fvalid t = if (t.all (T.typed t)) = false then 6 else if T.clashes t = true then 7 else 0 from by rw [Hv.out, R.tnode_all.2 hall]; rfl)
        have Hbw := Lib.hid hbw
        have Hok := Lib.hid (T.okVars_of Hall.out Him.out)
        have Hat := Lib.hid (gallTyped_any t j ct At wr (HT.out.below monoNd hbw) (fun x hx _ _ => by
          obtain ⟨i, hi⟩ := List.mem_iff_getElem?.1 hx
          exact (T.shaped_args (Hall.out i x hi)).1) (fun x hx a ha => by
          obtain ⟨i, hi⟩ := List.mem_iff_getElem?.1 hx
          obtain ⟨_, _, _, _, _, g3⟩ := T.shaped_args (Hall.out i x hi)
          have := g3 a ha
          have := (List.getElem?_eq_some_iff.1 hi).1
          have := Hlen.out
          omega))
        clear hall hbw HS Hall Hv Hf Him
        cases hty : t.all (T.typed t)
        · rw [hty] at Hat Hv2
          clear hty
          go_wp2_with fail
          (with_reducible refine Hat.out.mono ?_)
          rintro e w2 ⟨rfl, hb2⟩
          have Hb2 := Lib.hid (Hbw.out.trans (hb2.mono Hbw.out.size))
          clear hb2
          go_wp2
          go_ret
          exact ⟨ret_int (by rw [Hv2.out]; rfl), Hb2.out⟩
        rw [hty] at Hat Hv2
        clear hty
        go_wp2_with fail
        (with_reducible refine Hat.out.mono ?_)
        rintro e w2 ⟨rfl, hb2⟩
        have Hb2 := Lib.hid (Hbw.out.trans (hb2.mono Hbw.out.size))
        clear hb2 Hat Hbw
        have hs2 := Hb2.out.size
        go_wp2
        go_loopg [34] (j + 1) (fun g i wr => ∃ (p : Nat), p ≤ j ∧ i = .int .i64 (p : Int) ∧ g + p = j + 1 ∧ Below W.heap.size W wr ∧ Hid (T.clashes (t.take p) = false) ∧ Hid (wr.heap[w2.heap.size]? = some (.cells ((T.widths (t.take p)).map (Value.int .i64)).toArray 155 (0, 0))))
        case atStart => exact ⟨0, Nat.zero_le _, rfl, rfl, Hb2.out.alloc Hb2.out.size _, by show _ = _; rw [List.take_zero]; rfl, by show _ = _; rw [List.take_zero]; exact heap_alloc_new w2 _⟩
        case round =>
          clear Hb2
          obtain ⟨p, hp, rfl, hgk, hbw, HC, HW⟩ := hrel
          have Hgk2 := Lib.hid hgk; clear hgk
          by_cases hlt : p < j
          · obtain ⟨x, b, off, A, c, hx, rfl, hb, h0, h1, h2, h3, h4, hs, i0, i1⟩ := nd_cells HT.out hlt
            have k0 := (hbw.cell (p := ⟨b, off + p * 5, none⟩) hb).trans h0
            have k1 := (hbw.cell (p := ⟨b, off + p * 5 + 1, none⟩) hb).trans h1
            have k2 := (hbw.cell (p := ⟨b, off + p * 5 + 2, none⟩) hb).trans h2
            have k3 := (hbw.cell (p := ⟨b, off + p * 5 + 3, none⟩) hb).trans h3
            have k4 := (hbw.cell (p := ⟨b, off + p * 5 + 4, none⟩) hb).trans h4
            have Hx := Lib.hid hx
            have Htk := Lib.hid (show t.take (p + 1) = t.take p ++ [x] from K.take_succ_at hx)
            have Hokx := Lib.hid (Hok.out x (List.mem_of_getElem? hx))
            have hbs := hbw.size
            have hlt0 : w2.heap.size < wr.heap.size := (Array.getElem?_eq_some_iff.1 HW.out).1
            obtain ⟨op, w, fl, args, imm⟩ := x
            dsimp only at k0 k1 k2 k3 k4 Hokx i0 i1
            clear h0 h1 h2 h3 h4 hs hx hb
            have Hbw := Lib.hid (hbw.alloc hbw.size (.cells #[.int .i64 op, .int .i64 w, .int .i64 fl, .slice A args.length c, .int .u32 imm] 62))
            have HW1 := Lib.hid (row_alloc HW.out (.cells #[.int .i64 op, .int .i64 w, .int .i64 fl, .slice A args.length c, .int .u32 imm] 62))
            have HbwR := Lib.hid hbw
            clear hbw
            by_cases ho : op = 33
            · have Ho := Lib.hid ho
              obtain ⟨m4, w1⟩ := Hokx.out.2 ho
              subst ho
              obtain ⟨v, rfl⟩ : ∃ v : Nat, imm = v := ⟨imm.toNat, by omega⟩
              have hv4 : v < 4 := by omega
              obtain ⟨z, hz⟩ := wd_four (t.take p) hv4
              have hcz : (wr.alloc (.cells #[.int .i64 33, .int .i64 w, .int .i64 fl, .slice A args.length c, .int .u32 (v : Int)] 62)).cell? ⟨w2.heap.size, v, none⟩ = some (.int .i64 z) := by
                rw [cell_of_row _ _ _ _ _ (0, 0) HW1.out, List.getElem?_toArray, List.getElem?_map, hz]; rfl
              have Hz := Lib.hid hz
              have hfz : (wr.alloc (.cells #[.int .i64 33, .int .i64 w, .int .i64 fl, .slice A args.length c, .int .u32 (v : Int)] 62)).frozen? ⟨w2.heap.size, v, none⟩ = false := by simp [World.frozen?, HW1.out]
              clear hz Ho
              by_cases hg : z = 0 ∨ z = w
              · have HC2 := Lib.hid (show T.clashes (t.take (p + 1)) = false from by
                  rw [Htk.out]; exact T.clash_good HC.out (Hok.out.take p) rfl (by exact Int.natCast_nonneg v) (v := z) (by rw [Int.toNat_natCast]; exact Hz.out) hg)
                have HW2 := Lib.hid (show ((wr.setCell ⟨w2.heap.size, v, none⟩ (.int .i64 w)).alloc (.cells #[.int .i64 33, .int .i64 w, .int .i64 fl, .slice A args.length c, .int .u32 (v : Int)] 62)).heap[w2.heap.size]? = some (.cells ((T.widths (t.take (p + 1))).map (Value.int .i64)).toArray 155 (0, 0)) from by
                  refine row_alloc ?_ _
                  rw [heap_setCell_same _ _ _ _ _ _ HW.out, Htk.out, T.widths_snoc, if_pos rfl]
                  simp [List.map_set])
                have Hb2 := Lib.hid (show Below W.heap.size W ((wr.setCell ⟨w2.heap.size, v, none⟩ (.int .i64 w)).alloc (.cells #[.int .i64 33, .int .i64 w, .int .i64 fl, .slice A args.length c, .int .u32 (v : Int)] 62)) from (HbwR.out.setCell (p := ⟨w2.heap.size, v, none⟩) hs2 (.int .i64 w)).alloc (by simp; exact HbwR.out.size) _)
                rcases hg with rfl | rfl
                · have z1 : ((0 : Int) != 0) = false := rfl
                  go_wp2
                  go_roundg (gk - 1)
                  case measure => have := Hgk2.out; omega
                  case rel => have := Hgk2.out; exact ⟨p + 1, by omega, by go_num, by omega, Hb2.out, HC2.out, HW2.out⟩
                · have z1 : (z != 0) = true := by simp; omega
                  have z2 : (z != z) = false := by simp
                  go_wp2
                  go_roundg (gk - 1)
                  case measure => have := Hgk2.out; omega
                  case rel => have := Hgk2.out; exact ⟨p + 1, by omega, by go_num, by omega, Hb2.out, HC2.out, HW2.out⟩
              · have z1 : (z != 0) = true := by simp; omega
                have z2 : (z != w) = true := by simp; omega
                have HC2 := Lib.hid (show T.clashes t = true from T.clashes_take (j := p + 1) (by
                  rw [Htk.out]; exact T.clash_bad (Hok.out.take p) rfl (by exact Int.natCast_nonneg v) (v := z) (by rw [Int.toNat_natCast]; exact Hz.out) (fun h => hg (.inl h)) (fun h => hg (.inr h))))
                clear hg
                go_wp2
                go_ret
                exact ⟨ret_int (by rw [Hv2.out, HC2.out]; rfl), Hbw.out⟩
            · have q : (op != 33) = true := by simpa using ho
              have HC2 := Lib.hid (show T.clashes (t.take (p + 1)) = false from by rw [Htk.out]; exact T.clash_other HC.out ho)
              have HW2 := Lib.hid (show (wr.alloc (.cells #[.int .i64 op, .int .i64 w, .int .i64 fl, .slice A args.length c, .int .u32 imm] 62)).heap[w2.heap.size]? = some (.cells ((T.widths (t.take (p + 1))).map (Value.int .i64)).toArray 155 (0, 0)) from by rw [Htk.out, T.widths_snoc, if_neg ho]; exact HW1.out)
              clear ho
              go_wp2
              go_roundg (gk - 1)
              case measure => have := Hgk2.out; omega
              case rel => have := Hgk2.out; exact ⟨p + 1, by omega, by go_num, by omega, Hbw.out, HC2.out, HW2.out⟩
          · obtain rfl : p = j := by omega
            have e : t.take p = t := List.take_of_length_le (by rw [Hlen.out]; exact Nat.le_refl _)
            rw [e] at HC HW
            go_wp2
            go_ret
            exact ⟨ret_int (by rw [Hv2.out, HC.out]; rfl), hbw⟩
end Go.Proofs.YtbiopedpceddeaaGreatDoor
