/- Walks of the program's layer of terms: which lists of nodes are terms. -/
import Derived.Test.YtcmlmjbpdaecbaaH22
set_option linter.unusedVariables false
set_option linter.unusedSimpArgs false
namespace Go.Proofs.Ytcmlmjbpdaecbaa
open Go.RowKit
set_option linter.unusedVariables false
set_option linter.unusedSimpArgs false

theorem nd_imm {W : World} {At : Option Addr} {n : Nat} {t : List T.Nd} (h : StAt 5 NdR W At n t) : ∀ y ∈ t, 0 ≤ y.imm := fun y hy => by
  obtain ⟨i, hi⟩ := List.mem_iff_getElem?.1 hy
  have hl : i < n := by have := (List.getElem?_eq_some_iff.1 hi).1; rw [h.len] at this; exact this
  obtain ⟨x, _, _, _, _, hx, _, _, _, _, _, _, _, _, h0, _⟩ := nd_cells h hl
  rw [hi] at hx
  cases hx
  exact h0

set_option maxRecDepth 100000 in
set_option maxHeartbeats 4000000 in
theorem pValidate_any (t : List T.Nd) (n ct : Nat) (At : Option Addr) (W : World) (hT : StAt 5 NdR W At n t) :
    Calls Try.prog 28 #[.slice At n ct] W fun e w' => e = .returned (.int .i64 (T.valid true t)) ∧ Below W.heap.size W w' := by
  have HT := Lib.hid hT
  have hle := hT.le
  have hlen := hT.len
  have Him := Lib.hid (nd_imm hT)
  clear hT
  by_cases hsz : t.length < 1 ∨ 300 < t.length
  · have hv : T.valid true t = 3 := by unfold T.valid; rw [if_pos hsz]
    rw [hv]
    rw [hlen] at hsz
    clear hv hlen
    by_cases h0 : n < 1
    · have q0 : decide ((n : Int) < 1) = true := by simp; omega
      clear hsz
      go_enter Try.func28, Try.ntmps28
      go_wp2
      go_ret
      exact ⟨rfl, Below.refl _ _⟩
    · have q0 : decide ((n : Int) < 1) = false := by simp; omega
      have q1 : decide (300 < (n : Int)) = true := by simp; omega
      clear hsz
      go_enter Try.func28, Try.ntmps28
      go_wp2
      go_ret
      exact ⟨rfl, Below.refl _ _⟩
  · have Hv := Lib.hid (show T.valid true t = if (t.zipIdx.all fun p => T.shaped true p.2 p.1) = false then 1 else if (t.all (T.typed t)) = false then 6 else if T.clashes t = true then 7 else 0 from by unfold T.valid; rw [if_neg hsz])
    rw [hlen] at hsz
    have q0 : decide ((n : Int) < 1) = false := by simp; omega
    have q1 : decide (300 < (n : Int)) = false := by simp; omega
    have hn : n ≤ 300 := by omega
    have Hlen := Lib.hid hlen
    clear hsz hlen
    go_enter Try.func28, Try.ntmps28
    go_wp2
    try simp only [q0, q1]
    clear q0 q1
    go_loopg [19] (n + 1) (fun g i wr => ∃ (j : Nat), j ≤ n ∧ i = .int .i64 (j : Int) ∧ g + j = n + 1 ∧ Below W.heap.size W wr ∧ Hid (T.shapedTo true t j))
    case atStart => exact ⟨0, Nat.zero_le _, rfl, rfl, Below.refl _ _, fun i x hi => by omega⟩
    case round =>
      obtain ⟨j, hj, rfl, hgk, hbw, HS⟩ := hrel
      have Hgk := Lib.hid hgk; clear hgk
      by_cases hlt : j < n
      · obtain ⟨x, b, off, A, c, hx, rfl, hb, h0, h1, h2, h3, h4, hs, i0, i1⟩ := nd_cells HT.out hlt
        have k0 := (hbw.cell (p := ⟨b, off + j * 5, none⟩) hb).trans h0
        have k1 := (hbw.cell (p := ⟨b, off + j * 5 + 1, none⟩) hb).trans h1
        have k2 := (hbw.cell (p := ⟨b, off + j * 5 + 2, none⟩) hb).trans h2
        have k3 := (hbw.cell (p := ⟨b, off + j * 5 + 3, none⟩) hb).trans h3
        have k4 := (hbw.cell (p := ⟨b, off + j * 5 + 4, none⟩) hb).trans h4
        have Hx := Lib.hid hx
        have Hbw := Lib.hid (hbw.alloc hbw.size (.cells #[.int .i64 x.op, .int .i64 x.w, .int .i64 x.fl, .slice A x.args.length c, .int .u32 x.imm] 52))
        have Hc := Lib.hid (pisShaped_any j x A c (wr.alloc (.cells #[.int .i64 x.op, .int .i64 x.w, .int .i64 x.fl, .slice A x.args.length c, .int .u32 x.imm] 52)) (by
          have := hs.below (monoInt _) hbw
          exact this.below (monoInt _) ((Below.refl _ _).alloc (Nat.le_refl _) _)))
        unfold ndV at Hc
        clear h0 h1 h2 h3 h4 hs hx hb hbw
        cases hsh : T.shaped true j x
        · rw [hsh] at Hc
          have Hsh := Lib.hid hsh
          clear hsh
          go_wp2_with fail
          refine Hc.out.mono ?_
          rintro e w2 ⟨rfl, hb2⟩
          have Hb2 := Lib.hid (Hbw.out.trans (hb2.mono Hbw.out.size))
          clear hb2 k0 k1 k2 k3 k4
          go_wp2
          go_ret
          exact ⟨ret_int (by rw [Hv.out, T.shaped_bad Hx.out Hsh.out]; rfl), Hb2.out⟩
        · rw [hsh] at Hc
          have Hsh := Lib.hid hsh
          clear hsh
          go_wp2_with fail
          refine Hc.out.mono ?_
          rintro e w2 ⟨rfl, hb2⟩
          have Hb2 := Lib.hid (Hbw.out.trans (hb2.mono Hbw.out.size))
          clear hb2 k0 k1 k2 k3 k4
          go_wp2
          go_roundg (gk - 1)
          case measure => have := Hgk.out; omega
          case rel => have := Hgk.out; exact ⟨j + 1, by omega, by go_num, by omega, Hb2.out, HS.out.next Hx.out Hsh.out⟩
      · obtain rfl : j = n := by omega
        have hall := HS.out.all (by rw [Hlen.out]; exact Nat.le_refl _)
        have Hall := Lib.hid (T.shaped_all.1 hall)
        have Hv2 := Lib.hid (show T.valid true t = if (t.all (T.typed t)) = false then 6 else if T.clashes t = true then 7 else 0 from by rw [Hv.out, hall]; rfl)
        have Hbw := Lib.hid hbw
        clear hall hbw HS
        go_wp2
        go_loopg [31] (j + 1) (fun g i wr => ∃ (p : Nat), p ≤ j ∧ i = .int .i64 (p : Int) ∧ g + p = j + 1 ∧ Below W.heap.size W wr ∧ Hid (T.typedTo t p))
        case atStart => exact ⟨0, Nat.zero_le _, rfl, rfl, Hbw.out, fun i x hi => by omega⟩
        case round =>
          clear Hbw
          obtain ⟨p, hp, rfl, hgk, hbw, HS⟩ := hrel
          have Hgk2 := Lib.hid hgk; clear hgk
          by_cases hlt : p < j
          · obtain ⟨x, b, off, A, c, hx, rfl, hb, h0, h1, h2, h3, h4, hs, i0, i1⟩ := nd_cells HT.out hlt
            have k0 := (hbw.cell (p := ⟨b, off + p * 5, none⟩) hb).trans h0
            have k1 := (hbw.cell (p := ⟨b, off + p * 5 + 1, none⟩) hb).trans h1
            have k2 := (hbw.cell (p := ⟨b, off + p * 5 + 2, none⟩) hb).trans h2
            have k3 := (hbw.cell (p := ⟨b, off + p * 5 + 3, none⟩) hb).trans h3
            have k4 := (hbw.cell (p := ⟨b, off + p * 5 + 4, none⟩) hb).trans h4
            have Hx := Lib.hid hx
            obtain ⟨g1, g2, _, _, _, g3⟩ := T.shaped_args (Hall.out p x hx)
            have Hbw := Lib.hid (hbw.alloc hbw.size (.cells #[.int .i64 x.op, .int .i64 x.w, .int .i64 x.fl, .slice A x.args.length c, .int .u32 x.imm] 52))
            have Hc := Lib.hid (pisTyped_any t x j ct (some ⟨b, off, none⟩) A c (wr.alloc (.cells #[.int .i64 x.op, .int .i64 x.w, .int .i64 x.fl, .slice A x.args.length c, .int .u32 x.imm] 52)) (HT.out.below monoNd Hbw.out) (hs.below (monoInt _) Hbw.out) g1 (fun a ha => by have := g3 a ha; omega))
            unfold ndV at Hc
            clear h0 h1 h2 h3 h4 hs hx hb hbw g1 g2 g3
            cases hsh : T.typed t x
            · rw [hsh] at Hc
              have Hsh := Lib.hid hsh
              clear hsh
              go_wp2_with fail
              refine Hc.out.mono ?_
              rintro e w2 ⟨rfl, hb2⟩
              have Hb2 := Lib.hid (Hbw.out.trans (hb2.mono Hbw.out.size))
              clear hb2 k0 k1 k2 k3 k4
              go_wp2
              go_ret
              exact ⟨ret_int (by rw [Hv2.out, T.typed_bad Hx.out Hsh.out]; rfl), Hb2.out⟩
            · rw [hsh] at Hc
              have Hsh := Lib.hid hsh
              clear hsh
              go_wp2_with fail
              refine Hc.out.mono ?_
              rintro e w2 ⟨rfl, hb2⟩
              have Hb2 := Lib.hid (Hbw.out.trans (hb2.mono Hbw.out.size))
              clear hb2 k0 k1 k2 k3 k4
              go_wp2
              go_roundg (gk - 1)
              case measure => have := Hgk2.out; omega
              case rel => have := Hgk2.out; exact ⟨p + 1, by omega, by go_num, by omega, Hb2.out, HS.out.next Hx.out Hsh.out⟩
          · obtain rfl : p = j := by omega
            have hall := HS.out.all (by rw [Hlen.out]; exact Nat.le_refl _)
            have Hv3 := Lib.hid (show T.valid true t = if T.clashes t = true then 7 else 0 from by rw [Hv2.out, hall]; rfl)
            have Hw := Lib.hid (pwidths_any t p ct At wr (HT.out.below monoNd hbw) (T.okVars_of Hall.out Him.out) (by omega))
            have Hbw := Lib.hid hbw
            clear hall hbw HS
            go_wp2_with fail
            refine Hw.out.mono ?_
            rintro e w2 ⟨hb2, (⟨hc, rfl⟩ | ⟨hc, g, rfl, _, _⟩)⟩
            · have Hc := Lib.hid hc
              have Hb2 := Lib.hid (Hbw.out.trans (hb2.mono Hbw.out.size))
              clear hc hb2
              go_wp2
              go_ret
              exact ⟨ret_int (by rw [Hv3.out, Hc.out]; rfl), Hb2.out⟩
            · have Hc := Lib.hid hc
              have Hb2 := Lib.hid (Hbw.out.trans (hb2.mono Hbw.out.size))
              clear hc hb2
              go_wp2
              go_ret
              exact ⟨ret_int (by rw [Hv3.out, Hc.out]; rfl), Hb2.out⟩
end Go.Proofs.Ytcmlmjbpdaecbaa
