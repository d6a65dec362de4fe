/- Merged: Z4, Z5. -/
import Derived.Test.YtmebpgggfppmhaaDoorG42
set_option linter.unusedVariables false
set_option linter.unusedSimpArgs false
section
namespace Go.Proofs.YtmebpgggfppmhaaDoor
open Go.RowKit
set_option linter.unusedVariables false
set_option linter.unusedSimpArgs false

theorem sl_src {A : Option Addr} {n : Nat} {xs : List Int} {W : World} (h : SlAt (IntR .i64) W A n xs) : (xs.map (Value.int .i64)).length = n * 1 ∧ (∀ j u, (xs.map (Value.int .i64))[j]? = some u → ∃ ad : Addr, A = some ad ∧ W.cell? (ad.add j) = some u) ∧ ∀ u ∈ xs.map (Value.int .i64), u.oneCell' = true := by
  refine ⟨by rw [List.length_map, h.len, Nat.mul_one], fun j u hu => ?_, fun u hu => ?_⟩
  · rw [List.getElem?_map] at hu
    obtain ⟨x, hx, rfl⟩ := Option.map_eq_some_iff.1 hu
    obtain ⟨b, off, u, rfl, hb, hc, rfl⟩ := h.2.2 j x hx
    exact ⟨_, rfl, by rw [addr_add_zero]; exact hc⟩
  · obtain ⟨x, _, rfl⟩ := List.mem_map.1 hu
    rfl

set_option maxRecDepth 100000 in
set_option maxHeartbeats 2000000 in
theorem CopyNodes_any {t : List T.Nd} {n ct : Nat} {At : Option Addr} {W : World} (hT : StAt 5 NdR W At n t) (hn : n ≤ 900000) (ha : ∀ x ∈ t, x.args.length ≤ 900000) :
    Calls Tryd.prog 48 #[.slice At n ct] W fun e W' => ∃ v, e = .returned v ∧ OwnR (NdF W.heap.size) W.heap.size W' v t ∧ Below W.heap.size W W' := by
  have hl := hT.len
  have HT := Lib.hid hT
  have Ha := Lib.hid ha
  have Hl := Lib.hid hl
  clear hT ha hl
  go_enter Tryd.func48, Tryd.ntmps48
  go_wp2
  go_loopg [4, 3] (n + 1) (fun gg i v wr => ∃ (j : Nat), j ≤ n ∧ i = .int .i64 (j : Int) ∧ gg + j = n + 1 ∧ Hid (Below W.heap.size W wr) ∧ Hid (OwnR (NdF W.heap.size) W.heap.size wr v (t.take j)))
  case atStart => exact ⟨0, Nat.zero_le _, rfl, rfl, Lib.hid (Below.refl _ _), Lib.hid (OwnR.nil_ _ _ _)⟩
  case round =>
    obtain ⟨j, hj, rfl, hgk, Hbw, Hown⟩ := hrel
    have Hgk := Lib.hid hgk; clear hgk
    obtain ⟨Av, cv, hv⟩ := Hown.out.form
    have hlj : (t.take j).length = j := by rw [List.length_take, Hl.out]; omega
    rw [hlj] at hv
    subst hv
    by_cases hjn : j < n
    · obtain ⟨x, b, off, A, c, hx, rfl, hb, h0, h1, h2, h3, h4, hs, i0, i1⟩ := nd_cells HT.out hjn
      have hbel := Hbw.out
      have k0 := (hbel.cell (p := ⟨b, off + j * 5, none⟩) hb).trans h0
      have k1 := (hbel.cell (p := ⟨b, off + j * 5 + 1, none⟩) hb).trans h1
      have k2 := (hbel.cell (p := ⟨b, off + j * 5 + 2, none⟩) hb).trans h2
      have k3 := (hbel.cell (p := ⟨b, off + j * 5 + 3, none⟩) hb).trans h3
      have k4 := (hbel.cell (p := ⟨b, off + j * 5 + 4, none⟩) hb).trans h4
      obtain ⟨w1, hw1⟩ : ∃ w1, w1 = wr.alloc (.cells #[.int .i64 x.op, .int .i64 x.w, .int .i64 x.fl, .slice A x.args.length c, .int .u32 x.imm] 41) := ⟨_, rfl⟩
      have hb1 : Below wr.heap.size wr w1 := by rw [hw1]; exact (Below.refl _ _).alloc (Nat.le_refl _) _
      have hr1 : w1.heap[wr.heap.size]? = some (.cells #[.int .i64 x.op, .int .i64 x.w, .int .i64 x.fl, .slice A x.args.length c, .int .u32 x.imm] 41 (0, 0)) := by rw [hw1]; exact heap_alloc_new wr _
      have Hsz1 := Lib.hid (show w1.heap.size = wr.heap.size + 1 from by rw [hw1]; simp)
      obtain ⟨w2, hw2⟩ : ∃ w2, w2 = w1.alloc (.cells #[] 3) := ⟨_, rfl⟩
      have hb12 : Below w1.heap.size w1 w2 := by rw [hw2]; exact (Below.refl _ _).alloc (Nat.le_refl _) _
      have hb2 : Below wr.heap.size wr w2 := hb1.trans (hb12.mono (by rw [Hsz1.out]; omega))
      have hr2 : w2.heap[wr.heap.size]? = some (.cells #[.int .i64 x.op, .int .i64 x.w, .int .i64 x.fl, .slice A x.args.length c, .int .u32 x.imm] 41 (0, 0)) := (hb12.block _ (by rw [Hsz1.out]; omega)).trans hr1
      obtain ⟨q1, q2, q3⟩ := sl_src ((hs.below (monoInt _) hbel).below (monoInt _) hb2)
      have Q1 := Lib.hid q1
      have Q2 := Lib.hid q2
      have Q3 := Lib.hid q3
      have HE := Lib.hid (show OwnAt w2 3 1 (.slice (some ⟨wr.heap.size + 1, 0, none⟩) 0 0) 0 [] from by rw [hw2, ← Hsz1.out]; exact ownAt_empty w1 3 1)
      have Hx := Lib.hid hx
      have Hi := Lib.hid (show 0 ≤ x.imm ∧ x.imm < 4294967296 from ⟨i0, i1⟩)
      have Hr2 := Lib.hid hr2
      have Hb2 := Lib.hid hb2
      have Hb12 := Lib.hid hb12
      have hal : 0 + x.args.length ≤ 1000000000 := by have := Ha.out x (List.mem_of_getElem? hx); omega
      have n3 : w1.cell? ⟨wr.heap.size, 3, none⟩ = some (.slice A x.args.length c) := by rw [cell_of_row _ _ _ _ _ (0, 0) hr1]; rfl
      have n3' : w2.cell? ⟨wr.heap.size, 3, none⟩ = some (.slice A x.args.length c) := by rw [cell_of_row _ _ _ _ _ (0, 0) hr2]; rfl
      have Hsz2 := Lib.hid (show w2.heap.size = wr.heap.size + 2 from by rw [hw2]; simp [Hsz1.out])
      have HW1 := Lib.hid hw1
      have HW2 := Lib.hid hw2
      rw [hw2, hw1] at n3'
      rw [hw1] at n3
      clear hx h0 h1 h2 h3 h4 hb hs i0 i1 hbel hb1 hr1 hr2 hb2 hb12 q1 q2 q3 hw1 hw2
      have hsW := Hbw.out.size
      go_wp2_with (first
        | (at_builtin
           rw [← HW1.out, ← HW2.out]
           clear n3 n3' k0 k1 k2 k3 k4
           refine wpList_append_src _ rfl (.tmp 16) (.tmp 18) 38 rfl 3 (.int .i64 0) 1 8 Tryd.underlying38 infoI rfl (by decide) (.slice (some ⟨wr.heap.size + 1, 0, none⟩) 0 0) 0 [] rfl HE.out A x.args.length c (x.args.map (Value.int .i64)) rfl Q1.out Q2.out Q3.out hal (by decide) ?_
           intro v' w3 hown' hgr hat
           rw [Nat.zero_add, List.nil_append] at hown'
           (obtain ⟨A2, c2, rfl⟩ := hown'.form)
           have hr3 : w3.heap[wr.heap.size]? = some (.cells #[.int .i64 x.op, .int .i64 x.w, .int .i64 x.fl, .slice A x.args.length c, .int .u32 x.imm] 41 (0, 0)) := (hgr.block _ (by rw [Hsz2.out]; omega) (fun e => by simp [Value.ownBlock] at e)).trans Hr2.out
           have n3 : w3.cell? ⟨wr.heap.size, 3, none⟩ = some (.slice A x.args.length c) := (by rw [cell_of_row _ _ _ _ _ (0, 0) hr3]; rfl)
           have nf : w3.frozen? ⟨wr.heap.size, 3, none⟩ = false := frozen_row hr3 _
           have hr4 := heap_setCell_same w3 wr.heap.size 3 _ _ (.slice A2 x.args.length c2) hr3
           (obtain ⟨m0, m1, m2, m3, m4⟩ := nd5_cells (show (w3.setCell ⟨wr.heap.size, 3, none⟩ (.slice A2 x.args.length c2)).heap[wr.heap.size]? = some (.cells #[.int .i64 x.op, .int .i64 x.w, .int .i64 x.fl, .slice A2 x.args.length c2, .int .u32 x.imm] 41 (0, 0)) from hr4))
           have hsz2 := Hsz2.out
           have hb23 : Below wr.heap.size wr w3 := Hb2.out.grown hgr Hb2.out.size (fun g hg => by simp [Value.ownBlock] at hg; omega)
           have hB3 : Below wr.heap.size wr (w3.setCell ⟨wr.heap.size, 3, none⟩ (.slice A2 x.args.length c2)) := hb23.setCell (p := ⟨wr.heap.size, 3, none⟩) (Nat.le_refl _) _
           have hv2 : ∀ g, (Value.slice A2 x.args.length c2).ownBlock = some g → wr.heap.size + 1 ≤ g := (fun g hg => by
             rcases hat with e | e
             · rw [e] at hg; simp [Value.ownBlock] at hg; omega
             · rw [e] at hg; injection hg with hg; omega)
           have Hnd := Lib.hid (show NdF W.heap.size (w3.setCell ⟨wr.heap.size, 3, none⟩ (.slice A2 x.args.length c2)) (ndC x A2 c2) x from (by
             refine ⟨A2, c2, rfl, hown'.setCell (p := ⟨wr.heap.size, 3, none⟩) (fun e => ?_) _, Hi.out.1, Hi.out.2, fun g hg => ?_⟩
             · have := hv2 _ e
               simp only at this
               omega
             · have := hv2 g hg
               omega))
           have Hown3 := Lib.hid (Hown.out.below (ndF_rel _) hB3)
           have HB3 := Lib.hid (Hbw.out.trans (hB3.mono hsW))
           have hsz3 : W.heap.size ≤ (w3.setCell ⟨wr.heap.size, 3, none⟩ (.slice A2 x.args.length c2)).heap.size := HB3.out.size
           clear hown' hgr hat hr3 hr4 hsz2 hb23 hB3 hv2)
        | (at_builtin
           refine wpList_append_nodeR (ndF_rel W.heap.size) rfl (.tmp 21) (.tmp 23) rfl _ (t.take j) rfl (by assumption : Hid _).out (ndC x _ _) x (by assumption : Hid _).out _ (by simp) rfl (by omega) (by assumption) ?_
           intro v' w5 hown' hbel'
           have Hown5 := Lib.hid hown'
           have Hb5 := Lib.hid (hbel' _ (by assumption : Hid (Below W.heap.size W _)).out)
           clear hown' hbel'))
      go_roundg (gk - 1)
      case measure => have := Hgk.out; omega
      case rel =>
        have := Hgk.out
        exact ⟨j + 1, by omega, by go_num, by omega, Hb5, Lib.hid (by rw [take_next Hx.out]; exact Hown5.out)⟩
    · obtain rfl : j = n := by omega
      have e : t.take j = t := List.take_of_length_le (by rw [Hl.out]; exact Nat.le_refl _)
      rw [e] at Hown
      go_wp2
      go_ret
      exact ⟨_, rfl, Hown.out, Hbw.out⟩
end Go.Proofs.YtmebpgggfppmhaaDoor
end
section
namespace Go.Proofs.YtmebpgggfppmhaaDoor
open Go.RowKit
set_option linter.unusedVariables false
set_option linter.unusedSimpArgs false

set_option maxRecDepth 100000 in
set_option maxHeartbeats 1000000 in
theorem rValidateFlagged_any (t : List T.Nd) (n ct : Nat) (At : Option Addr) (W : World) (hT : StAt 5 NdR W At n t) :
    Calls Tryd.prog 25 #[.slice At n ct] W fun e W' => e = .returned (.int .i64 (R.fvalid t)) ∧ Below W.heap.size W W' := by
  have HT := Lib.hid hT
  have hle := hT.le
  have hlen := hT.len
  have Hlen := Lib.hid hlen
  obtain ⟨r, hr⟩ : ∃ r, R.fvalid t = r := ⟨_, rfl⟩
  have Hv := Lib.hid (show r = if n < 1 ∨ 300 < n then 3 else if (t.all fun x => R.flOk x.op x.fl) = false then 1 else T.valid false t from by rw [← hr]; unfold R.fvalid; rw [hlen])
  rw [hr]
  clear hT hlen hr
  by_cases h1 : n < 1
  · have q1 : decide ((n : Int) < 1) = true := by simp; omega
    have He := Lib.hid (show r = 3 from by rw [Hv.out, if_pos (.inl h1)])
    clear h1
    go_enter Tryd.func25, Tryd.ntmps25
    go_wp2
    go_ret
    exact ⟨ret_int He.out.symm, Below.refl _ _⟩
  have q1 : decide ((n : Int) < 1) = false := by simp; omega
  by_cases h2 : 300 < n
  · have q2 : decide (300 < (n : Int)) = true := by simp; omega
    have He := Lib.hid (show r = 3 from by rw [Hv.out, if_pos (.inr h2)])
    clear h1 h2
    go_enter Tryd.func25, Tryd.ntmps25
    go_wp2
    go_ret
    exact ⟨ret_int He.out.symm, Below.refl _ _⟩
  have q2 : decide (300 < (n : Int)) = false := by simp; omega
  have Hv2 := Lib.hid (show r = if (t.all fun x => R.flOk x.op x.fl) = false then 1 else T.valid false t from by rw [Hv.out, if_neg (by omega)])
  clear h1 h2 Hv
  go_enter Tryd.func25, Tryd.ntmps25
  go_wp2
  go_loopg [3] (n + 1) (fun gg i wr => ∃ (j : Nat), j ≤ n ∧ i = .int .i64 (j : Int) ∧ gg + j = n + 1 ∧ Hid (Below W.heap.size W wr) ∧ Hid ((t.take j).all (fun x => R.flOk x.op x.fl) = true))
  case atStart => exact ⟨0, Nat.zero_le _, rfl, rfl, Lib.hid (Below.refl _ _), Lib.hid rfl⟩
  case round =>
    obtain ⟨j, hj, rfl, hgk, Hbw, Hall⟩ := hrel
    have Hgk := Lib.hid hgk; clear hgk
    by_cases hjn : j < n
    · obtain ⟨x, b, off, A, c, hx, rfl, hb, h0, h1, h2, h3, h4, hs, i0, i1⟩ := nd_cells HT.out hjn
      have hbel := Hbw.out
      have k0 := (hbel.cell (p := ⟨b, off + j * 5, none⟩) hb).trans h0
      have k1 := (hbel.cell (p := ⟨b, off + j * 5 + 1, none⟩) hb).trans h1
      have k2 := (hbel.cell (p := ⟨b, off + j * 5 + 2, none⟩) hb).trans h2
      have k3 := (hbel.cell (p := ⟨b, off + j * 5 + 3, none⟩) hb).trans h3
      have k4 := (hbel.cell (p := ⟨b, off + j * 5 + 4, none⟩) hb).trans h4
      have Hcall := Lib.hid (rflagsOf_any x A c wr)
      unfold ndV at Hcall
      have Hx := Lib.hid hx
      obtain ⟨f, hf⟩ : ∃ f, R.flOk x.op x.fl = f := ⟨_, rfl⟩
      rw [hf] at Hcall
      have Hf := Lib.hid hf
      clear hx h0 h1 h2 h3 h4 hb hs i0 i1 hbel hf
      cases f with
      | false =>
        have He := Lib.hid (show r = 1 from by
          rw [Hv2.out, if_pos]
          rw [List.all_eq_false]
          exact ⟨x, List.mem_of_getElem? Hx.out, by rw [Hf.out]; simp⟩)
        go_wp2_with fail
        (with_reducible refine Hcall.out.mono ?_)
        rintro e w3 ⟨rfl, hb3⟩
        have Hb3 := Lib.hid (Hbw.out.trans (hb3.mono Hbw.out.size))
        clear hb3 k0 k1 k2 k3 k4
        go_wp2
        go_ret
        exact ⟨ret_int He.out.symm, Hb3.out⟩
      | true =>
        have Ht := Lib.hid (show (t.take (j + 1)).all (fun x => R.flOk x.op x.fl) = true from by rw [take_next Hx.out, List.all_append, Hall.out]; simp [Hf.out])
        go_wp2_with fail
        (with_reducible refine Hcall.out.mono ?_)
        rintro e w3 ⟨rfl, hb3⟩
        have Hb3 := Lib.hid (Hbw.out.trans (hb3.mono Hbw.out.size))
        clear hb3 k0 k1 k2 k3 k4
        go_wp2
        go_roundg (gk - 1)
        case measure => have := Hgk.out; omega
        case rel =>
          have := Hgk.out
          exact ⟨j + 1, by omega, by go_num, by omega, Hb3, Ht⟩
    · obtain rfl : j = n := by omega
      have He := Lib.hid (show r = T.valid false t from by
        have := Hall.out
        rw [List.take_of_length_le (by rw [Hlen.out]; exact Nat.le_refl _)] at this
        rw [Hv2.out, if_neg (by rw [this]; simp)])
      have Hcall := Lib.hid (rChecked_any false t j ct At wr (HT.out.below monoNd Hbw.out))
      go_wp2_with fail
      (with_reducible refine Hcall.out.mono ?_)
      rintro e w3 ⟨rfl, hb3⟩
      have Hb3 := Lib.hid (Hbw.out.trans (hb3.mono Hbw.out.size))
      clear hb3
      go_wp2
      go_ret
      exact ⟨ret_int He.out.symm, Hb3.out⟩

/-- a block of nodes turns: what the operands are stays -/
theorem NdF.other' {B : Nat} {w w' : World} {us : List Value} {x : T.Nd} {row : Option Nat} (h : NdF B w us x) (hg : w.grownBy w' row) (hr : ∀ g cur T fr, row = some g → w.heap[g]? = some (.cells cur T fr) → T = 41) : NdF B w' us x := by
  obtain ⟨A, c, h1, h2, h3, h4, h5⟩ := h
  refine ⟨A, c, h1, h2.same fun g hg' => ?_, h3, h4, h5⟩
  rcases h2.2 with ⟨e, _⟩ | ⟨g', off, cap, cur, e, hcur, _⟩
  · rw [e] at hg'; simp [Value.ownBlock] at hg'
  · rw [e] at hg'
    simp [Value.ownBlock] at hg'
    subst hg'
    exact hg.block _ (Array.getElem?_eq_some_iff.1 hcur).1 (fun e => by have := hr _ cur _ _ e.symm hcur; revert this; decide)

/-- a node of an own list is put anew -/
theorem OwnR.put {B g off n c k : Nat} {w w' : World} {nds : List T.Nd} {cur cur' : Array Value} {y : T.Nd} {A2 : Option Addr} {c2 : Nat} (h : OwnR (NdF B) B w (.slice (some ⟨g, off, none⟩) n c) nds) (hn : nds.length = n) (hk : k < n) (hg : w.heap[g]? = some (.cells cur 41 (0, 0))) (hw : w.grownBy w' (some g)) (hrow : w'.heap[g]? = some (.cells cur' 41 (0, 0)))
    (hsz : cur'.size = cur.size) (hsame : ∀ j, (j < off + k * 5 ∨ off + k * 5 + 5 ≤ j) → cur'[j]? = cur[j]?) (hnew : ∀ i u, (ndC y A2 c2)[i]? = some u → cur'[off + k * 5 + i]? = some u) (hy : NdF B w' (ndC y A2 c2) y) :
    OwnR (NdF B) B w' (.slice (some ⟨g, off, none⟩) n c) (nds.set k y) := by
  subst hn
  obtain ⟨cells, h1, h2, h3⟩ := h
  have hcl := h1.1
  rcases h1.2 with ⟨e, _⟩ | ⟨g', off', cap, cur0, e, hg0, q1, q2, q3, q4⟩
  · cases e
  cases e
  rw [hg] at hg0
  cases hg0
  have hlen5 : (ndC y A2 c2).length = 5 := rfl
  have hks : k * 5 + 5 ≤ nds.length * 5 := by omega
  have hother : ∀ g' cur T fr, some g = some g' → w.heap[g']? = some (.cells cur T fr) → T = 41 := fun g' cur T fr e hc => by
    injection e with e
    subst e
    rw [hg] at hc
    injection hc with hc
    injection hc with _ hc _
    exact hc.symm
  have key : ∀ j, (cells.take (k * 5) ++ ndC y A2 c2 ++ cells.drop (k * 5 + 5))[j]? = if j < k * 5 then cells[j]? else if j < k * 5 + 5 then (ndC y A2 c2)[j - k * 5]? else cells[j]? := fun j => by
    by_cases j1 : j < k * 5
    · rw [if_pos j1, List.append_assoc, List.getElem?_append_left (by rw [List.length_take]; omega), List.getElem?_take, if_pos j1]
    · rw [if_neg j1]
      by_cases j2 : j < k * 5 + 5
      · rw [if_pos j2, List.append_assoc, List.getElem?_append_right (by rw [List.length_take]; omega), List.getElem?_append_left (by rw [List.length_take, hlen5]; omega), List.length_take, Nat.min_eq_left (by omega)]
      · rw [if_neg j2, List.getElem?_append_right (by rw [List.length_append, List.length_take, hlen5]; omega), List.length_append, List.length_take, hlen5, Nat.min_eq_left (by omega), List.getElem?_drop]
        congr 1
        omega
  refine ⟨cells.take (k * 5) ++ ndC y A2 c2 ++ cells.drop (k * 5 + 5), ⟨?_, .inr ⟨g, off, c, cur', by rw [List.length_set], hrow, by rw [List.length_set]; exact q1, q2, by rw [hsz]; exact q3, fun j u hu => ?_⟩⟩, fun i x hx => ?_, h3⟩
  · rw [List.length_set, List.length_append, List.length_append, List.length_take, List.length_drop, hlen5]; omega
  · rw [key] at hu
    split at hu
    · rename_i j1
      rw [hsame _ (.inl (by omega))]
      exact q4 j u hu
    · rename_i j1
      split at hu
      · rename_i j2
        have := hnew (j - k * 5) u hu
        rw [show off + k * 5 + (j - k * 5) = off + j by omega] at this
        exact this
      · rename_i j2
        rw [hsame _ (.inr (by omega))]
        exact q4 j u hu
  · have hkl : ∀ i, ((cells.take (k * 5) ++ ndC y A2 c2 ++ cells.drop (k * 5 + 5)).drop (i * 5)).take 5 = if i = k then ndC y A2 c2 else (cells.drop (i * 5)).take 5 := fun i => by
      apply List.ext_getElem?
      intro q
      rw [List.getElem?_take, List.getElem?_drop, key]
      by_cases hq : q < 5
      · rw [if_pos hq]
        by_cases hik : i = k
        · subst hik
          rw [if_pos rfl, if_neg (by omega), if_pos (by omega)]
          congr 1
          omega
        · rw [if_neg hik, List.getElem?_take, if_pos hq, List.getElem?_drop]
          by_cases hlt : i < k
          · rw [if_pos (by omega)]
          · rw [if_neg (by omega), if_neg (by omega)]
      · rw [if_neg hq]
        split
        · rw [List.getElem?_eq_none (by rw [hlen5]; omega)]
        · rw [List.getElem?_take, if_neg hq]
    rw [hkl]
    by_cases hik : i = k
    · subst hik
      rw [if_pos rfl]
      rw [List.getElem?_set, if_pos rfl, if_pos (by omega)] at hx
      cases hx
      exact hy
    · rw [if_neg hik]
      rw [List.getElem?_set_ne (fun e => hik e.symm)] at hx
      exact NdF.other' (h2 i x hx) hw hother
end Go.Proofs.YtmebpgggfppmhaaDoor
end
