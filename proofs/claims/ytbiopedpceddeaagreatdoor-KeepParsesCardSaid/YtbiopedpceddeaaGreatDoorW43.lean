/- Merged: C4KG6, C4KG7. -/
import Derived.Test.YtbiopedpceddeaaGreatDoorW42
set_option linter.unusedVariables false
set_option linter.unusedSimpArgs false
section
namespace Go.Proofs.YtbiopedpceddeaaGreatDoor
open Go.RowKit Go.Maps Go.Lib
set_option linter.unusedVariables false
set_option linter.unusedSimpArgs false
namespace KT

set_option maxRecDepth 100000 in
set_option maxHeartbeats 8000000 in
theorem keepParses_any {s : List UInt8} (hs : s.length ≤ 9223372036854775807) {W : World} (hL : Lb W) :
    Calls Tryz.prog 6 #[.string ⟨s.toArray⟩] W fun e W' => e = .returned (.bool true) ∧ Below W.heap.size W W' := by
  have HK := Lib.hid (fun X (h : Below W.heap.size W X) => kknown_any (hL.below h))
  have HL := Lib.hid (fun X (h : Below W.heap.size W X) => hL.below h)
  have Hb0 := Lib.hid (Below.refl W.heap.size W)
  have hsz : s.toArray.size = s.length := by simp
  clear hL
  by_cases hl : 2000 < s.length
  · have q : decide ((2000 : Int) < (s.length : Int)) = true := decide_eq_true (by omega)
    go_enter Tryz.func6, Tryz.ntmps6
    go_wp2_with (go_at_call 23; (with_reducible refine (HK.out _ Hb0.out).mono ?_); rintro e w9 ⟨rfl, hb⟩; have Hb9 := Lib.hid hb; clear hb)
    go_ret
    exact ⟨rfl, Hb9.out⟩
  have q : decide ((2000 : Int) < (s.length : Int)) = false := decide_eq_false (by omega)
  have hs2 : s.length ≤ 2000 := by omega
  have HC := Lib.hid (Parse_any (t := s) (by omega) (HL.out _ Hb0.out))
  clear hl
  go_enter Tryz.func6, Tryz.ntmps6
  go_wp2_with fail
  (refine HC.out.mono ?_)
  rintro e w3 ⟨v1, v2, v3, r, code, rfl, hown, fl, fr, hb3, hcase⟩
  obtain ⟨AL, cl, eal⟩ := hown.ol.form
  obtain ⟨nl, hnl⟩ : ∃ n, n = r.left.length := ⟨_, rfl⟩
  rw [← hnl] at eal
  obtain ⟨AR, cr, ear⟩ := hown.or_.form
  obtain ⟨nr, hnr⟩ : ∃ n, n = r.right.length := ⟨_, rfl⟩
  rw [← hnr] at ear
  obtain ⟨AP, cp, eap⟩ := hown.op.form
  obtain ⟨np, hnp⟩ : ∃ n, n = r.pre.length := ⟨_, rfl⟩
  rw [← hnp] at eap
  subst eal ear eap
  obtain ⟨w4, hw4⟩ : ∃ w4, w4 = w3.alloc (.cells #[.slice AL nl cl, .slice AR nr cr, .slice AP np cp] 33) := ⟨_, rfl⟩
  have hb4 : Below w3.heap.size w3 w4 := by rw [hw4]; exact (Below.refl _ _).alloc (Nat.le_refl _) _
  have hrow : w4.heap[w3.heap.size]? = some (.cells #[.slice AL nl cl, .slice AR nr cr, .slice AP np cp] 33 (0, 0)) := by rw [hw4]; exact heap_alloc_new w3 _
  have Hb4 := Lib.hid (hb3.trans (hb4.mono hb3.size))
  have Ho4 := Lib.hid (hown.below hb4)
  have HR4 := Lib.hid (show RlAt w4 r nl nr np AL AR AP from ⟨Ho4.out.ol.stAt (ndF_rel _) hnl.symm, Ho4.out.or_.stAt (ndF_rel _) hnr.symm, Ho4.out.op.stAt hnp.symm, fl, fr⟩)
  have Hw4 := Lib.hid hw4
  have Hrow := Lib.hid hrow
  have Hcase := Lib.hid hcase
  have HD := Lib.hid (rParse_any (t := s) (by omega) (HL.out _ Hb4.out).tens)
  clear hb3 hb4 hown hnl hnr hnp fl fr HC hw4 hrow hcase
  go_upto_region 4 with (fail)
  rw [← Hw4.out]
  go_wp2_with fail
  (refine HD.out.mono ?_)
  rintro e w7 ⟨v1, v2, v3, r2, code2, rfl, hown, fl, fr, hb7, hcase⟩
  obtain ⟨A1, k1, ebl⟩ := hown.ol.form
  obtain ⟨n1, hn1⟩ : ∃ n, n = r2.left.length := ⟨_, rfl⟩
  rw [← hn1] at ebl
  obtain ⟨A2, k2, ebr⟩ := hown.or_.form
  obtain ⟨n2, hn2⟩ : ∃ n, n = r2.right.length := ⟨_, rfl⟩
  rw [← hn2] at ebr
  obtain ⟨A3, k3, ebp⟩ := hown.op.form
  obtain ⟨n3, hn3⟩ : ∃ n, n = r2.pre.length := ⟨_, rfl⟩
  rw [← hn3] at ebp
  subst ebl ebr ebp
  have hcase1 := Hcase.out
  obtain ⟨rfl, rfl⟩ : r = r2 ∧ code = code2 := by
    rcases hcase1 with ⟨h1, h2⟩ | ⟨h1, h2, h3⟩ <;> rcases hcase with ⟨h4, h5⟩ | ⟨h4, h5, h6⟩
    · rw [h1] at h4; cases h4; exact ⟨rfl, h2.trans h5.symm⟩
    · rw [h1] at h4; cases h4
    · rw [h1] at h4; cases h4
    · exact ⟨h3.trans h6.symm, h2.trans h5.symm⟩
  obtain ⟨w8, hw8⟩ : ∃ w8, w8 = w7.alloc (.cells #[.slice A1 n1 k1, .slice A2 n2 k2, .slice A3 n3 k3] 33) := ⟨_, rfl⟩
  have hb8 : Below w7.heap.size w7 w8 := by rw [hw8]; exact (Below.refl _ _).alloc (Nat.le_refl _) _
  have hrow : w8.heap[w7.heap.size]? = some (.cells #[.slice A1 n1 k1, .slice A2 n2 k2, .slice A3 n3 k3] 33 (0, 0)) := by rw [hw8]; exact heap_alloc_new w7 _
  have hb48 : Below w4.heap.size w4 w8 := hb7.trans (hb8.mono hb7.size)
  have Hb8 := Lib.hid (Hb4.out.trans (hb48.mono Hb4.out.size))
  have Ho8 := Lib.hid (hown.below hb8)
  have HR8 := Lib.hid (show RlAt w8 r n1 n2 n3 A1 A2 A3 from ⟨Ho8.out.ol.stAt (ndF_rel _) hn1.symm, Ho8.out.or_.stAt (ndF_rel _) hn2.symm, Ho8.out.op.stAt hn3.symm, fl, fr⟩)
  have HQ8 := Lib.hid (HR4.out.below hb48)
  have hrow4 := (hb48.block _ (Array.getElem?_eq_some_iff.1 Hrow.out).1).trans Hrow.out
  have HS8 := Lib.hid (show ∀ Y, Below w8.heap.size w8 Y → (fun Y : World => Y.cell? ⟨w7.heap.size, 0, none⟩ = some (.slice A1 n1 k1) ∧ Y.cell? ⟨w7.heap.size, 1, none⟩ = some (.slice A2 n2 k2) ∧ Y.cell? ⟨w7.heap.size, 2, none⟩ = some (.slice A3 n3 k3) ∧ Y.cell? ⟨w3.heap.size, 0, none⟩ = some (.slice AL nl cl) ∧ Y.cell? ⟨w3.heap.size, 1, none⟩ = some (.slice AR nr cr) ∧ Y.cell? ⟨w3.heap.size, 2, none⟩ = some (.slice AP np cp)) Y from fun Y hY => by
    obtain ⟨h0, h1, h2, _⟩ := rl_cells ((hY.block _ (Array.getElem?_eq_some_iff.1 hrow).1).trans hrow)
    obtain ⟨h3, h4, h5, _⟩ := rl_cells ((hY.block _ (Array.getElem?_eq_some_iff.1 hrow4).1).trans hrow4)
    exact ⟨h0, h1, h2, h3, h4, h5⟩)
  have Hw8 := Lib.hid hw8
  have HK8 := Lib.hid (fun X (h : Below w8.heap.size w8 X) => HK.out X (Hb8.out.trans (h.mono Hb8.out.size)))
  have HL8 := Lib.hid (fun X (h : Below w8.heap.size w8 X) => HL.out X (Hb8.out.trans (h.mono Hb8.out.size)))
  have Hw := Lib.hid (show ∀ x ∈ [r], Wrt x from fun x hx => by
    rw [List.mem_singleton] at hx
    subst hx
    rcases Hcase.out with ⟨h1, _⟩ | ⟨_, _, h3⟩
    · exact wrt_of_valid (W := w8) ⟨n1, k1, n2, k2, n3, k3, A1, A2, A3, rfl, HR8.out⟩ (parse_some.1 h1).1
    · rw [h3]; exact Wrt.zero)
  have HO1 := Lib.hid (fun X (h : Below w8.heap.size w8 X) => one_any (cl := cl) (cr := cr) (cp := cp) (HQ8.out.below h))
  have HO2 := Lib.hid (fun X (h : Below w8.heap.size w8 X) => one_any (cl := k1) (cr := k2) (cp := k3) (HR8.out.below h))
  have HT := Lib.hid (fun X (h : Below w8.heap.size w8 X) => Text_any (cl := cl) (cr := cr) (cp := cp) (HQ8.out.below h) (HL8.out X h).tens)
  clear hb8 hb48 hrow4 hown hb7 hn1 hn2 hn3 fl fr HD hw8 hrow hcase hcase1
  go_upto_region 5 with (fail)
  rw [← Hw8.out]
  have qc : (code != code) = false := by simp
  refine wp_region_held_drew (S := fun Y : World => Y.cell? ⟨w7.heap.size, 0, none⟩ = some (.slice A1 n1 k1) ∧ Y.cell? ⟨w7.heap.size, 1, none⟩ = some (.slice A2 n2 k2) ∧ Y.cell? ⟨w7.heap.size, 2, none⟩ = some (.slice A3 n3 k3) ∧ Y.cell? ⟨w3.heap.size, 0, none⟩ = some (.slice AL nl cl) ∧ Y.cell? ⟨w3.heap.size, 1, none⟩ = some (.slice AR nr cr) ∧ Y.cell? ⟨w3.heap.size, 2, none⟩ = some (.slice AP np cp)) (by kernel_rfl) (HS8.out _ (Below.refl _ _).drew) (fun hHeld => ?_)
  refine wpAnyH_take (i := 0) (oi := _) (v := ?_) rfl (by kernel_rfl) (by kernel_rfl) (by kernel_rfl) (fun _ _ _ h => h) (Or.inl ⟨by rfl, fun Y hY => ?_⟩) hHeld ?_
  rotate_left
  · (go_simp) <;> with_reducible rfl
  try simp only [Act.put, List.setIfInBounds_toArray, List.set_cons_zero, List.set_cons_succ, List.getElem_toArray, List.getElem_cons_succ, List.getElem_cons_zero]
  refine wpAnyH_take (i := 1) (oi := _) (v := ?_) rfl (by kernel_rfl) (by kernel_rfl) (by kernel_rfl) (fun _ _ _ h => h) (Or.inl ⟨by rfl, fun Y hY => ?_⟩) hHeld ?_
  rotate_left
  · (go_simp) <;> with_reducible rfl
  try simp only [Act.put, List.setIfInBounds_toArray, List.set_cons_zero, List.set_cons_succ, List.getElem_toArray, List.getElem_cons_succ, List.getElem_cons_zero]
  refine wpAnyH_take (i := 2) (oi := _) (v := ?_) rfl (by kernel_rfl) (by kernel_rfl) (by kernel_rfl) (fun _ _ _ h => h) (Or.inl ⟨by rfl, fun Y hY => ?_⟩) hHeld ?_
  rotate_left
  · (go_simp) <;> with_reducible rfl
  try simp only [Act.put, List.setIfInBounds_toArray, List.set_cons_zero, List.set_cons_succ, List.getElem_toArray, List.getElem_cons_succ, List.getElem_cons_zero]
  refine wpAnyH_take (i := 3) (oi := _) (v := ?_) rfl (by kernel_rfl) (by kernel_rfl) (by kernel_rfl) (fun _ _ _ h => h) (Or.inl ⟨by rfl, fun Y hY => ?_⟩) hHeld ?_
  rotate_left
  · (go_simp) <;> with_reducible rfl
  try simp only [Act.put, List.setIfInBounds_toArray, List.set_cons_zero, List.set_cons_succ, List.getElem_toArray, List.getElem_cons_succ, List.getElem_cons_zero]
  refine wpAnyH_take (i := 4) (oi := _) (v := ?_) rfl (by kernel_rfl) (by kernel_rfl) (by kernel_rfl) (fun _ _ _ h => h) (Or.inl ⟨by rfl, fun Y hY => ?_⟩) hHeld ?_
  rotate_left
  · obtain ⟨y0, y1, y2, y3, y4, y5⟩ := hY
    (go_simp) <;> with_reducible rfl
  try simp only [Act.put, List.setIfInBounds_toArray, List.set_cons_zero, List.set_cons_succ, List.getElem_toArray, List.getElem_cons_succ, List.getElem_cons_zero]
  refine wpAnyH_take (i := 6) (oi := _) (v := ?_) rfl (by kernel_rfl) (by kernel_rfl) (by kernel_rfl) (fun _ _ _ h => h) (Or.inl ⟨by rfl, fun Y hY => ?_⟩) hHeld ?_
  rotate_left
  · obtain ⟨y0, y1, y2, y3, y4, y5⟩ := hY
    (go_simp) <;> with_reducible rfl
  try simp only [Act.put, List.setIfInBounds_toArray, List.set_cons_zero, List.set_cons_succ, List.getElem_toArray, List.getElem_cons_succ, List.getElem_cons_zero]
  refine wpAnyH_ready (rs := [5]) (by kernel_rfl) (by simp) ?_
  refine AllReadyH.cons (o := _) rfl (fun KK hKK => ?_) AllReadyH.nil
  clear hHeld
  go_simp
  (refine (HO1.out _ (by first | exact (Below.refl w8.heap.size w8).drew | exact ((Below.refl w8.heap.size w8).drew).drew)).mono ?_)
  rintro e x1 ⟨Aa1, rfl, hs1, hb1⟩
  have Hx1 := Lib.hid (show Below w8.heap.size w8 x1 from (by first | exact ((Below.refl w8.heap.size w8).drew).trans (hb1.mono ((Below.refl w8.heap.size w8).drew).size) | exact (((Below.refl w8.heap.size w8).drew).drew).trans (hb1.mono (((Below.refl w8.heap.size w8).drew).drew).size)))
  have HSt1 := Lib.hid hs1
  clear hs1 hb1
  refine hKK.out _ _ (HS8.out _ Hx1.out) (fun hHeld => ?_)
  clear hKK KK
  try simp only [Act.put, List.setIfInBounds_toArray, List.set_cons_zero, List.set_cons_succ, List.getElem_toArray, List.getElem_cons_succ, List.getElem_cons_zero]
  refine wpAnyH_ready (rs := [7]) (by kernel_rfl) (by simp) ?_
  refine AllReadyH.cons (o := _) rfl (fun KK hKK => ?_) AllReadyH.nil
  clear hHeld
  go_simp
  (refine (HO2.out _ (by first | exact Hx1.out | exact (Hx1.out).drew)).mono ?_)
  rintro e x2 ⟨Aa2, rfl, hs2, hb2⟩
  have Hx2 := Lib.hid (show Below w8.heap.size w8 x2 from (by first | exact (Hx1.out).trans (hb2.mono (Hx1.out).size) | exact ((Hx1.out).drew).trans (hb2.mono ((Hx1.out).drew).size)))
  have HSt2 := Lib.hid hs2
  have hB12 : Below x1.heap.size x1 x2 := by first | exact hb2 | exact (Below.refl _ _).drew.trans hb2
  have HSq := Lib.hid (HSt1.out.below monoRl hB12)
  clear hs2 hb2 hB12 HSt1
  refine hKK.out _ _ (HS8.out _ Hx2.out) (fun hHeld => ?_)
  clear hKK KK
  try simp only [Act.put, List.setIfInBounds_toArray, List.set_cons_zero, List.set_cons_succ, List.getElem_toArray, List.getElem_cons_succ, List.getElem_cons_zero]
  refine wpAnyH_ready (rs := [8]) (by kernel_rfl) (by simp) ?_
  refine AllReadyH.cons (o := _) rfl (fun KK hKK => ?_) AllReadyH.nil
  clear hHeld
  go_simp
  have HX := Lib.hid (fun X (h : Below x2.heap.size x2 X) => rsame_any (W := X) (c := 1) (d := 1) (HSq.out.below monoRl h) Hw.out (HSt2.out.below monoRl h) Hw.out (HL8.out X (Hx2.out.trans (h.mono Hx2.out.size))).tens)
  simp only [sameT_refl] at HX
  (refine (HX.out _ (by first | exact Below.refl _ _ | exact (Below.refl _ _).drew)).mono ?_)
  rintro e x3 ⟨rfl, hb3⟩
  have Hx3 := Lib.hid (show Below w8.heap.size w8 x3 from (by first | exact Hx2.out.trans (hb3.mono Hx2.out.size) | exact (Hx2.out.drew).trans (hb3.mono (Hx2.out.drew).size)))
  clear hb3 HX
  refine hKK.out _ _ (HS8.out _ Hx3.out) (fun hHeld => ?_)
  clear hKK KK
  try simp only [Act.put, List.setIfInBounds_toArray, List.set_cons_zero, List.set_cons_succ, List.getElem_toArray, List.getElem_cons_succ, List.getElem_cons_zero]
  refine wpAnyH_take (i := 9) (oi := _) (v := ?_) rfl (by kernel_rfl) (by kernel_rfl) (by kernel_rfl) (fun _ _ _ h => h) (Or.inl ⟨by rfl, fun Y hY => ?_⟩) hHeld ?_
  rotate_left
  · (go_simp) <;> with_reducible rfl
  try simp only [Act.put, List.setIfInBounds_toArray, List.set_cons_zero, List.set_cons_succ, List.getElem_toArray, List.getElem_cons_succ, List.getElem_cons_zero]
  refine wpAnyH_take (i := 10) (oi := _) (v := ?_) rfl (by kernel_rfl) (by kernel_rfl) (by kernel_rfl) (fun _ _ _ h => h) (Or.inl ⟨by rfl, fun Y hY => ?_⟩) hHeld ?_
  rotate_left
  · (go_simp) <;> with_reducible rfl
  try simp only [Act.put, List.setIfInBounds_toArray, List.set_cons_zero, List.set_cons_succ, List.getElem_toArray, List.getElem_cons_succ, List.getElem_cons_zero]
  refine wpAnyH_done (by kernel_rfl) ?_ _
  clear hHeld
  obtain ⟨y0, y1, y2, y3, y4, y5⟩ := HS8.out _ Hx3.out
  obtain ⟨t, ht⟩ : ∃ t, t = textOf r := ⟨_, rfl⟩
  obtain ⟨y, hy⟩ : ∃ y, y = R.rvalid r := ⟨_, rfl⟩
  rw [← ht, ← hy] at HT
  have Ht := Lib.hid ht
  have Hy := Lib.hid hy
  clear ht hy
  go_wp2_with fail
  (refine (HT.out _ (by first | exact Hx3.out | exact Hx3.out.drew)).mono ?_)
  rintro e x4 ⟨rfl, hb4⟩
  have Hx4 := Lib.hid (show Below w8.heap.size w8 x4 from (by first | exact Hx3.out.trans (hb4.mono Hx3.out.size) | exact (Hx3.out.drew).trans (hb4.mono (Hx3.out.drew).size)))
  clear hb4 y0 y1 y2 y3 y4 y5
  rcases Hcase.out with ⟨h1, rfl⟩ | ⟨_, rfl, _⟩
  · obtain ⟨p1, p2, p3⟩ := parse_some.1 h1
    obtain rfl : 0 = y := by rw [Hy.out, p1]
    obtain rfl : s = t := by rw [Ht.out]; unfold textOf; rw [if_pos p1, p3]
    clear h1 p1 p2 p3
    go_wp2_with (go_at_call 23; (refine (HK8.out _ (by first | exact Hx4.out | exact Hx4.out.drew)).mono ?_); rintro e w9 ⟨rfl, hb⟩; have Hb9 := Lib.hid (Hx4.out.trans (hb.mono Hx4.out.size)); clear hb)
    go_ret
    exact ⟨rfl, Hb8.out.trans (Hb9.out.mono Hb8.out.size)⟩
  · go_wp2_with (go_at_call 23; (refine (HK8.out _ (by first | exact Hx4.out | exact Hx4.out.drew)).mono ?_); rintro e w9 ⟨rfl, hb⟩; have Hb9 := Lib.hid (Hx4.out.trans (hb.mono Hx4.out.size)); clear hb)
    go_ret
    exact ⟨rfl, Hb8.out.trans (Hb9.out.mono Hb8.out.size)⟩
end KT
end Go.Proofs.YtbiopedpceddeaaGreatDoor
end
section
namespace Go.Proofs.YtbiopedpceddeaaGreatDoor
open Go.RowKit Go.Maps Go.Lib
set_option linter.unusedVariables false
set_option linter.unusedSimpArgs false
namespace KT
theorem tear_at (k : Int) (l : Nat) (hl : l ≤ 1000000) : ∃ p : Nat, wrap64 ((IntKind.u64.wrap k).tmod ((l : Int) + 1)) = (p : Int) ∧ p ≤ l := by
  have h0 : 0 ≤ IntKind.u64.wrap k := by rw [IntKind.wrap_u64]; omega
  rw [Int.tmod_eq_emod_of_nonneg h0]
  have h1 := Int.emod_nonneg (IntKind.u64.wrap k) (show ((l : Int) + 1) ≠ 0 by omega)
  have h2 := Int.emod_lt_of_pos (IntKind.u64.wrap k) (show 0 < (l : Int) + 1 by omega)
  refine ⟨((IntKind.u64.wrap k) % ((l : Int) + 1)).toNat, ?_, by omega⟩
  rw [Int.toNat_of_nonneg h1]
  generalize (IntKind.u64.wrap k) % ((l : Int) + 1) = x at *
  unfold wrap64
  omega
theorem st_take {α : Type} {s : Nat} {R : World → List Value → α → Prop} {w : World} {A : Option Addr} {n k : Nat} {xs : List α} (h : StAt s R w A n xs) (hk : k ≤ n) : StAt s R w A k (xs.take k) := by
  refine ⟨by rw [List.length_take, h.1]; omega, Nat.le_trans hk h.2.1, fun i x hx => ?_⟩
  rw [List.getElem?_take] at hx
  split at hx
  · exact h.2.2 i x hx
  · cases hx

set_option maxRecDepth 100000 in
set_option maxHeartbeats 4000000 in
theorem keepTears_any {rs : List R.Rl} {A : Option Addr} {n c : Nat} {k : Int} {W : World} (hS : StAt 3 RlR W A n rs) (hnc : n ≤ c) (hk : I64 k) (hL : Lb W) :
    Calls Tryz.prog 11 #[.slice A n c, .int .i64 k] W fun e W' => e = .returned (.bool true) ∧ Below W.heap.size W W' := by
  have HK := Lib.hid (fun X (h : Below W.heap.size W X) => kknown_any (hL.below h))
  have HL := Lib.hid (fun X (h : Below W.heap.size W X) => hL.below h)
  have HS := Lib.hid hS
  have HLo := Lib.hid (lLong_any (c := c) hS)
  have Hn := Lib.hid hS.len
  obtain ⟨lg, hlg⟩ : ∃ lg, lg = longT rs := ⟨_, rfl⟩
  have Hlg := Lib.hid hlg
  have Hnc := Lib.hid hnc
  have Hkk := Lib.hid hk
  rw [← hlg] at HLo
  clear hL hS hlg hnc hk
  go_enter Tryz.func11, Tryz.ntmps11
  go_wp2_with fail
  (with_reducible refine HLo.out.mono ?_)
  rintro e w1 ⟨rfl, hb⟩
  have Hb1 := Lib.hid hb
  clear hb HLo
  cases lg with
  | true =>
    go_wp2_with (go_at_call 23; (with_reducible refine (HK.out _ Hb1.out).mono ?_); rintro e w9 ⟨rfl, hb⟩; have Hb9 := Lib.hid (Hb1.out.trans (hb.mono Hb1.out.size)); clear hb)
    go_ret
    exact ⟨rfl, Hb9.out⟩
  | false =>
  have hn50 : n ≤ 50 := by have := longT_len Hlg.out.symm; have := Hn.out; omega
  have HC := Lib.hid (Write_any (c := c) (HS.out.below monoRl Hb1.out) (by omega) (HL.out _ Hb1.out).tens)
  unfold WritePost at HC
  obtain ⟨t, ht⟩ : ∃ t, t = (writeT rs).1 := ⟨_, rfl⟩
  obtain ⟨z, hz⟩ : ∃ z, z = (writeT rs).2 := ⟨_, rfl⟩
  rw [← ht, ← hz] at HC
  have Ht := Lib.hid ht
  have Hz := Lib.hid hz
  clear ht hz
  go_wp2_with fail
  (with_reducible refine HC.out.mono ?_)
  rintro e w2 ⟨rfl, hb⟩
  have Hb2 := Lib.hid (Hb1.out.trans (hb.mono Hb1.out.size))
  clear hb HC
  by_cases hz0 : z = 0
  rotate_left
  · have q : (z != 0) = true := by simpa using hz0
    clear hz0
    go_wp2_with (go_at_call 23; (with_reducible refine (HK.out _ Hb2.out).mono ?_); rintro e w9 ⟨rfl, hb⟩; have Hb9 := Lib.hid (Hb2.out.trans (hb.mono Hb2.out.size)); clear hb)
    go_ret
    exact ⟨rfl, Hb9.out⟩
  subst hz0
  have Hg := Lib.hid (writeT_ok (fun r hr hv => (st_rls HS.out r hr hv).1) Hz.out.symm)
  have htl : t.length ≤ 8880 := by rw [Ht.out, Hg.out.2]; exact good_store Hg.out.1
  have htz : t.toArray.size = t.length := by simp
  obtain ⟨p, hp, hpl⟩ := tear_at k t.length (by omega)
  have hpe : (⟨t.toArray⟩ : ByteArray).extract 0 p = ⟨(t.take p).toArray⟩ := by rw [Lib.extract_eq]; simp
  obtain ⟨m, y, hr⟩ := Reads.ex sm _ 0 [] (t.take p) (Nat.le_refl _)
  have hgm := hr.is_store.1
  have Hr := Lib.hid hr
  obtain ⟨h1, h2, h3, h4, h5⟩ := tear_law Hg.out.1 (show p ≤ (storeT rs).length from by rw [← Hg.out.2, ← Ht.out]; exact hpl) (by rw [← Hg.out.2, ← Ht.out]; exact hr)
  rw [← Hg.out.2, ← Ht.out] at h4 h5
  have HR := Lib.hid (Read_any (s := t.take p) (by rw [List.length_take]; omega) hr (HL.out _ Hb2.out))
  obtain ⟨j, hj⟩ : ∃ j, j = m.length := ⟨_, rfl⟩
  have Hj := Lib.hid hj
  have Hm := Lib.hid h1
  have hjn : j ≤ n := by have := Hn.out; omega
  obtain ⟨tp, htp⟩ : ∃ tp, tp = t.take p := ⟨_, rfl⟩
  have htpl : tp.length ≤ 8880 := by rw [htp, List.length_take]; omega
  rw [← htp] at hpe HR
  have hyl : y.length ≤ p := h3
  have hyz : y.toArray.size = y.length := by simp
  obtain ⟨d, hd⟩ : ∃ d, d = p - y.length := ⟨_, rfl⟩
  have hde : (p : Int) - (y.length : Int) = (d : Int) := by omega
  have hdl : d ≤ t.length := by omega
  rw [← hd] at h4
  have hte : (⟨t.toArray⟩ : ByteArray).extract 0 d = ⟨(storeT m).toArray⟩ := by rw [Lib.extract_eq, ← h4]; simp
  have HM := Lib.hid (fun X (h : Below W.heap.size W X) => Merge_any (a := storeT m) (b := t) (by have := good_store hgm; omega) (by omega) (Reads.whole hgm) (by rw [Ht.out, Hg.out.2]; exact Reads.whole Hg.out.1) (HL.out X h))
  unfold MergeP at HM
  rw [h5] at HM
  have Hgm := Lib.hid hgm
  obtain ⟨tm, htm⟩ : ∃ tm, tm = storeT m := ⟨_, rfl⟩
  rw [← htm] at hte HM
  clear hr h1 h2 h3 h4 h5 hj htp hd hgm htm
  go_wp2_with fail
  (refine HR.out.mono ?_)
  rintro e w3 ⟨A3, n3, c3, rfl, hS3, hb⟩
  obtain rfl : j = n3 := by have := hS3.len; have := Hj.out; omega
  have Hb3 := Lib.hid (Hb2.out.trans (hb.mono Hb2.out.size))
  have HS3 := Lib.hid hS3
  have HSk := Lib.hid (st_take (HS.out.below monoRl Hb3.out) hjn)
  have Hw := Lib.hid (show ∀ r ∈ m, Wrt r from fun r hr => (st_rls HS3.out r hr (Hgm.out.valid r hr)).2)
  have HX := Lib.hid (rsame_any (c := c3) (d := j) HS3.out Hw.out HSk.out (by rw [Hj.out, ← Hm.out]; exact Hw.out) (HL.out _ Hb3.out).tens)
  rw [Hj.out, ← Hm.out, sameT_refl, ← Hj.out] at HX
  have q1 : decide ((n : Int) < (j : Int)) = false := decide_eq_false (by omega)
  have q2 : decide ((p : Int) < (y.length : Int)) = false := decide_eq_false (by omega)
  have hnc := Hnc.out
  clear hb HR hS3 hpe
  go_wp2_with fail
  (with_reducible refine HX.out.mono ?_)
  rintro e w4 ⟨rfl, hb⟩
  have Hb4 := Lib.hid (Hb3.out.trans (hb.mono Hb3.out.size))
  clear hb HX
  go_wp2_with fail
  (with_reducible refine (HM.out _ Hb4.out).mono ?_)
  rintro e w5 ⟨rfl, hb⟩
  have Hb5 := Lib.hid (Hb4.out.trans (hb.mono Hb4.out.size))
  clear hb HM
  go_wp2_with (go_at_call 23; (with_reducible refine (HK.out _ Hb5.out).mono ?_); rintro e w9 ⟨rfl, hb⟩; have Hb9 := Lib.hid (Hb5.out.trans (hb.mono Hb5.out.size)); clear hb)
  go_ret
  exact ⟨rfl, Hb9.out⟩
end KT
end Go.Proofs.YtbiopedpceddeaaGreatDoor
end
