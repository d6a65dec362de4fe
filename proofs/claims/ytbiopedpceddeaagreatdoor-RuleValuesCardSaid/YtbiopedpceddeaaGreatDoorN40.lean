/- Merged: QT11, QT12, QT13, QT14, QPlainT3. -/
import Derived.Test.YtbiopedpceddeaaGreatDoorN08
set_option linter.unusedVariables false
set_option linter.unusedSimpArgs false
section
namespace Go.Proofs.YtbiopedpceddeaaGreatDoor
open Go.RowKit
set_option linter.unusedVariables false
set_option linter.unusedSimpArgs false

set_option maxRecDepth 100000 in
set_option maxHeartbeats 2000000 in
theorem rwidths_any (t : List T.Nd) (n ct : Nat) (At : Option Addr) (W : World) (hT : StAt 5 NdR W At n t) (hok : T.okVars t) (hn : n ≤ 1000000) :
    Calls Tryz.prog 111 #[.slice At n ct] W fun e w' => ∃ g, e = .returned (.slice (some ⟨g, 0, none⟩) 4 4) ∧ W.heap.size ≤ g ∧ w'.heap[g]? = some (.cells ((T.widths t).map (Value.int .i64)).toArray 3 (0, 0)) ∧ Below W.heap.size W w' := by
  have HT := Lib.hid hT
  have Hok := Lib.hid hok
  have Hlen := Lib.hid hT.len
  clear hT hok
  have hmk := fun (W' : World) => run_make_n (P := Tryz.prog) 60 3 (.int .i64 0) 8 Tryz.underlying60 infoInt rfl .i64 .i64 4 (4 : Int) rfl (by omega) (by omega) W'
  go_enter Tryz.func111, Tryz.ntmps111
  go_wp2
  clear hmk
  go_loopg [4] (n + 1) (fun g i wr => ∃ (j : Nat), j ≤ n ∧ i = .int .i64 (j : Int) ∧ g + j = n + 1 ∧ Below W.heap.size W wr ∧ Hid (wr.heap[W.heap.size]? = some (.cells ((T.widths (t.take j)).map (Value.int .i64)).toArray 3 (0, 0))))
  case atStart => exact ⟨0, Nat.zero_le _, rfl, rfl, (Below.refl _ _).alloc (Nat.le_refl _) _, by show _ = _; rw [List.take_zero]; exact heap_alloc_new W _⟩
  case round =>
    obtain ⟨j, hj, rfl, hgk, hbw, HW⟩ := hrel
    have Hgk := Lib.hid hgk; clear hgk
    by_cases hlt : j < n
    · obtain ⟨x, b, off, A, c, hx, rfl, hb, h0, h1, h2, h3, h4, hs, i0, i1⟩ := nd_cells HT.out hlt
      have k0 := (hbw.cell (p := ⟨b, off + j * 5, none⟩) hb).trans h0
      have k1 := (hbw.cell (p := ⟨b, off + j * 5 + 1, none⟩) hb).trans h1
      have k4 := (hbw.cell (p := ⟨b, off + j * 5 + 4, none⟩) hb).trans h4
      have Htk := Lib.hid (show t.take (j + 1) = t.take j ++ [x] from K.take_succ_at hx)
      have Hokx := Lib.hid (Hok.out x (List.mem_of_getElem? hx))
      obtain ⟨op, w, fl, args, imm⟩ := x
      dsimp only at k0 k1 k4 Hokx i0 i1
      have Hbw := Lib.hid hbw
      have hne : b ≠ W.heap.size := by omega
      clear h0 h1 h2 h3 h4 hs hx hbw
      by_cases ho : op = 33
      · obtain ⟨m4, w1⟩ := Hokx.out.2 ho
        subst ho
        obtain ⟨v, rfl⟩ : ∃ v : Nat, imm = v := ⟨imm.toNat, by omega⟩
        have hv4 : v < 4 := by omega
        obtain ⟨z, hz⟩ := wd_four (t.take j) hv4
        have hcz : wr.cell? ⟨W.heap.size, v, none⟩ = some (.int .i64 z) := by
          rw [cell_of_row _ _ _ _ _ (0, 0) HW.out, List.getElem?_toArray, List.getElem?_map, hz]; rfl
        have hfz : wr.frozen? ⟨W.heap.size, v, none⟩ = false := by simp [World.frozen?, HW.out]
        have HW2 := Lib.hid (show (wr.setCell ⟨W.heap.size, v, none⟩ (.int .i64 w)).heap[W.heap.size]? = some (.cells ((T.widths (t.take (j + 1))).map (Value.int .i64)).toArray 3 (0, 0)) from by
          rw [heap_setCell_same _ _ _ _ _ _ HW.out, Htk.out, T.widths_snoc, if_pos rfl]
          simp [List.map_set])
        have Hb2 := Lib.hid (Hbw.out.setCell (p := ⟨W.heap.size, v, none⟩) (Nat.le_refl _) (.int .i64 w))
        clear hz
        go_wp2
        go_region
        go_wp2
        go_roundg (gk - 1)
        case measure => have := Hgk.out; omega
        case rel => have := Hgk.out; exact ⟨j + 1, by omega, by go_num, by omega, Hb2.out.drew, HW2.out⟩
      · have q : (op == 33) = false := by simpa using ho
        have HW2 := Lib.hid (show wr.heap[W.heap.size]? = some (.cells ((T.widths (t.take (j + 1))).map (Value.int .i64)).toArray 3 (0, 0)) from by rw [Htk.out, T.widths_snoc, if_neg ho]; exact HW.out)
        clear ho
        go_wp2
        go_roundg (gk - 1)
        case measure => have := Hgk.out; omega
        case rel => have := Hgk.out; exact ⟨j + 1, by omega, by go_num, by omega, Hbw.out, HW2.out⟩
    · obtain rfl : j = n := by omega
      have e : t.take j = t := List.take_of_length_le (by rw [Hlen.out]; exact Nat.le_refl _)
      rw [e] at HW
      go_wp2
      go_ret
      exact ⟨W.heap.size, rfl, Nat.le_refl _, HW.out, hbw⟩

end Go.Proofs.YtbiopedpceddeaaGreatDoor
end
section
namespace Go.Proofs.YtbiopedpceddeaaGreatDoor
open Go.RowKit
set_option linter.unusedVariables false
set_option linter.unusedSimpArgs false

namespace T
/-- whether a predicate holds of two words of n bits -/
def cmp (p n a b : Int) : Bool :=
  if p = 0 then decide (a = b) else if p = 1 then !decide (a = b) else if p = 2 then decide (a < b) else if p = 3 then decide (a ≤ b) else if p = 4 then decide (b < a) else if p = 5 then decide (b ≤ a)
  else if p = 6 then decide (B.sg n a < B.sg n b) else if p = 7 then decide (B.sg n a ≤ B.sg n b) else if p = 8 then decide (B.sg n b < B.sg n a) else decide (B.sg n b ≤ B.sg n a)
end T

theorem ret_b0 {a b : Bool} (h : a = b) : Ending.returned (.tuple #[.bool a, .int .i64 0]) = .returned (.tuple #[.bool b, .int .i64 0]) := by rw [h]
theorem dec_eq (a b : Int) : (a == b) = decide (a = b) := by by_cases h : a = b <;> simp [h]

theorem isPred_any (p : Int) (h0 : 0 ≤ p) (h1 : p ≤ 9) (W : World) : Calls Tryz.prog 101 #[.int .i64 p] W fun e w' => e = .returned (.bool true) ∧ W = w' := by
  go_enter Tryz.func101, Tryz.ntmps101
  go_wp2
  go_ret
  exact ⟨rfl, rfl⟩

set_option maxRecDepth 100000 in
set_option maxHeartbeats 4000000 in
theorem pCompare_any (p n a b : Int) (W : World) (hp0 : 0 ≤ p) (hp1 : p ≤ 9) (hn0 : 1 ≤ n) (hn1 : n ≤ 32) (ha0 : 0 ≤ a) (ha1 : a < B.pw n) (hb0 : 0 ≤ b) (hb1 : b < B.pw n) :
    Calls Tryz.prog 48 #[.int .i64 p, .int .i64 n, .int .u32 a, .int .u32 b] W fun e w' => e = .returned (.tuple #[.bool (T.cmp p n a b), .int .i64 0]) ∧ Below W.heap.size W w' := by
  have hl := B.pw_le hn1
  have HP := Lib.hid (fun W' => isPred_any p hp0 hp1 W')
  have hT : SlAt (IntR .u32) (W.alloc (.cells #[.int .u32 a, .int .u32 b] 26)) (some ⟨W.heap.size, 0, none⟩) 2 [a, b] :=
    (OwnAt.of_new (s := 1) W #[.int .u32 a, .int .u32 b] 2 rfl (by simp [maxLen])).slInts
  have hF := fits_any n _ 2 2 [a, b] _ hT
  have hfit : (B.isWd n && [a, b].all fun x => decide (x < B.pw n)) = true := by
    rw [B.isWd_iff.2 ⟨hn0, hn1⟩]; simp [ha1, hb1]
  rw [hfit] at hF
  have HF := Lib.hid hF
  have HA := Lib.hid (fun W' => signed_any n a W' hn0 hn1 ha0 ha1)
  have HB := Lib.hid (fun W' => signed_any n b W' hn0 hn1 hb0 hb1)
  have HBl := Lib.hid (show Below W.heap.size W (W.alloc (.cells #[.int .u32 a, .int .u32 b] 26)) from (Below.refl _ _).alloc (Nat.le_refl _) _)
  have ha9 : a < 4294967296 := by omega
  have hb9 : b < 4294967296 := by omega
  clear hT hF hfit ha1 hb1 hl
  obtain ⟨r, hr⟩ : ∃ r, r = T.cmp p n a b := ⟨_, rfl⟩
  rw [← hr]
  have hp : p = 0 ∨ p = 1 ∨ p = 2 ∨ p = 3 ∨ p = 4 ∨ p = 5 ∨ p = 6 ∨ p = 7 ∨ p = 8 ∨ p = 9 := by omega
  rcases hp with rfl | rfl | rfl | rfl | rfl | rfl | rfl | rfl | rfl | rfl
  iterate 6
    have Hr := Lib.hid hr
    clear hr hp0 hp1
    go_enter Tryz.func48, Tryz.ntmps48
    go_wp2_with (first | (go_at_call 101; (with_reducible refine (HP.out _).mono ?_); rintro e w1 ⟨rfl, rfl⟩) | (go_at_call 102; (with_reducible refine HF.out.mono ?_); rintro e w2 ⟨rfl, rfl⟩) | fail)
    go_ret2
    exact ⟨ret_b0 (by rw [Hr.out]; by_cases hab : a = b <;> simp [T.cmp, dec_eq, hab]), HBl.out⟩
  all_goals
    obtain ⟨sa, hsa⟩ : ∃ sa, sa = B.sg n a := ⟨_, rfl⟩
    obtain ⟨sb, hsb⟩ : ∃ sb, sb = B.sg n b := ⟨_, rfl⟩
    have Hr := Lib.hid (show r = _ from hr)
    unfold T.cmp at Hr
    rw [← hsa, ← hsb] at Hr
    rw [← hsa] at HA
    rw [← hsb] at HB
    clear hr hp0 hp1 hsa hsb
    go_enter Tryz.func48, Tryz.ntmps48
    go_wp2_with (first | (go_at_call 101; (with_reducible refine (HP.out _).mono ?_); rintro e w1 ⟨rfl, rfl⟩) | (go_at_call 102; (with_reducible refine HF.out.mono ?_); rintro e w2 ⟨rfl, rfl⟩) | (go_at_call 103; (with_reducible refine (HA.out _).mono ?_); rintro e w3 ⟨rfl, rfl⟩) | (go_at_call 103; (with_reducible refine (HB.out _).mono ?_); rintro e w4 ⟨rfl, rfl⟩) | fail)
    go_ret2
    exact ⟨ret_b0 (by rw [Hr.out]; simp), HBl.out⟩
end Go.Proofs.YtbiopedpceddeaaGreatDoor
end
section
namespace Go.Proofs.YtbiopedpceddeaaGreatDoor
open Go.RowKit
set_option linter.unusedVariables false
set_option linter.unusedSimpArgs false

namespace T
/-- whether a predicate holds of two numbers -/
def cmpI (p x y : Int) : Bool :=
  if p = 0 then decide (x = y) else if p = 1 then !decide (x = y) else if p = 2 ∨ p = 6 then decide (x < y) else if p = 3 ∨ p = 7 then decide (x ≤ y) else if p = 4 ∨ p = 8 then decide (y < x) else decide (y ≤ x)

theorem cmp_hi {p n a b : Int} (h0 : 6 ≤ p) (h1 : p ≤ 9) : cmp p n a b = cmpI p (B.sg n a) (B.sg n b) := by
  have hp : p = 6 ∨ p = 7 ∨ p = 8 ∨ p = 9 := by omega
  rcases hp with rfl | rfl | rfl | rfl <;> simp [cmp, cmpI]
theorem cmp_lo {p n a b : Int} (h0 : 0 ≤ p) (h1 : p < 6) : cmp p n a b = cmpI p a b := by
  have hp : p = 0 ∨ p = 1 ∨ p = 2 ∨ p = 3 ∨ p = 4 ∨ p = 5 := by omega
  rcases hp with rfl | rfl | rfl | rfl | rfl | rfl <;> simp [cmp, cmpI]
end T

theorem ret_b1 {a b : Bool} (h : a = b) : Ending.returned (.bool a) = .returned (.bool b) := by rw [h]

theorem rispred_any (p : Int) (h0 : 0 ≤ p) (h1 : p ≤ 9) (W : World) : Calls Tryz.prog 162 #[.int .i64 p] W fun e w' => e = .returned (.bool true) ∧ W = w' := by
  go_enter Tryz.func162, Tryz.ntmps162
  go_wp2
  go_ret
  exact ⟨rfl, rfl⟩

set_option maxRecDepth 100000 in
set_option maxHeartbeats 4000000 in
theorem rcompare_any (p x y : Int) (W : World) (hp0 : 0 ≤ p) (hp1 : p ≤ 9) :
    Calls Tryz.prog 163 #[.int .i64 p, .int .i64 x, .int .i64 y] W fun e w' => e = .returned (.bool (T.cmpI p x y)) ∧ W = w' := by
  obtain ⟨r, hr⟩ : ∃ r, r = T.cmpI p x y := ⟨_, rfl⟩
  rw [← hr]
  have hp : p = 0 ∨ p = 1 ∨ p = 2 ∨ p = 3 ∨ p = 4 ∨ p = 5 ∨ p = 6 ∨ p = 7 ∨ p = 8 ∨ p = 9 := by omega
  rcases hp with rfl | rfl | rfl | rfl | rfl | rfl | rfl | rfl | rfl | rfl
  all_goals
    have Hr := Lib.hid hr
    clear hr hp0 hp1
    go_enter Tryz.func163, Tryz.ntmps163
    go_wp2
    go_ret
    exact ⟨ret_b1 (by rw [Hr.out]; by_cases hxy : x = y <;> simp [T.cmpI, dec_eq, hxy]), rfl⟩

set_option maxRecDepth 100000 in
set_option maxHeartbeats 4000000 in
theorem rCompare_any (p n a b : Int) (W : World) (hp0 : 0 ≤ p) (hp1 : p ≤ 9) (hn0 : 1 ≤ n) (hn1 : n ≤ 32) (ha0 : 0 ≤ a) (ha1 : a < B.pw n) (hb0 : 0 ≤ b) (hb1 : b < B.pw n) :
    Calls Tryz.prog 113 #[.int .i64 p, .int .i64 n, .int .u32 a, .int .u32 b] W fun e w' => e = .returned (.tuple #[.bool (T.cmp p n a b), .int .i64 0]) ∧ W = w' := by
  have hl := B.pw_le hn1
  have ha9 : a < 4294967296 := by omega
  have hb9 : b < 4294967296 := by omega
  have HP := Lib.hid (fun W' => rispred_any p hp0 hp1 W')
  have hwa : B.isW n a = true := by unfold B.isW; rw [B.isWd_iff.2 ⟨hn0, hn1⟩]; simp [ha1]
  have hwb : B.isW n b = true := by unfold B.isW; rw [B.isWd_iff.2 ⟨hn0, hn1⟩]; simp [hb1]
  have HWA := Lib.hid (fun W' => by have := isWord_any n a W' ha0 ha9; rw [hwa] at this; exact this)
  have HWB := Lib.hid (fun W' => by have := isWord_any n b W' hb0 hb9; rw [hwb] at this; exact this)
  have HA := Lib.hid (fun W' => rsign_any n a W' hn0 hn1 ha0 ha9)
  have HB := Lib.hid (fun W' => rsign_any n b W' hn0 hn1 hb0 hb9)
  obtain ⟨r, hr⟩ : ∃ r, r = T.cmp p n a b := ⟨_, rfl⟩
  rw [← hr]
  clear hwa hwb ha1 hb1 hl
  by_cases hc : 6 ≤ p
  · rw [T.cmp_hi hc hp1] at hr
    have HC := Lib.hid (fun W' => by have := rcompare_any p (B.sg n a) (B.sg n b) W' hp0 hp1; rw [← hr] at this; exact this)
    generalize B.sg n a = sa at HA HC hr
    generalize B.sg n b = sb at HB HC hr
    have Hr := Lib.hid hr
    clear hr
    go_enter Tryz.func113, Tryz.ntmps113
    go_wp2_with (first | (go_at_call 162; (with_reducible refine (HP.out _).mono ?_); rintro e w1 ⟨rfl, rfl⟩) | (go_at_call 112; (with_reducible refine (HWA.out _).mono ?_); rintro e w2 ⟨rfl, rfl⟩) | (go_at_call 112; (with_reducible refine (HWB.out _).mono ?_); rintro e w2 ⟨rfl, rfl⟩) | (go_at_call 118; (with_reducible refine (HA.out _).mono ?_); rintro e w3 ⟨rfl, rfl⟩) | (go_at_call 118; (with_reducible refine (HB.out _).mono ?_); rintro e w4 ⟨rfl, rfl⟩) | (go_at_call 163; (with_reducible refine (HC.out _).mono ?_); rintro e w5 ⟨rfl, rfl⟩) | fail)
    go_ret2
    exact ⟨rfl, rfl⟩
  · have hc' : p < 6 := by omega
    rw [T.cmp_lo hp0 hc'] at hr
    have HC := Lib.hid (fun W' => by have := rcompare_any p a b W' hp0 hp1; rw [← hr] at this; exact this)
    have Hr := Lib.hid hr
    clear hr HA HB
    go_enter Tryz.func113, Tryz.ntmps113
    go_wp2_with (first | (go_at_call 162; (with_reducible refine (HP.out _).mono ?_); rintro e w1 ⟨rfl, rfl⟩) | (go_at_call 112; (with_reducible refine (HWA.out _).mono ?_); rintro e w2 ⟨rfl, rfl⟩) | (go_at_call 112; (with_reducible refine (HWB.out _).mono ?_); rintro e w2 ⟨rfl, rfl⟩) | (go_at_call 163; (with_reducible refine (HC.out _).mono ?_); rintro e w5 ⟨rfl, rfl⟩) | fail)
    go_ret2
    exact ⟨rfl, rfl⟩
end Go.Proofs.YtbiopedpceddeaaGreatDoor
end
section
namespace Go.Proofs.YtbiopedpceddeaaGreatDoor
open Go.RowKit
set_option linter.unusedVariables false
set_option linter.unusedSimpArgs false

namespace T
/-- a word of n bits, turned to a word of m bits -/
def ext (k n m x : Int) : Int := if k = 16 then x else if k = 17 then B.sg n x % B.pw m else x % B.pw m
structure ExtOk (k n m x : Int) : Prop where
  n0 : 1 ≤ n
  n1 : n ≤ 32
  m0 : 1 ≤ m
  m1 : m ≤ 32
  x0 : 0 ≤ x
  x1 : x < B.pw n
  kk : (k = 16 ∧ n < m) ∨ (k = 17 ∧ n < m) ∨ (k = 18 ∧ m < n)
end T

theorem ret_w0 {a a' : Int} (h : a = a') : Ending.returned (.tuple #[.int .u32 a, .int .i64 0]) = .returned (.tuple #[.int .u32 a', .int .i64 0]) := by rw [h]

set_option maxRecDepth 100000 in
set_option maxHeartbeats 4000000 in
theorem pExtend_any (k n m x : Int) (W : World) (h : T.ExtOk k n m x) :
    Calls Tryz.prog 49 #[.int .i64 k, .int .i64 n, .int .i64 m, .int .u32 x] W fun e w' => e = .returned (.tuple #[.int .u32 (T.ext k n m x), .int .i64 0]) ∧ Below W.heap.size W w' := by
  obtain ⟨hn0, hn1, hm0, hm1, hx0, hx1, hk⟩ := h
  have hl := B.pw_le hn1
  have hT : SlAt (IntR .u32) (W.alloc (.cells #[.int .u32 x] 26)) (some ⟨W.heap.size, 0, none⟩) 1 [x] :=
    (OwnAt.of_new (s := 1) W #[.int .u32 x] 1 rfl (by simp [maxLen])).slInts
  have hF := fits_any n _ 1 1 [x] _ hT
  have hfit : (B.isWd n && [x].all fun x => decide (x < B.pw n)) = true := by
    rw [B.isWd_iff.2 ⟨hn0, hn1⟩]; simp [hx1]
  rw [hfit] at hF
  have HF := Lib.hid hF
  have HW := Lib.hid (fun W' => by have := isWidth_any m W'; rw [B.isWd_iff.2 ⟨hm0, hm1⟩] at this; exact this)
  have HA := Lib.hid (fun W' => signed_any n x W' hn0 hn1 hx0 hx1)
  have HM := Lib.hid (fun W' => mask_any m W' (by omega) hm1)
  have HBl := Lib.hid (show Below W.heap.size W (W.alloc (.cells #[.int .u32 x] 26)) from (Below.refl _ _).alloc (Nat.le_refl _) _)
  have hx9 : x < 4294967296 := by omega
  have Hb := Lib.hid (B.mask_mod (B.sg n x) hm1)
  have Hd := Lib.hid (B.and_mask (n := m) (x := x) hm1 hx0 hx9)
  clear hT hF hfit hx1 hl
  rcases hk with ⟨rfl, hnm⟩ | ⟨rfl, hnm⟩ | ⟨rfl, hnm⟩
  all_goals
    go_enter Tryz.func49, Tryz.ntmps49
    go_wp2_with (first | (go_at_call 104; (with_reducible refine (HW.out _).mono ?_); rintro e w1 ⟨rfl, rfl⟩) | (go_at_call 102; (with_reducible refine HF.out.mono ?_); rintro e w2 ⟨rfl, rfl⟩) | (go_at_call 103; (with_reducible refine (HA.out _).mono ?_); rintro e w3 ⟨rfl, rfl⟩) | (go_at_call 105; (with_reducible refine (HM.out _).mono ?_); rintro e w4 ⟨rfl, rfl⟩) | fail)
    go_ret2
  · exact ⟨rfl, HBl.out⟩
  · refine ⟨ret_w0 ?_, HBl.out⟩
    simp only [T.ext, if_pos, if_neg, reduceIte, Int.reduceEq]
    first | exact Hb.out | (rw [IntKind.wrap_u64]; exact Hb.out) | (have := Hb.out; simpa using this)
  · refine ⟨ret_w0 ?_, HBl.out⟩
    simp only [T.ext, if_pos, if_neg, reduceIte, Int.reduceEq]
    exact Hd.out

set_option maxRecDepth 100000 in
set_option maxHeartbeats 4000000 in
theorem rExtend_any (k n m x : Int) (W : World) (h : T.ExtOk k n m x) :
    Calls Tryz.prog 114 #[.int .i64 k, .int .i64 n, .int .i64 m, .int .u32 x] W fun e w' => e = .returned (.tuple #[.int .u32 (T.ext k n m x), .int .i64 0]) ∧ W = w' := by
  obtain ⟨hn0, hn1, hm0, hm1, hx0, hx1, hk⟩ := h
  have hl := B.pw_le hn1
  have hx9 : x < 4294967296 := by omega
  have hwx : B.isW n x = true := by unfold B.isW; rw [B.isWd_iff.2 ⟨hn0, hn1⟩]; simp [hx1]
  have HX := Lib.hid (fun W' => by have := isWord_any n x W' hx0 hx9; rw [hwx] at this; exact this)
  have HW := Lib.hid (fun W' => by have := risWidth_any m W'; rw [B.isWd_iff.2 ⟨hm0, hm1⟩] at this; exact this)
  have HA := Lib.hid (fun W' => rsign_any n x W' hn0 hn1 hx0 hx9)
  have hs : -9223372036854775808 ≤ B.sg n x ∧ B.sg n x ≤ 9223372036854775807 := by
    have := B.pw_pos n
    unfold B.sg; split <;> omega
  have HC := Lib.hid (fun W' => wrap_any m (B.sg n x) W' (by omega) hm1 hs.1 hs.2)
  have HD := Lib.hid (fun W' => wrap_any m x W' (by omega) hm1 (by omega) (by omega))
  have hm : n < m → x % B.pw m = x := by
    intro hnm
    refine Int.emod_eq_of_lt hx0 ?_
    have : B.pw n ≤ B.pw m := by
      rw [B.pw_nat, B.pw_nat]
      exact Int.ofNat_le.2 (Nat.pow_le_pow_right (by decide) (by omega))
    omega
  have Hm := Lib.hid hm
  obtain ⟨r, hr⟩ : ∃ r, r = T.ext k n m x := ⟨_, rfl⟩
  rw [← hr]
  unfold T.ext at hr
  generalize B.sg n x = sx at HA HC hr
  have Hr := Lib.hid hr
  clear hwx hx1 hl hs hm hr
  rcases hk with ⟨rfl, hnm⟩ | ⟨rfl, hnm⟩ | ⟨rfl, hnm⟩
  all_goals
    go_enter Tryz.func114, Tryz.ntmps114
    go_wp2_with (first | (go_at_call 161; (with_reducible refine (HW.out _).mono ?_); rintro e w1 ⟨rfl, rfl⟩) | (go_at_call 112; (with_reducible refine (HX.out _).mono ?_); rintro e w2 ⟨rfl, rfl⟩) | (go_at_call 118; (with_reducible refine (HA.out _).mono ?_); rintro e w3 ⟨rfl, rfl⟩) | (go_at_call 164; (with_reducible refine (HC.out _).mono ?_); rintro e w4 ⟨rfl, rfl⟩) | (go_at_call 164; (with_reducible refine (HD.out _).mono ?_); rintro e w5 ⟨rfl, rfl⟩) | fail)
    go_ret2
  · exact ⟨ret_w0 (by rw [Hr.out, Hm.out hnm]; simp), rfl⟩
  · exact ⟨ret_w0 (by rw [Hr.out]; simp), rfl⟩
  · exact ⟨ret_w0 (by rw [Hr.out]; simp), rfl⟩
end Go.Proofs.YtbiopedpceddeaaGreatDoor
end
section
namespace Go.Proofs.YtbiopedpceddeaaGreatDoor
set_option linter.unusedVariables false
set_option linter.unusedSimpArgs false

namespace T
theorem getD_lt {α : Type} {l : List α} {d : α} {i : Nat} (h : i < l.length) : l.getD i d = l[i] := by
  rw [List.getD_eq_getElem?_getD, List.getElem?_eq_getElem h]; rfl
theorem getD_l {α : Type} {l m : List α} {d : α} {i : Nat} (h : i < l.length) : (l ++ m).getD i d = l.getD i d := by
  rw [List.getD_eq_getElem?_getD, List.getD_eq_getElem?_getD, List.getElem?_append_left h]
theorem getD_end {α : Type} {l : List α} {d a : α} : (l ++ [a]).getD l.length d = a := by
  rw [List.getD_eq_getElem?_getD]; simp
/-- the value of operand number i, of the values so far -/
def at_ (vs : List Int) (x : Nd) (i : Nat) : Int := vs.getD (x.args.getD i 0).toNat 0
/-- the value of a node -/
def val (t : List Nd) (vs env : List Int) (x : Nd) : Int :=
  if x.op = 0 then x.imm
  else if x.op = 33 then env.getD x.imm.toNat 0
  else if x.op = 14 then (if cmp x.imm (wd t x 0) (at_ vs x 0) (at_ vs x 1) = true then 1 else 0)
  else if x.op = 15 then at_ vs x (2 - at_ vs x 0).toNat
  else if 16 ≤ x.op then ext x.op (wd t x 0) x.w (at_ vs x 0)
  else B.full x.op x.w (at_ vs x 0) (at_ vs x 1)
/-- the values of the first j nodes -/
def valsTo (t : List Nd) (env : List Int) : Nat → List Int
  | 0 => []
  | j + 1 => valsTo t env j ++ [val t (valsTo t env j) env (t.getD j default)]
def vals (t : List Nd) (env : List Int) : List Int := valsTo t env t.length

theorem valsTo_len (t : List Nd) (env : List Int) (j : Nat) : (valsTo t env j).length = j := by
  induction j with
  | zero => rfl
  | succ j ih => simp [valsTo, ih]
theorem vals_len (t : List Nd) (env : List Int) : (vals t env).length = t.length := valsTo_len t env _

/-- a term that stands, and an environment that fits it -/
structure Std (t : List Nd) (env : List Int) : Prop where
  sh : ∀ (i : Nat) (x : Nd), t[i]? = some x → shaped false i x = true
  ty : ∀ (i : Nat) (x : Nd), t[i]? = some x → typed t x = true
  im : ∀ x ∈ t, 0 ≤ x.imm
  en : env.length = 4
  ev : ∀ (i : Nat) (x : Nd), t[i]? = some x → x.op = 33 → 0 ≤ env.getD x.imm.toNat 0 ∧ env.getD x.imm.toNat 0 < B.pw x.w

/-- each value is a word of its node -/
def Words (t : List Nd) (vs : List Int) : Prop := ∀ (i : Nat) (x : Nd), i < vs.length → t[i]? = some x → 0 ≤ vs.getD i 0 ∧ vs.getD i 0 < B.pw x.w

theorem Words.at_ {t : List Nd} {vs : List Int} (h : Words t vs) {x : Nd} {i : Nat} (hj : vs.length ≤ t.length) (hi : i < x.args.length) (hx : ∀ a ∈ x.args, 0 ≤ a ∧ a < (vs.length : Int)) : 0 ≤ T.at_ vs x i ∧ T.at_ vs x i < B.pw (wd t x i) := by
  have ha : x.args.getD i 0 ∈ x.args := by
    rw [getD_lt hi]; exact List.getElem_mem hi
  have hb := hx _ ha
  have hc : (x.args.getD i 0).toNat < vs.length := by omega
  have hd : (x.args.getD i 0).toNat < t.length := by omega
  have he : t[(x.args.getD i 0).toNat]? = some (t.getD (x.args.getD i 0).toNat default) := by
    rw [getD_lt hd]; exact List.getElem?_eq_getElem hd
  exact h _ _ hc he

/-- what a node of a standing term has, for its own sort -/
structure Nod (t : List Nd) (env vs : List Int) (x : Nd) : Prop where
  w0 : 1 ≤ x.w
  w1 : x.w ≤ 32
  i0 : 0 ≤ x.imm
  len : (x.args.length : Int) = ar x.op
  ar0 : 0 ≤ ar x.op
  lo : ∀ i, i < x.args.length → 0 ≤ x.args.getD i 0 ∧ x.args.getD i 0 < (vs.length : Int)
  wd : ∀ i, i < x.args.length → 1 ≤ T.wd t x i ∧ T.wd t x i ≤ 32
  at_ : ∀ i, i < x.args.length → 0 ≤ T.at_ vs x i ∧ T.at_ vs x i < B.pw (T.wd t x i)
  imm : immOk x = true
  ty : typed t x = true

theorem Std.nod {t : List Nd} {env vs : List Int} (h : Std t env) (hw : Words t vs) {x : Nd} (hx : t[vs.length]? = some x) : Nod t env vs x := by
  have hs := shaped_args (h.sh _ _ hx)
  have hl : vs.length < t.length := by
    rcases Nat.lt_or_ge vs.length t.length with h1 | h1
    · exact h1
    · rw [List.getElem?_eq_none h1] at hx; cases hx
  have hm : x ∈ t := List.mem_of_getElem? hx
  have hlo : ∀ i, i < x.args.length → 0 ≤ x.args.getD i 0 ∧ x.args.getD i 0 < (vs.length : Int) := by
    intro i hi
    rw [getD_lt hi]
    exact hs.2.2.2.2.2 _ (List.getElem_mem hi)
  refine ⟨hs.2.2.1, hs.2.2.2.1, h.im _ hm, hs.1, hs.2.1, hlo, ?_, fun i hi => hw.at_ (by omega) hi hs.2.2.2.2.2, hs.2.2.2.2.1, h.ty _ _ hx⟩
  intro i hi
  have hb := hlo i hi
  have hd : (x.args.getD i 0).toNat < t.length := by omega
  have he : t[(x.args.getD i 0).toNat]? = some (t.getD (x.args.getD i 0).toNat default) := by
    rw [getD_lt hd]; exact List.getElem?_eq_getElem hd
  have hz := shaped_args (h.sh _ _ he)
  exact ⟨hz.2.2.1, hz.2.2.2.1⟩

/-- what an extension has -/
theorem Nod.ext {t : List Nd} {env vs : List Int} {x : Nd} (h : Nod t env vs x) (h16 : 16 ≤ x.op) (h33 : x.op ≠ 33) : x.args.length = 1 ∧ ExtOk x.op (T.wd t x 0) x.w (T.at_ vs x 0) := by
  have h0 := h.ar0
  have hl := h.len
  have hk : x.op = 16 ∨ x.op = 17 ∨ x.op = 18 := by
    unfold ar at h0
    split at h0
    · omega
    · split at h0
      · omega
      · split at h0
        · omega
        · split at h0 <;> omega
  have hl1 : x.args.length = 1 := by
    unfold ar at hl
    rcases hk with e | e | e <;> rw [e] at hl <;> simp at hl <;> omega
  have ht := h.ty
  have hw := h.wd 0 (by omega)
  have ha := h.at_ 0 (by omega)
  refine ⟨hl1, hw.1, hw.2, h.w0, h.w1, ha.1, ha.2, ?_⟩
  unfold typed at ht
  rcases hk with e | e | e <;> rw [e] at ht ⊢ <;> simp at ht <;> omega

/-- what a comparison has -/
theorem Nod.cmp {t : List Nd} {env vs : List Int} {x : Nd} (h : Nod t env vs x) (h14 : x.op = 14) : x.args.length = 2 ∧ 0 ≤ x.imm ∧ x.imm ≤ 9 ∧ T.wd t x 1 = T.wd t x 0 := by
  have hl := h.len
  have hi := h.imm
  have ht := h.ty
  have h0 := h.i0
  unfold ar at hl
  unfold immOk at hi
  unfold typed at ht
  rw [h14] at hl hi ht
  simp at hl hi ht
  exact ⟨by omega, h0, hi, ht.symm⟩

/-- what a choice has -/
theorem Nod.ite {t : List Nd} {env vs : List Int} {x : Nd} (h : Nod t env vs x) (h15 : x.op = 15) : x.args.length = 3 ∧ T.wd t x 1 = x.w ∧ T.wd t x 2 = x.w ∧ (T.at_ vs x 0 = 0 ∨ T.at_ vs x 0 = 1) := by
  have hl := h.len
  have ht := h.ty
  unfold ar at hl
  unfold typed at ht
  rw [h15] at hl ht
  simp at hl ht
  have ha := h.at_ 0 (by omega)
  rw [ht.1.1] at ha
  have : B.pw 1 = 2 := by decide
  refine ⟨by omega, ht.1.2, ht.2, by omega⟩

/-- what an operation has -/
theorem Nod.bin {t : List Nd} {env vs : List Int} {x : Nd} (h : Nod t env vs x) (h0 : x.op ≠ 0) (h14 : x.op < 14) : x.args.length = 2 ∧ 1 ≤ x.op ∧ x.op ≤ 13 ∧ T.wd t x 0 = x.w ∧ T.wd t x 1 = x.w := by
  have hl := h.len
  have ht := h.ty
  have ha := h.ar0
  have h1 : 1 ≤ x.op ∧ x.op ≤ 13 := by
    unfold ar at ha
    split at ha
    · omega
    · split at ha
      · omega
      · split at ha
        · omega
        · split at ha <;> omega
  unfold ar at hl
  rw [if_neg (by omega), if_pos (by omega)] at hl
  unfold typed at ht
  rw [if_pos h1] at ht
  simp at ht
  exact ⟨by omega, h1.1, h1.2, ht.1, ht.2⟩

theorem ext_word {k n m x : Int} (h : ExtOk k n m x) : 0 ≤ ext k n m x ∧ ext k n m x < B.pw m := by
  obtain ⟨n0, n1, m0, m1, x0, x1, hk⟩ := h
  have hp := B.pw_pos m
  unfold ext
  rcases hk with ⟨rfl, hnm⟩ | ⟨rfl, hnm⟩ | ⟨rfl, hnm⟩
  · have : B.pw n ≤ B.pw m := by
      rw [B.pw_nat, B.pw_nat]
      exact Int.ofNat_le.2 (Nat.pow_le_pow_right (by decide) (by omega))
    rw [if_pos rfl]; omega
  · rw [if_neg (by decide), if_pos rfl]
    exact ⟨Int.emod_nonneg _ (by omega), Int.emod_lt_of_pos _ hp⟩
  · rw [if_neg (by decide), if_neg (by decide)]
    exact ⟨Int.emod_nonneg _ (by omega), Int.emod_lt_of_pos _ hp⟩

theorem val_word {t : List Nd} {env vs : List Int} (h : Std t env) (hw : Words t vs) {x : Nd} (hx : t[vs.length]? = some x) : 0 ≤ val t vs env x ∧ val t vs env x < B.pw x.w := by
  have hn := h.nod hw hx
  unfold val
  by_cases h0 : x.op = 0
  · rw [if_pos h0]
    have hi := hn.imm
    unfold immOk at hi
    rw [if_pos h0] at hi
    unfold B.isW at hi
    simp at hi
    exact ⟨hn.i0, hi.2⟩
  rw [if_neg h0]
  by_cases h1 : x.op = 33
  · rw [if_pos h1]; exact h.ev _ _ hx h1
  rw [if_neg h1]
  by_cases h2 : x.op = 14
  · rw [if_pos h2]
    have hp : (1 : Int) < B.pw x.w := by
      have h3 := B.pw_succ hn.w0
      have h4 := B.pw_pos (x.w - 1)
      omega
    split <;> omega
  rw [if_neg h2]
  by_cases h3 : x.op = 15
  · rw [if_pos h3]
    obtain ⟨hl, w1, w2, ha⟩ := hn.ite h3
    rcases ha with ha | ha
    · rw [ha]
      have := hn.at_ 2 (by omega)
      rw [w2] at this
      exact this
    · rw [ha]
      have := hn.at_ 1 (by omega)
      rw [w1] at this
      exact this
  rw [if_neg h3]
  by_cases h4 : 16 ≤ x.op
  · rw [if_pos h4]
    exact ext_word (hn.ext h4 h1).2
  rw [if_neg h4]
  obtain ⟨hl, o0, o1, w1, w2⟩ := hn.bin h0 (by omega)
  have a0 := hn.at_ 0 (by omega)
  have a1 := hn.at_ 1 (by omega)
  rw [w1] at a0
  rw [w2] at a1
  exact B.full_word o0 o1 hn.w0 a0.1 a0.2 a1.1 a1.2

theorem valsTo_words {t : List Nd} {env : List Int} (h : Std t env) (j : Nat) (hj : j ≤ t.length) : Words t (valsTo t env j) := by
  induction j with
  | zero => intro i x hi; simp [valsTo] at hi
  | succ j ih =>
    have ih := ih (by omega)
    have hx : t[(valsTo t env j).length]? = some (t.getD j default) := by
      rw [valsTo_len, getD_lt (by omega)]; exact List.getElem?_eq_getElem (by omega)
    have hv := val_word h ih hx
    intro i x hi hxi
    rw [valsTo_len] at hi
    by_cases hc : i < j
    · have := ih i x (by rw [valsTo_len]; exact hc) hxi
      rw [valsTo, getD_l (by rw [valsTo_len]; exact hc)]
      exact this
    · have he : i = j := by omega
      subst he
      rw [valsTo_len, hxi] at hx
      obtain rfl : x = t.getD i default := by injection hx
      have hg := getD_end (l := valsTo t env i) (d := (0 : Int)) (a := val t (valsTo t env i) env (t.getD i default))
      rw [valsTo_len] at hg
      rw [valsTo, hg]
      exact hv
end T
end Go.Proofs.YtbiopedpceddeaaGreatDoor
end
