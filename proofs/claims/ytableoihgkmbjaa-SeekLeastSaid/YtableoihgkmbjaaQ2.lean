/- Walks of the program's layer of rows: what is asked, operations, equal columns, clones, copies. -/
import Derived.Test.YtableoihgkmbjaaQ1
import Derived.Laws.CopyOwn
import Derived.Deep.RegionLaw
namespace Go.Proofs.Ytableoihgkmbjaa
open Go.RowKit
set_option linter.unusedVariables false

set_option maxRecDepth 100000 in
set_option maxHeartbeats 2000000 in
theorem pasked_any (k w : Int) (A : Option Addr) (m c : Nat) (t : List Int) (W : World) (hA : SlAt (IntR .u32) W A m t) :
    Calls Try.prog 15 #[.agg #[.int .i64 k, .int .i64 w], .slice A m c] W fun e w' => e = .returned (.int .i64 (if K.over k w && K.isTable k.toNat w.toNat t then 0 else 1)) ∧ Below W.heap.size W w' := by
  have HR := Lib.hid (fun W' => isRight_any k w W')
  have HB0 := Lib.hid (show Below W.heap.size W (W.alloc (.cells #[.int .i64 k, .int .i64 w] 44)) from (Below.refl _ _).alloc (Nat.le_refl _) _)
  cases hov : K.over k w
  · rw [hov] at HR
    clear hA hov
    go_enter Try.func15, Try.ntmps15
    go_wp2_with fail
    (with_reducible refine (HR.out _).mono ?_)
    rintro e w2 ⟨rfl, hb2⟩
    have Hb3 := Lib.hid (HB0.out.trans (hb2.mono HB0.out.size)); clear hb2
    go_wp2
    go_ret
    exact ⟨rfl, Hb3.out⟩
  · have hkw := K.over_iff.1 hov
    obtain ⟨kN, rfl⟩ : ∃ kN : Nat, k = kN := ⟨k.toNat, by omega⟩
    obtain ⟨wN, rfl⟩ : ∃ wN : Nat, w = wN := ⟨w.toNat, by omega⟩
    have HT := Lib.hid (fun W' (h : Below W.heap.size W W') => pisTable_any kN wN (by omega) (by omega) A m c t W' (hA.below (monoInt _) h))
    have e1 : (kN : Int).toNat = kN := Int.toNat_natCast kN
    have e2 : (wN : Int).toNat = wN := Int.toNat_natCast wN
    rw [e1, e2]
    clear e1 e2
    obtain ⟨b, hb⟩ : ∃ b, b = K.isTable kN wN t := ⟨_, rfl⟩
    rw [hov] at HR
    rw [← hb] at HT ⊢
    cases b
    all_goals
      clear hA hov hkw hb
      go_enter Try.func15, Try.ntmps15
      go_wp2_with fail
      (with_reducible refine (HR.out _).mono ?_)
      rintro e w2 ⟨rfl, hb2⟩
      have hb3 := HB0.out.trans (hb2.mono HB0.out.size)
      have hc0 : w2.cell? ⟨W.heap.size, 0, none⟩ = some (.int .i64 (kN : Int)) := (hb2.cell (p := ⟨W.heap.size, 0, none⟩) (by simp)).trans (by rw [cell_of_row _ _ _ _ _ (0, 0) (heap_alloc_new W _)]; rfl)
      have hc1 : w2.cell? ⟨W.heap.size, 1, none⟩ = some (.int .i64 (wN : Int)) := (hb2.cell (p := ⟨W.heap.size, 1, none⟩) (by simp)).trans (by rw [cell_of_row _ _ _ _ _ (0, 0) (heap_alloc_new W _)]; rfl)
      have Hcon := Lib.hid (HT.out w2 hb3)
      have Hb3 := Lib.hid hb3
      clear hb2 hb3
      go_wp2_with fail
      (with_reducible refine Hcon.out.mono ?_)
      rintro e w3 ⟨rfl, hb4⟩
      have Hb4 := Lib.hid (Hb3.out.trans (hb4.mono Hb3.out.size)); clear hb4
      go_wp2
      go_ret
      exact ⟨rfl, Hb4.out⟩

theorem poperations_any (W : World) : Calls Try.prog 38 #[] W fun e w' => ∃ c, e = .returned (.slice (some ⟨W.heap.size, 0, none⟩) 7 c) ∧ SlAt (IntR .i64) w' (some ⟨W.heap.size, 0, none⟩) 7 K.ops ∧ Below W.heap.size W w' := by
  go_enter Try.func38, Try.ntmps38
  go_wp2
  go_ret
  refine ⟨7, rfl, ?_, (Below.refl _ _).alloc (Nat.le_refl _) _⟩
  exact (OwnAt.of_new (s := 1) W #[.int .i64 1, .int .i64 2, .int .i64 8, .int .i64 9, .int .i64 10, .int .i64 11, .int .i64 12] 7 rfl (by simp [maxLen])).slInts

set_option maxHeartbeats 400000 in
theorem equalW_any (A B : Option Addr) (n m c d : Nat) (xs ys : List Int) (w : World) (hA : SlAt (IntR .u32) w A n xs) (hB : SlAt (IntR .u32) w B m ys) :
    Calls Try.prog 23 #[.slice A n c, .slice B m d] w fun e w' => e = .returned (.bool (decide (xs = ys))) ∧ Dr w w' := by
  have hn := hA.le
  have hm := hB.le
  have HA := Lib.hid hA; clear hA
  have HB := Lib.hid hB; clear hB
  by_cases hl : n = m
  · subst hl
    go_enter Try.func23, Try.ntmps23
    go_wp2
    go_loopw [13] (fun i wr => ∃ k : Nat, k ≤ n ∧ i = .int .i64 k ∧ Dr w wr ∧ Hid (xs.take k = ys.take k)) (fun i _ => n - (intOf i).toNat)
    case atStart => exact ⟨0, Nat.zero_le _, rfl, Dr.refl _, rfl⟩
    case round =>
      obtain ⟨k, hk, rfl, hdr, HT⟩ := hrel
      by_cases hlt : k < n
      · obtain ⟨x, b, off, u, hx, rfl, _, h1, rfl⟩ := (HA.out.dr (monoInt _) hdr).at_ hlt
        obtain ⟨y, b', off', u', hy, rfl, _, h2, rfl⟩ := (HB.out.dr (monoInt _) hdr).at_ hlt
        have Hx := Lib.hid hx; clear hx
        have Hy := Lib.hid hy; clear hy
        by_cases he : x = y
        · subst he
          go_wp2
          go_quiet (fail)
          go_wp2
          go_roundw
          case rel => exact ⟨k + 1, by omega, by go_num, hdr.drewN _, by show _ = _; rw [take_succ_of Hx.out, take_succ_of Hy.out, HT.out]⟩
          case measure => simp [intOf]; omega
        · have hb : (x != y) = true := by simpa using he
          have Hne := Lib.hid he; clear he
          go_wp2
          go_quiet (fail)
          go_wp2
          go_ret
          refine ⟨ret_bool (decide_eq_false ?_).symm, hdr.drewN _⟩
          rintro rfl
          exact Hne.out (Option.some.inj (Hx.out.symm.trans Hy.out))
      · go_wp2
        go_ret
        have h3 := HT.out
        rw [take_all HA.out.len (by omega), take_all HB.out.len (by omega)] at h3
        exact ⟨ret_bool (decide_eq_true h3).symm, hdr⟩
  · have hb : ((n : Int) != (m : Int)) = true := by simp; omega
    have Hl := Lib.hid hl; clear hl
    go_enter Try.func23, Try.ntmps23
    go_wp2
    go_ret
    refine ⟨ret_bool (decide_eq_false ?_).symm, Dr.refl _⟩
    rintro rfl
    exact Hl.out (HA.out.len.symm.trans HB.out.len)

set_option maxRecDepth 100000 in
set_option maxHeartbeats 2000000 in
theorem cloneS_any (A : Option Addr) (m c : Nat) (row : List K.Stp) (W : World) (hA : StAt 3 StepR W A m row) (hm : m ≤ 1000) :
    Calls Try.prog 30 #[.slice A m c] W fun e w' => ∃ A' c', e = .returned (.slice A' m c') ∧ OwnAt w' 42 3 (.slice A' m c') m (flatS row) ∧ Below W.heap.size W w' ∧ ∀ g, (Value.slice A' m c').ownBlock = some g → W.heap.size ≤ g := by
  have hml := hA.len
  obtain ⟨us, hul, hcs, hR⟩ := hA.cells (by decide)
  have hus : us = flatS row := by
    apply List.ext_getElem?
    intro j
    by_cases hj : j < m * 3
    · have hk : row[j / 3]? = some (row[j / 3]'(by omega)) := List.getElem?_eq_getElem _
      have h1 : (us.drop (j / 3 * 3)).take 3 = cellsS _ := hR _ _ hk
      have h2 := flatS_at row hk
      have e1 : us[j]? = ((us.drop (j / 3 * 3)).take 3)[j % 3]? := by
        rw [List.getElem?_take, if_pos (by omega), List.getElem?_drop, show j / 3 * 3 + j % 3 = j by omega]
      have e2 : (flatS row)[j]? = (((flatS row).drop (j / 3 * 3)).take 3)[j % 3]? := by
        rw [List.getElem?_take, if_pos (by omega), List.getElem?_drop, show j / 3 * 3 + j % 3 = j by omega]
      rw [e1, e2, h1, h2]
    · rw [List.getElem?_eq_none (by omega), List.getElem?_eq_none (by rw [flatS_len]; omega)]
  subst hus
  have Hcs := Lib.hid hcs
  have Hml := Lib.hid hml
  have hul' : (flatS row).length = m * 3 := hul
  have Hul := Lib.hid hul'
  have hn9 : 0 + m ≤ 1000000000 := by omega
  have HB0 := Lib.hid (show Below W.heap.size W (W.alloc (.cells #[] 42)) from (Below.refl _ _).alloc (Nat.le_refl _) _)
  cases A with
  | none =>
    have hm0 : m = 0 := by
      rcases Nat.eq_zero_or_pos m with h | h
      · exact h
      · obtain ⟨x, b, off, u, _, h2, _⟩ := hA.at_ h; cases h2
    subst hm0
    have hrow : row = [] := List.eq_nil_of_length_eq_zero hml
    subst hrow
    have hq := fun (W' : World) => Lib.run_eql_slice_nil (P := Try.prog) W' 26 42 none 0 c 0 0 Try.underlying26
    rw [show (none : Option Addr).isNone = true from rfl] at hq
    clear hA hul hcs hR hml hul' Hcs Hml Hul hn9 hm HB0
    go_enter Try.func30, Try.ntmps30
    go_wp2
    go_ret
    exact ⟨_, _, rfl, OwnAt.nil_ .., Below.refl _ _, fun g hg => by simp [Value.ownBlock] at hg⟩
  | some a =>
    have hq := fun (W' : World) => Lib.run_eql_slice_nil (P := Try.prog) W' 26 42 (some a) m c 0 0 Try.underlying26
    rw [show (some a : Option Addr).isNone = false from rfl] at hq
    clear hA hul hcs hR hml hul'
    go_enter Try.func30, Try.ntmps30
    go_wp2_with (at_builtin; refine wpList_append_src _ rfl (.tmp 5) (.tmp 6) 26 rfl 42 (.agg #[.int .i64 0, .int .i64 0, .int .i64 0]) 3 24 Try.underlying26 infoStep rfl pos3 _ 0 [] rfl (own_zero (heap_alloc_new W _)) (some a) m c (flatS row) rfl Hul.out (src_below Hcs.out HB0.out) (one_flat row) hn9 le64 ?_; intro v' w3 hown' hgr hat2)
    go_ret
    obtain ⟨hb1, hv1⟩ := below_append_src HB0.out HB0.out.size (own_ge (Nat.le_refl _)) hgr hat2
    rw [Nat.zero_add, List.nil_append] at hown'
    obtain ⟨A', c', rfl⟩ := OwnAt.form hown'
    exact ⟨A', c', rfl, hown', hb1, hv1⟩
end Go.Proofs.Ytableoihgkmbjaa
