/- The law SeekShortest: the program's Shortest, the comparison, the example, the law. -/
import Derived.Test.YtableoihgkmbjaaQ11
import Derived.Test.YtableoihgkmbjaaK6
import Derived.BigGuardPart
import Derived.Laws.StructEq
namespace Go.Proofs.Ytableoihgkmbjaa
open Go.RowKit
set_option linter.unusedVariables false
set_option linter.unusedSimpArgs false

theorem shortest_cases (k w : Int) (t : List Int) : K.shortest k w t = if (K.over k w && K.isTable k.toNat w.toNat t) = true then (match K.first k.toNat w.toNat t 3 with | some r => (r, true, (0 : Int)) | none => ([], false, 0)) else ([], false, 1) := by
  unfold K.shortest
  cases K.over k w <;> cases K.isTable k.toNat w.toNat t <;> first | rfl | simp

set_option maxRecDepth 100000 in
set_option maxHeartbeats 1000000 in
theorem pShortest_any (k w : Int) (A : Option Addr) (m c : Nat) (t : List Int) (W : World) (hA : SlAt (IntR .u32) W A m t) :
    Calls Try.prog 7 #[.int .i64 k, .int .i64 w, .slice A m c] W (Res3 W (K.shortest k w t)) := by
  have HP := Lib.hid (fun W' (h : Below W.heap.size W W') => pasked_any k w A m c t W' (hA.below (monoInt _) h))
  have hB1 := Lib.hid (show Below W.heap.size W (W.alloc (.cells #[.int .i64 k, .int .i64 w] 44)) from (Below.refl _ _).alloc (Nat.le_refl _) _)
  have hS1 : (W.alloc (.cells #[.int .i64 k, .int .i64 w] 44)).heap[W.heap.size]? = some (.cells #[.int .i64 k, .int .i64 w] 44 (0, 0)) := heap_alloc_new W _
  have HS1 := Lib.hid hS1
  have HA := Lib.hid hA
  cases hc : (K.over k w && K.isTable k.toNat w.toNat t)
  · have hs : K.shortest k w t = ([], false, 1) := by rw [shortest_cases, hc]; rfl
    rw [hs]
    rw [hc] at HP
    clear hs hc hA hS1
    go_enter Try.func7, Try.ntmps7
    go_wp2_with fail
    refine (HP.out _ hB1.out).mono ?_
    rintro e w' ⟨rfl, hb⟩
    have Hb := Lib.hid hb; clear hb
    go_wp2
    go_ret3
    exact ⟨none, 0, rfl, StAt.nil_ _, hB1.out.trans (Hb.out.mono (by simp))⟩
  · have hs : K.shortest k w t = (match K.first k.toNat w.toNat t 3 with | some r => (r, true, 0) | none => ([], false, 0)) := by rw [shortest_cases, hc]; rfl
    have hov : K.over k w = true := by cases h : K.over k w; · rw [h] at hc; cases hc
                                       · rfl
    have hkw := K.over_iff.1 hov
    obtain ⟨kN, rfl⟩ : ∃ kN : Nat, k = kN := ⟨k.toNat, by omega⟩
    obtain ⟨wN, rfl⟩ : ∃ wN : Nat, w = wN := ⟨w.toNat, by omega⟩
    have HX := Lib.hid (fun W' (h : Below W.heap.size W W') => pshortest_any kN wN 3 (by omega) (by omega) (by omega) A m c t W' (hA.below (monoInt _) h))
    rw [hc] at HP
    have Hs := Lib.hid hs
    clear hs hc hA hS1 hov hkw
    go_enter Try.func7, Try.ntmps7
    go_wp2_with fail
    refine (HP.out _ hB1.out).mono ?_
    rintro e w1 ⟨rfl, hb⟩
    have hs := row_step (Lib.hid hb) HS1.out
    have hc0 : w1.cell? ⟨W.heap.size, 0, none⟩ = some (.int .i64 (kN : Int)) := by rw [cell_of_row _ _ _ _ _ (0, 0) hs]; rfl
    have hc1 : w1.cell? ⟨W.heap.size, 1, none⟩ = some (.int .i64 (wN : Int)) := by rw [cell_of_row _ _ _ _ _ (0, 0) hs]; rfl
    have Hb := Lib.hid (hB1.out.trans (hb.mono (by simp))); clear hb hs
    go_wp2_with fail
    refine (HX.out w1 Hb.out).mono ?_
    rintro e w2 ⟨hb2, (⟨r, A2, cc, hf, rfl, hst⟩ | ⟨hf, rfl⟩)⟩
    · have Hb2 := Lib.hid (Hb.out.trans (hb2.mono Hb.out.size))
      have Hst := Lib.hid hst
      have Hf := Lib.hid hf
      clear hb2 hst hf
      go_wp2
      go_ret3
      refine ⟨A2, cc, ?_, ?_, Hb2.out⟩
      · rw [Hs.out]; simp only [Int.toNat_natCast, Hf.out]; rfl
      · rw [Hs.out]; simp only [Int.toNat_natCast, Hf.out]; exact Hst.out
    · have Hb2 := Lib.hid (Hb.out.trans (hb2.mono Hb.out.size))
      have Hf := Lib.hid hf
      clear hb2 hf
      go_wp2
      go_ret3
      refine ⟨none, 0, ?_, ?_, Hb2.out⟩
      · rw [Hs.out]; simp only [Int.toNat_natCast, Hf.out]; rfl
      · rw [Hs.out]; simp only [Int.toNat_natCast, Hf.out]; exact StAt.nil_ _

/-- three fields of type e, one cell each, none of them blank -/
def threeB (fs : List Field) (e : TypeId) : Bool := match fs with
  | [f0, f1, f2] => decide (f0.name ≠ "_") && decide (f1.name ≠ "_") && decide (f2.name ≠ "_") && decide (f0.type = e) && decide (f1.type = e) && decide (f2.type = e) && decide (f0.offset = 0) && decide (f1.offset = 1) && decide (f2.offset = 2)
  | _ => false
theorem threeB_spec {fs : List Field} {e : TypeId} (h : threeB fs e = true) : ∃ f0 f1 f2 : Field, fs = [f0, f1, f2] ∧ f0.name ≠ "_" ∧ f1.name ≠ "_" ∧ f2.name ≠ "_" ∧ f0.type = e ∧ f1.type = e ∧ f2.type = e ∧ f0.offset = 0 ∧ f1.offset = 1 ∧ f2.offset = 2 := by
  unfold threeB at h
  split at h
  · rename_i f0 f1 f2
    simp only [Bool.and_eq_true, decide_eq_true_eq] at h
    obtain ⟨⟨⟨⟨⟨⟨⟨⟨a, b⟩, c⟩, d⟩, e⟩, f⟩, g⟩, i⟩, j⟩ := h
    exact ⟨f0, f1, f2, rfl, a, b, c, d, e, f, g, i, j⟩
  · cases h
theorem stepStruct : Try.prog.underlying 42 = some (.struct (Try.prog.fieldsOf 42)) := by kernel_rfl
theorem stepHeld : Try.prog.stoodInHeld 42 = false := by kernel_rfl
theorem stepFields : threeB (Try.prog.fieldsOf 42).toList 3 = true := by kernel_rfl
set_option maxRecDepth 100000 in
theorem eqF_step (p q : K.Stp) (W : World) : (Op.equalIn 10000 42 (.agg #[.int .i64 p.1, .int .i64 p.2.1, .int .i64 p.2.2]) (.agg #[.int .i64 q.1, .int .i64 q.2.1, .int .i64 q.2.2])).run Try.prog W = .ok (decide (p = q)) W := by
  obtain ⟨f0, f1, f2, hf, n0, n1, n2, t0, t1, t2, o0, o1, o2⟩ := threeB_spec stepFields
  rw [run_equalIn_agg W 9999 42 _ _ stepStruct stepHeld, hf]
  have hi : Try.prog.underlying 3 = some (.int .i64) := Try.underlying3
  simp [Op.eqFields, n0, n1, n2, t0, t1, t2, o0, o1, o2, go_sem]
  obtain ⟨a, b, c⟩ := p
  obtain ⟨d, e, f⟩ := q
  simp only [Prod.mk.injEq]
  by_cases h1 : a = d <;> by_cases h2 : b = e <;> by_cases h3 : c = f <;> simp [h1, h2, h3]
theorem neq_step (p q : K.Stp) (W : World) : (binOp .neq 42 (.agg #[.int .i64 p.1, .int .i64 p.2.1, .int .i64 p.2.2]) (.agg #[.int .i64 q.1, .int .i64 q.2.1, .int .i64 q.2.2])).run Try.prog W = .ok (.bool (!decide (p = q))) W := by
  rw [run_neq_struct, eqF_step]; rfl
theorem eql_step (p q : K.Stp) (W : World) : (binOp .eql 42 (.agg #[.int .i64 p.1, .int .i64 p.2.1, .int .i64 p.2.2]) (.agg #[.int .i64 q.1, .int .i64 q.2.1, .int .i64 q.2.2])).run Try.prog W = .ok (.bool (decide (p = q))) W := by
  rw [run_eql_struct, eqF_step]; rfl

set_option maxRecDepth 100000 in
set_option maxHeartbeats 1000000 in
theorem same_any (A B : Option Addr) (n m c d : Nat) (x y : List K.Stp) (W : World) (hA : StAt 3 StepR W A n x) (hB : StAt 3 StepR W B m y) :
    Calls Try.prog 9 #[.slice A n c, .slice B m d] W fun e w' => e = .returned (.bool (decide (x = y))) ∧ Dr W w' := by
  have hn := hA.le
  have hm := hB.le
  have HA := Lib.hid hA
  have HB := Lib.hid hB
  have hne : (x = y) → n = m := fun h => by rw [← hA.len, ← hB.len, h]
  have Hne := Lib.hid hne
  clear hA hB hne
  by_cases h : n = m
  · subst h
    go_enter Try.func9, Try.ntmps9
    go_wp2
    go_loopw [5] (fun i wr => ∃ k : Nat, k ≤ n ∧ i = .int .i64 k ∧ Dr W wr ∧ Hid (x.take k = y.take k)) (fun i _ => n - (intOf i).toNat)
    case atStart => exact ⟨0, Nat.zero_le _, rfl, Dr.refl _, rfl⟩
    case round =>
      obtain ⟨k, hk, rfl, hdr, HT⟩ := hrel
      by_cases hlt : k < n
      · obtain ⟨p, b, off, us, hx, rfl, _, _, h1, hu⟩ := (HA.out.dr monoStep hdr).at_ hlt
        obtain ⟨q, b', off', vs, hy, rfl, _, _, h2, hv⟩ := (HB.out.dr monoStep hdr).at_ hlt
        have hu' : us = cellsS p := hu
        have hv' : vs = cellsS q := hv
        subst hu' hv'
        have a0 := h1 0 (.int .i64 p.1) rfl
        have a1 := h1 1 (.int .i64 p.2.1) rfl
        have a2 := h1 2 (.int .i64 p.2.2) rfl
        have b0 := h2 0 (.int .i64 q.1) rfl
        have b1 := h2 1 (.int .i64 q.2.1) rfl
        have b2 := h2 2 (.int .i64 q.2.2) rfl
        rw [Nat.add_zero] at a0 b0
        have Hx := Lib.hid hx; clear hx
        have Hy := Lib.hid hy; clear hy
        clear h1 h2 hu hv
        by_cases he : p = q
        · subst he
          go_wp2
          go_quiet (fail)
          go_wp2
          go_roundw
          case rel => exact ⟨k + 1, by omega, by go_num, hdr.drewN _, by show _ = _; rw [take_succ_of Hx.out, take_succ_of Hy.out, HT.out]⟩
          case measure => simp [intOf]; omega
        · have Hne2 := Lib.hid he
          have hb := fun W' : World => neq_step p q W'
          rw [decide_eq_false he] at hb
          clear he
          go_wp2
          go_quiet (fail)
          clear hb
          go_wp2
          go_ret
          refine ⟨ret_bool (decide_eq_false ?_).symm, hdr.drewN _⟩
          rintro rfl
          exact Hne2.out (Option.some.inj (Hx.out.symm.trans Hy.out))
      · have hlt' : ¬ (k : Int) < (n : Int) := by omega
        go_wp2
        go_ret
        have h3 := HT.out
        rw [take_all HA.out.len (by omega), take_all HB.out.len (by omega)] at h3
        exact ⟨ret_bool (decide_eq_true h3).symm, hdr⟩
  · have h' : ¬ (n : Int) = (m : Int) := by omega
    rw [decide_eq_false (fun e => h (Hne.out e))]
    go_enter Try.func9, Try.ntmps9
    go_wp2
    go_ret
    exact ⟨rfl, Dr.refl _⟩

theorem known_plain : K.shortest 1 3 [7, 0, 1, 2, 3, 4, 5, 6] = ([(1, 0, 2)], true, 0) := by decide +kernel
end Go.Proofs.Ytableoihgkmbjaa
