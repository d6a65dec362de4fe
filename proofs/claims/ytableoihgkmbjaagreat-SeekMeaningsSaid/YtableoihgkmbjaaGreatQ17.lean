/- Which rows are right: the words, the reference; the meaning of a row, both sides. -/
import Derived.Test.YtableoihgkmbjaaGreatM6
namespace Go.Proofs.YtableoihgkmbjaaGreat
open Go.RowKit
set_option linter.unusedVariables false
set_option linter.unusedSimpArgs false
set_option linter.unusedSimpArgs false

namespace K
def stepB (k i : Nat) (s : Stp) : Bool := decide (s.1 ∈ ops) && decide (0 ≤ s.2.1) && decide (s.2.1 < k + 2 + i) && decide (0 ≤ s.2.2) && decide (s.2.2 < k + 2 + i)
def okB (k : Nat) : Nat → List Stp → Bool
  | _, [] => true
  | i, s :: r => stepB k i s && okB k (i + 1) r
/-- the first error of a row -/
def valid (k w : Int) (r : List Stp) : Int := if over k w = false then 1 else if 2 < r.length then 3 else if okB k.toNat 0 r = true then 0 else 1
theorem stepB_iff {k i : Nat} {s : Stp} : stepB k i s = true ↔ okStep k i s := by
  unfold stepB okStep
  simp only [Bool.and_eq_true, decide_eq_true_eq, and_assoc]
theorem okB_iff {k : Nat} : ∀ {i : Nat} {r : List Stp}, okB k i r = true ↔ ∀ j s, r[j]? = some s → stepB k (i + j) s = true
  | i, [] => by simp [okB]
  | i, x :: r => by
    rw [okB, Bool.and_eq_true, okB_iff]
    constructor
    · rintro ⟨h1, h2⟩ j s hj
      cases j with
      | zero => simp at hj; subst hj; exact h1
      | succ j => simp at hj; have := h2 j s hj; rwa [show i + 1 + j = i + (j + 1) by omega] at this
    · intro h
      refine ⟨h 0 x rfl, fun j s hj => ?_⟩
      have := h (j + 1) s (by simpa using hj)
      rwa [show i + (j + 1) = i + 1 + j by omega] at this
theorem okB_row {k : Nat} {r : List Stp} : okB k 0 r = true ↔ okRow k r := by
  rw [okB_iff]
  constructor
  · intro h i s hs; exact stepB_iff.1 (by have := h i s hs; rwa [Nat.zero_add] at this)
  · intro h i s hs; rw [Nat.zero_add]; exact stepB_iff.2 (h i s hs)
/-- the first steps are right -/
def okTo (k : Nat) (r : List Stp) (j : Nat) : Prop := ∀ i s, i < j → r[i]? = some s → stepB k i s = true
theorem okTo.all {k : Nat} {r : List Stp} {j : Nat} (h : okTo k r j) (hj : r.length ≤ j) : okB k 0 r = true := okB_iff.2 fun i s hs => by
  rw [Nat.zero_add]; exact h i s (by have := (List.getElem?_eq_some_iff.1 hs).1; omega) hs
theorem okTo.next {k : Nat} {r : List Stp} {j : Nat} {s : Stp} (h : okTo k r j) (hs : r[j]? = some s) (h2 : stepB k j s = true) : okTo k r (j + 1) := fun i x hi hx => by
  by_cases e : i = j
  · subst e; rw [hs] at hx; cases hx; exact h2
  · exact h i x (by omega) hx
theorem okB_bad {k j : Nat} {r : List Stp} {s : Stp} (hs : r[j]? = some s) (h : stepB k j s = false) : okB k 0 r = false := by
  cases e : okB k 0 r
  · rfl
  · have := okB_iff.1 e j s hs
    rw [Nat.zero_add, h] at this
    cases this
/-- how a step may be wrong: the first test that fails -/
theorem step_cases (k i : Nat) (s : Stp) :
    (stepB k i s = false ∧ decide (s.1 ∈ ops) = false) ∨ (stepB k i s = false ∧ decide (s.1 ∈ ops) = true ∧ decide (s.2.1 < 0) = true) ∨ (stepB k i s = false ∧ decide (s.1 ∈ ops) = true ∧ decide (s.2.1 < 0) = false ∧ decide ((k : Int) + 2 + i ≤ s.2.1) = true) ∨
    (stepB k i s = false ∧ decide (s.1 ∈ ops) = true ∧ decide (s.2.1 < 0) = false ∧ decide ((k : Int) + 2 + i ≤ s.2.1) = false ∧ decide (s.2.2 < 0) = true) ∨ (stepB k i s = false ∧ decide (s.1 ∈ ops) = true ∧ decide (s.2.1 < 0) = false ∧ decide ((k : Int) + 2 + i ≤ s.2.1) = false ∧ decide (s.2.2 < 0) = false ∧ decide ((k : Int) + 2 + i ≤ s.2.2) = true) ∨
    (stepB k i s = true ∧ decide (s.1 ∈ ops) = true ∧ decide (s.2.1 < 0) = false ∧ decide ((k : Int) + 2 + i ≤ s.2.1) = false ∧ decide (s.2.2 < 0) = false ∧ decide ((k : Int) + 2 + i ≤ s.2.2) = false) := by
  unfold stepB
  cases decide (s.1 ∈ ops)
  · exact .inl ⟨rfl, rfl⟩
  · simp only [Bool.true_and, Bool.and_eq_false_iff, Bool.and_eq_true, decide_eq_true_eq, decide_eq_false_iff_not]
    by_cases h1 : 0 ≤ s.2.1 <;> by_cases h2 : s.2.1 < (k : Int) + 2 + i <;> by_cases h3 : 0 ≤ s.2.2 <;> by_cases h4 : s.2.2 < (k : Int) + 2 + i <;> simp [h1, h2, h3, h4] <;> omega
end K

set_option maxHeartbeats 400000 in
theorem index_any (A : Option Addr) (m c : Nat) (xs : List Int) (x : Int) (w : World) (hA : SlAt (IntR .i64) w A m xs) :
    Calls Tryz.prog 61 #[.slice A m c, .int .i64 x] w fun e w' => ∃ i : Int, e = .returned (.int .i64 i) ∧ decide (0 ≤ i) = decide (x ∈ xs) ∧ w = w' := by
  have hl := hA.le
  have HA := Lib.hid hA; clear hA
  go_enter Tryz.func61, Tryz.ntmps61
  go_wp2
  go_loop [8] (fun i => ∃ k : Nat, k ≤ m ∧ i = .int .i64 k ∧ Hid (x ∉ xs.take k)) (fun i => m - (intOf i).toNat)
  case atStart => exact ⟨0, Nat.zero_le _, rfl, by show _ ∉ _; simp⟩
  case round =>
    obtain ⟨k, hk, rfl, HT⟩ := hrel
    by_cases hlt : k < m
    · obtain ⟨y, b, off, u, hx, rfl, _, h1, rfl⟩ := HA.out.at_ hlt
      have Hx := Lib.hid hx; clear hx
      by_cases he : x = y
      · subst he
        go_wp2
        go_ret
        exact ⟨k, rfl, by simp [List.mem_of_getElem? Hx.out], rfl⟩
      · have hb : (x == y) = false := by simpa using he
        have He := Lib.hid he; clear he
        go_wp2
        go_round
        case rel => exact ⟨k + 1, by omega, by go_num, by show _ ∉ _; rw [take_succ_of Hx.out, List.mem_append]; rintro (h | h); exact HT.out h; exact He.out (List.mem_singleton.1 h)⟩
        case measure => simp [intOf]; omega
    · go_wp2
      go_ret
      have h3 := HT.out
      rw [take_all HA.out.len (by omega)] at h3
      exact ⟨-1, rfl, by simp [h3], rfl⟩

theorem contains_any (A : Option Addr) (m c : Nat) (xs : List Int) (x : Int) (w : World) (hA : SlAt (IntR .i64) w A m xs) :
    Calls Tryz.prog 36 #[.slice A m c, .int .i64 x] w fun e w' => e = .returned (.bool (decide (x ∈ xs))) ∧ w = w' := by
  have Hcon := Lib.hid (index_any A m c xs x w hA)
  clear hA
  go_enter Tryz.func36, Tryz.ntmps36
  go_wp2_with fail
  refine Hcon.out.mono ?_
  rintro e w' ⟨i, rfl, hi, rfl⟩
  go_wp2
  go_ret
  refine ⟨ret_bool ?_, rfl⟩
  rw [← hi]

set_option maxHeartbeats 400000 in
theorem isOp_any (x : Int) (W : World) : Calls Tryz.prog 25 #[.int .i64 x] W fun e w' => e = .returned (.bool (decide (x ∈ K.ops))) ∧ Below W.heap.size W w' := by
  have HO := Lib.hid (rops_any W)
  go_enter Tryz.func25, Tryz.ntmps25
  go_wp2_with fail
  refine HO.out.mono ?_
  rintro e w1 ⟨c, rfl, hs, hb⟩
  have HS := Lib.hid hs
  have Hb := Lib.hid hb
  clear hs hb HO
  go_wp2
  go_loop [4] (fun i => ∃ k : Nat, k ≤ 7 ∧ i = .int .i64 k ∧ Hid (x ∉ K.ops.take k)) (fun i => 7 - (intOf i).toNat)
  case atStart => exact ⟨0, Nat.zero_le _, rfl, by show _ ∉ _; simp⟩
  case round =>
    obtain ⟨k, hk, rfl, HT⟩ := hrel
    by_cases hlt : k < 7
    · obtain ⟨y, b, off, u, hx, hA, _, h1, rfl⟩ := HS.out.at_ hlt
      injection hA with hA
      injection hA with e1 e2
      subst e1 e2
      rw [Nat.zero_add] at h1
      have Hx := Lib.hid hx; clear hx
      by_cases he : y = x
      · subst he
        go_wp2
        go_ret
        exact ⟨ret_bool (decide_eq_true (List.mem_of_getElem? Hx.out)).symm, Hb.out⟩
      · have hb : (y == x) = false := by simpa using he
        have He := Lib.hid he; clear he
        go_wp2
        go_round
        case rel => exact ⟨k + 1, by omega, by go_num, by show _ ∉ _; rw [take_succ_of Hx.out, List.mem_append]; rintro (h | h); exact HT.out h; exact He.out (List.mem_singleton.1 h).symm⟩
        case measure => simp [intOf]; omega
    · obtain rfl : k = 7 := by omega
      go_wp2
      go_ret
      exact ⟨ret_bool (decide_eq_false HT.out).symm, Hb.out⟩
set_option maxRecDepth 100000 in
set_option maxHeartbeats 4000000 in
theorem rvalid_any (k w : Int) (A : Option Addr) (m c : Nat) (row : List K.Stp) (W : World) (hA : StAt 3 StepR W A m row) :
    Calls Tryz.prog 11 #[.int .i64 k, .int .i64 w, .slice A m c] W fun e w' => e = .returned (.int .i64 (K.valid k w row)) ∧ Below W.heap.size W w' := by
  have HO := Lib.hid (over_any k w W)
  have hml := hA.len
  have hm63 := hA.le
  cases hov : K.over k w
  · have hs : K.valid k w row = 1 := by unfold K.valid; rw [if_pos hov]
    rw [hs]
    rw [hov] at HO
    clear hs hov hA hml
    go_enter Tryz.func11, Tryz.ntmps11
    go_wp2_with fail
    refine HO.out.mono ?_
    rintro e w' ⟨rfl, rfl⟩
    go_wp2
    go_ret
    exact ⟨rfl, Below.refl _ _⟩
  · have hkw := K.over_iff.1 hov
    obtain ⟨kN, rfl⟩ : ∃ kN : Nat, k = kN := ⟨k.toNat, by omega⟩
    by_cases hbig : 2 < m
    · have hs : K.valid kN w row = 3 := by unfold K.valid; rw [if_neg (by rw [hov]; simp), if_pos (by omega)]
      rw [hs]
      rw [hov] at HO
      have hbig' : (2 : Int) < (m : Int) := by omega
      clear hs hov hA hml hkw
      go_enter Tryz.func11, Tryz.ntmps11
      go_wp2_with fail
      refine HO.out.mono ?_
      rintro e w' ⟨rfl, rfl⟩
      go_wp2
      go_ret
      exact ⟨rfl, Below.refl _ _⟩
    · have hs : K.valid kN w row = if K.okB kN 0 row = true then 0 else 1 := by unfold K.valid; rw [if_neg (by rw [hov]; simp), if_neg (by omega)]; rfl
      have Hs := Lib.hid hs
      rw [hov] at HO
      have hbig' : ¬ (2 : Int) < (m : Int) := by omega
      have hk3 : (kN : Int) ≤ 2 := by omega
      have HA := Lib.hid hA
      have Hml := Lib.hid hml
      clear hs hov hA hml hkw
      go_enter Tryz.func11, Tryz.ntmps11
      go_wp2_with fail
      refine HO.out.mono ?_
      rintro e w' ⟨rfl, rfl⟩
      go_wp2
      go_loopg [8] (m + 1) (fun g i wr => ∃ (j : Nat), j ≤ m ∧ i = .int .i64 (j : Int) ∧ g + j = m + 1 ∧ Below W.heap.size W wr ∧ Hid (K.okTo kN row j))
      case atStart => exact ⟨0, Nat.zero_le _, rfl, rfl, Below.refl _ _, fun i s hi => by omega⟩
      case round =>
        obtain ⟨j, hj, rfl, hgk, hbw, HT⟩ := hrel
        have Hgk := Lib.hid hgk; clear hgk
        by_cases hlt : j < m
        · obtain ⟨s, b, off, us, hs, rfl, hbl, _, hcs, hst⟩ := HA.out.at_ hlt
          have hst' : us = cellsS s := hst
          subst hst'
          have hc0 := (hbw.cell (p := ⟨b, off + j * 3 + 0, none⟩) hbl).trans (hcs 0 (.int .i64 s.1) rfl)
          rw [Nat.add_zero] at hc0
          have hc1 := (hbw.cell (p := ⟨b, off + j * 3 + 1, none⟩) hbl).trans (hcs 1 (.int .i64 s.2.1) rfl)
          have hc2 := (hbw.cell (p := ⟨b, off + j * 3 + 2, none⟩) hbl).trans (hcs 2 (.int .i64 s.2.2) rfl)
          have Hs2 := Lib.hid hs
          have HI := Lib.hid (fun W' => isOp_any s.1 W')
          have Hc := Lib.hid (K.step_cases kN j s)
          obtain ⟨s1, s2, s3⟩ := s
          simp only at hc0 hc1 hc2 Hs2 HI Hc
          have Hbw := Lib.hid (hbw.alloc hbw.size (.cells #[.int .i64 s1, .int .i64 s2, .int .i64 s3] 46))
          have Hcell := Lib.hid (show ∀ Y : World, Below (wr.alloc (.cells #[.int .i64 s1, .int .i64 s2, .int .i64 s3] 46)).heap.size (wr.alloc (.cells #[.int .i64 s1, .int .i64 s2, .int .i64 s3] 46)) Y → Y.cell? ⟨wr.heap.size, 1, none⟩ = some (.int .i64 s2) ∧ Y.cell? ⟨wr.heap.size, 2, none⟩ = some (.int .i64 s3) from fun Y hY => by
            have h := row_step (Lib.hid hY) (heap_alloc_new wr (.cells #[.int .i64 s1, .int .i64 s2, .int .i64 s3] 46))
            constructor
            · rw [cell_of_row _ _ _ _ _ (0, 0) h]; rfl
            · rw [cell_of_row _ _ _ _ _ (0, 0) h]; rfl)
          clear hs hst hcs hbl hbw
          rcases Hc.out with ⟨hb, ho⟩ | ⟨hb, ho, h1⟩ | ⟨hb, ho, h1, h2⟩ | ⟨hb, ho, h1, h2, h3⟩ | ⟨hb, ho, h1, h2, h3, h4⟩ | ⟨hb, ho, h1, h2, h3, h4⟩
          all_goals
            have HB := Lib.hid hb
            rw [ho] at HI
            clear hb ho Hc
            go_wp2_with fail
            refine (HI.out _).mono ?_
            rintro e w3 ⟨rfl, hb3⟩
            obtain ⟨d1, d2⟩ := Hcell.out w3 hb3
            have Hb3 := Lib.hid (Hbw.out.trans (hb3.mono Hbw.out.size))
            clear hb3 hc0 hc1 hc2
            go_wp2
          iterate 5
            go_ret
            exact ⟨ret_int (by rw [Hs.out, K.okB_bad Hs2.out HB.out]; rfl), Hb3.out⟩
          go_roundg (gk - 1)
          case measure => have := Hgk.out; omega
          case rel => have := Hgk.out; exact ⟨j + 1, by omega, by go_num, by omega, Hb3.out, HT.out.next Hs2.out HB.out⟩
        · obtain rfl : j = m := by omega
          go_wp2
          go_ret
          exact ⟨ret_int (by rw [Hs.out, HT.out.all (by rw [Hml.out]; exact Nat.le_refl _)]; rfl), hbw⟩
set_option maxRecDepth 100000 in
set_option maxHeartbeats 4000000 in
theorem rmeaning_any (k w : Nat) (hk : k = 1 ∨ k = 2) (hw : w = 1 ∨ w = 2 ∨ w = 3) (A : Option Addr) (m c : Nat) (row : List K.Stp) (W : World) (hA : StAt 3 StepR W A m row) (hrow : K.okRow k row) (hm : m ≤ 100) :
    Calls Tryz.prog 21 #[.int .i64 k, .int .i64 w, .slice A m c] W fun e w' => ∃ A' c', e = .returned (.slice A' (K.size k w) c') ∧ SlAt (IntR .u32) w' A' (K.size k w) (K.meaning k w row) ∧ Below W.heap.size W w' := by
  have HI := Lib.hid (rinputs_any k w hk hw W)
  have HR := Lib.hid (fun (A2 : Option Addr) (c2 : Nat) (i : Nat) (hi : i < K.size k w) (W' : World) (hb : Below W.heap.size W W') (hA2 : SlAt (IntR .u32) W' A2 k (K.inp k w i)) => rresult_any k w hk hw A m c row A2 c2 (K.inp k w i) W' (hA.below monoStep hb) hA2 hrow hm (K.W32.base hk (by omega) hi))
  have hsz := K.size_le (k := k) (w := w) (by omega) (by omega)
  have hml := K.meaning_len k w row
  have Hat := Lib.hid (fun i (hi : i < K.size k w) => K.meaning_at row hi)
  have Hin := Lib.hid (fun i (hi : i < K.size k w) => K.inputs_at hi)
  have Hil := Lib.hid (fun i => K.inp_len (w := w) (i := i) hk)
  clear hA hrow hk hw
  obtain ⟨N, hN⟩ : ∃ N, N = K.size k w := ⟨_, rfl⟩
  simp only [← hN] at *
  obtain ⟨M, hM⟩ : ∃ M, M = K.meaning k w row := ⟨_, rfl⟩
  simp only [← hM] at *
  clear hN hM
  have Hml := Lib.hid hml; clear hml
  go_enter Tryz.func21, Tryz.ntmps21
  go_wp2_with fail
  refine HI.out.mono ?_
  rintro e w1 ⟨A1, c1, rfl, hin, hb1⟩
  have HinS := Lib.hid hin; clear hin
  have Hb1 := Lib.hid hb1; clear hb1
  go_wp2
  go_loopg [7, 9] (N + 1) (fun g v i wr => ∃ (j : Nat), j ≤ N ∧ i = .int .i64 (j : Int) ∧ g + j = N + 1 ∧ OwnAt wr 39 1 v j ((M.take j).map (Value.int .u32)) ∧ Below w1.heap.size w1 wr ∧ (∀ g, v.ownBlock = some g → w1.heap.size ≤ g))
  case atStart => exact ⟨0, Nat.zero_le _, rfl, rfl, OwnAt.nil_ _ _ _, Below.refl _ _, fun g hg => by simp [Value.ownBlock] at hg⟩
  case round =>
    obtain ⟨j, hj, rfl, hgk, hown, hbw, hob⟩ := hrel
    have Hgk := Lib.hid hgk; clear hgk
    have Hown := Lib.hid hown; clear hown
    have Hob := Lib.hid hob; clear hob
    by_cases hlt : j < N
    · obtain ⟨x, b, off, u, hx, rfl, hbl, hc, Ai, ci, rfl, hsl⟩ := HinS.out.at_ hlt
      have hxe : x = K.inp k w j := by rw [Hin.out j hlt] at hx; exact (Option.some.inj hx).symm
      subst hxe
      have hc' := (hbw.cell (p := ⟨b, off + j, none⟩) hbl).trans hc
      rw [Hil.out j] at hc' hsl
      have Hcon := Lib.hid (HR.out Ai ci j hlt wr (Hb1.out.trans (hbw.mono Hb1.out.size)) (hsl.below (monoInt _) hbw))
      have Hx := Lib.hid (Hat.out j hlt)
      clear hx hc hsl hbl
      obtain ⟨y, hy⟩ : ∃ y, y = K.resultOf w row (K.inp k w j) := ⟨_, rfl⟩
      rw [← hy] at Hcon Hx
      clear hy
      go_wp2_with fail
      (with_reducible refine Hcon.out.mono ?_)
      rintro e w2 ⟨rfl, hb2⟩
      have Hown2 := Lib.hid (own_step (Lib.hid hb2) Hown.out)
      have hb2' := hbw.trans (hb2.mono hbw.size)
      have Hb2 := Lib.hid hb2'
      clear hb2 hb2' hbw hc'
      go_wp2_with (at_builtin; refine wpList_append_one' rfl (.tmp 19) (.tmp 27) 26 rfl 39 (.int .u32 0) 4 Tryz.underlying26 infoU32 rfl _ j _ rfl Hown2.out (.int .u32 y) rfl 39 w2.heap.size rfl rfl (by omega) (by omega) ?_; intro v' w3 hown' hgr hat)
      have Hown' := Lib.hid (show OwnAt w3 39 1 v' (j + 1) ((M.take (j + 1)).map (Value.int .u32)) from by rw [K.take_succ_at Hx.out, List.map_append]; exact hown')
      obtain ⟨hb3, hv3⟩ := below_append Hb2.out Hb2.out.size Hob.out hgr hat
      have Hv3 := Lib.hid hv3
      have Hb3 := Lib.hid hb3
      clear hown' hgr hat hb3 hv3
      go_wp2
      go_roundg (gk - 1)
      case measure => have := Hgk.out; omega
      case rel => have := Hgk.out; exact ⟨j + 1, by omega, by go_num, by omega, Hown'.out, Hb3.out, Hv3.out⟩
    · obtain rfl : j = N := by omega
      obtain ⟨A', c', hv⟩ := Hown.out.form
      subst hv
      have h := Hown.out.slInts
      rw [List.take_of_length_le (by rw [Hml.out]; exact Nat.le_refl _)] at h
      have Hs := Lib.hid h; clear h
      go_wp2
      go_ret
      exact ⟨A', c', rfl, Hs.out, Hb1.out.trans (hbw.mono Hb1.out.size)⟩

set_option maxRecDepth 100000 in
set_option maxHeartbeats 4000000 in
theorem pmeaning_any (k w : Nat) (hk : k = 1 ∨ k = 2) (hw : w = 1 ∨ w = 2 ∨ w = 3) (A : Option Addr) (m c : Nat) (row : List K.Stp) (W : World) (hA : StAt 3 StepR W A m row) (hrow : K.okRow k row) (hm : m ≤ 90) :
    Calls Tryz.prog 20 #[.agg #[.int .i64 k, .int .i64 w], .slice A m c] W fun e w' => ∃ q, e = .returned (.slice (some ⟨q, 0, none⟩) (K.size k w) (K.size k w)) ∧ SlAt (IntR .u32) w' (some ⟨q, 0, none⟩) (K.size k w) (K.meaning k w row) ∧ Below W.heap.size W w' := by
  obtain ⟨W1, hW1⟩ : ∃ W1, W1 = W.alloc (.cells #[.int .i64 k, .int .i64 w] 48) := ⟨_, rfl⟩
  have hB1 : Below W.heap.size W W1 := by rw [hW1]; exact (Below.refl _ _).alloc (Nat.le_refl _) _
  have hs1 : W1.heap.size = W.heap.size + 1 := by rw [hW1]; simp
  have HS := Lib.hid (show ∀ Y : World, Below W1.heap.size W1 Y → Y.cell? ⟨W.heap.size, 0, none⟩ = some (.int .i64 (k : Int)) ∧ Y.cell? ⟨W.heap.size, 1, none⟩ = some (.int .i64 (w : Int)) from fun Y hY => by
    have h := (hY.block W.heap.size (by omega)).trans (show W1.heap[W.heap.size]? = some (.cells #[.int .i64 k, .int .i64 w] 48 (0, 0)) from by rw [hW1]; exact heap_alloc_new W _)
    constructor
    · rw [cell_of_row _ _ _ _ _ (0, 0) h]; rfl
    · rw [cell_of_row _ _ _ _ _ (0, 0) h]; rfl)
  have HP := Lib.hid (pstart_any k w hk hw W1)
  have HA := Lib.hid (hA.below monoStep hB1)
  have hml := hA.len
  have Hrow := Lib.hid hrow
  have HB1 := Lib.hid hB1
  have Hs1 := Lib.hid hs1
  have HW1 := Lib.hid hW1
  have Hml := Lib.hid hml
  have Hk := Lib.hid hk
  have Hw := Lib.hid hw
  have hk2 : k ≤ 2 := by omega
  obtain ⟨c0, c1⟩ := HS.out W1 (Below.refl _ _)
  have hsz := K.size_le (k := k) (w := w) (by omega) (by omega)
  rw [hW1] at c0 c1
  clear hA hrow hB1 hs1 hW1 hml hk hw
  go_enter Tryz.func20, Tryz.ntmps20
  go_wp2_with fail
  rw [← HW1.out] at c0 c1 ⊢
  (with_reducible refine HP.out.mono ?_)
  rintro e X1 ⟨Ac, cc, us0, rfl, hown, hel, hob, hb1⟩
  have Hown0 := Lib.hid hown
  have Hel0 := Lib.hid hel
  have Hob0 := Lib.hid hob
  have Hb10 := Lib.hid hb1
  clear hown hel hob hb1 c0 c1
  go_wp2
  go_loopg [5, 12] (m + 1) (fun g v i wr => ∃ (j : Nat) (us : List Value), j ≤ m ∧ i = .int .i64 (j : Int) ∧ g + j = m + 1 ∧ OwnAt wr 26 1 v (k + 2 + j) us ∧ Elems (ColC W1.heap.size) wr us (K.cols k w (row.take j)) ∧ Below W1.heap.size W1 wr ∧ (∀ g, v.ownBlock = some g → W1.heap.size ≤ g))
  case atStart => exact ⟨0, us0, Nat.zero_le _, rfl, rfl, Hown0.out, by rw [List.take_zero]; exact Hel0.out, Hb10.out, Hob0.out⟩
  case round =>
    clear Hown0 Hel0 Hob0
    obtain ⟨j, us, hj, rfl, hgk, hown, hel, hbw, hob⟩ := hrel
    have Hgk := Lib.hid hgk; clear hgk
    have Hown := Lib.hid hown; clear hown
    have Hel := Lib.hid hel; clear hel
    have Hob := Lib.hid hob; clear hob
    obtain ⟨Av, cv, hv⟩ := Hown.out.form
    subst hv
    by_cases hlt : j < m
    · obtain ⟨s, b, off, vs, hs, rfl, hbl, _, hcs, hst⟩ := HA.out.at_ hlt
      have hst' : vs = cellsS s := hst
      subst hst'
      obtain ⟨o1, o2, o3, o4, o5⟩ := Hrow.out j s hs
      have hokS : K.okStep k (row.take j).length s := by rw [List.length_take, Nat.min_eq_left (by rw [Hml.out]; omega)]; exact Hrow.out j s hs
      have Htk := Lib.hid (show row.take (j + 1) = row.take j ++ [s] from K.take_succ_at hs)
      have hlenj : (row.take j).length = j := by rw [List.length_take, Nat.min_eq_left (by rw [Hml.out]; omega)]
      obtain ⟨s1, s2, s3⟩ := s
      simp only at o1 o2 o3 o4 o5
      obtain ⟨ia, rfl⟩ : ∃ ia : Nat, s2 = ia := ⟨s2.toNat, by omega⟩
      obtain ⟨ib, rfl⟩ : ∃ ib : Nat, s3 = ib := ⟨s3.toNat, by omega⟩
      have hc0 := (hbw.cell (p := ⟨b, off + j * 3 + 0, none⟩) hbl).trans (hcs 0 (.int .i64 s1) rfl)
      rw [Nat.add_zero] at hc0
      have hc1 := (hbw.cell (p := ⟨b, off + j * 3 + 1, none⟩) hbl).trans (hcs 1 (.int .i64 (ia : Int)) rfl)
      have hc2 := (hbw.cell (p := ⟨b, off + j * 3 + 2, none⟩) hbl).trans (hcs 2 (.int .i64 (ib : Int)) rfl)
      obtain ⟨X0, hX0⟩ : ∃ X0, X0 = wr.alloc (.cells #[.int .i64 s1, .int .i64 (ia : Int), .int .i64 (ib : Int)] 46) := ⟨_, rfl⟩
      have hb0 : Below W1.heap.size W1 X0 := by rw [hX0]; exact hbw.alloc hbw.size _
      have hown0 : OwnAt X0 26 1 (.slice Av (k + 2 + j) cv) (k + 2 + j) us := by rw [hX0]; exact Hown.out.alloc _
      have hel0 : Elems (ColC W1.heap.size) X0 us (K.cols k w (row.take j)) := by rw [hX0]; exact elC_alloc Hel.out _
      have Hcon := Lib.hid (pcolumn_any k w Hk.out Hw.out s1 ia ib W1.heap.size Av (k + 2 + j) cv us (K.cols k w (row.take j)) X0 hown0 hel0 (by omega) (by omega) (fun x hx => cols_each hx) (fun i j' => cols_pos Hk.out Hw.out _ i j') o1 (by omega))
      obtain ⟨e0, e1⟩ := HS.out X0 hb0
      have HX0 := Lib.hid hX0
      have Hb0 := Lib.hid hb0
      have Hown0 := Lib.hid hown0
      have Hel0 := Lib.hid hel0
      have HokS := Lib.hid hokS
      rw [hX0] at e0 e1
      clear hX0 hb0 hown0 hel0 hokS hs hst hcs hbl hlenj o1 o2 o3 o4 o5 hbw Hown Hel
      go_wp2_with fail
      rw [← HX0.out] at e0 e1 ⊢
      (with_reducible refine Hcon.out.mono ?_)
      rintro e X3 ⟨u, rfl, hu, hb3⟩
      obtain ⟨q5, N5, hu5⟩ : ∃ q5 N5, u = .slice (some ⟨q5, 0, none⟩) N5 N5 := by obtain ⟨q5, h5, _⟩ := hu; exact ⟨q5, _, h5⟩
      subst hu5
      have Hown3 := Lib.hid (own_step (Lib.hid hb3) Hown0.out)
      have Hel3 := Lib.hid (show Elems (ColC W1.heap.size) X3 (us ++ [.slice (some ⟨q5, 0, none⟩) N5 N5]) (K.cols k w (row.take (j + 1))) from by
        rw [Htk.out, K.cols_snoc Hk.out _ HokS.out]
        exact (elC_step (Lib.hid hb3) Hel0.out).snoc (ColC.less hu Hb0.out.size))
      have Hb3 := Lib.hid (Hb0.out.trans (hb3.mono Hb0.out.size))
      clear hu hb3 e0 e1 hc0 hc1 hc2
      go_wp2_with (at_builtin; refine wpList_append_one' rfl (.tmp 16) (.tmp 21) 73 rfl 26 (.slice none 0 0) 24 Tryz.underlying73 infoSlU rfl _ (k + 2 + j) _ rfl Hown3.out (.slice (some ⟨q5, 0, none⟩) N5 N5) rfl 26 X3.heap.size rfl rfl (by omega) (by omega) ?_; intro v' w3 hown' hgr hat)
      have Hel' := Lib.hid (show Elems (ColC W1.heap.size) w3 (us ++ [.slice (some ⟨q5, 0, none⟩) N5 N5]) (K.cols k w (row.take (j + 1))) from (elC_alloc Hel3.out _).map_ fun u x hu => ColC.grown hu hgr (T := 26) ((Hown3.out.alloc _).typed) (by decide))
      have Hown' := Lib.hid hown'
      obtain ⟨hb4, hv4⟩ := below_append Hb3.out Hb3.out.size Hob.out hgr hat
      have Hb4 := Lib.hid hb4
      have Hv4 := Lib.hid hv4
      clear hown' hgr hat hb4 hv4
      go_wp2
      go_roundg (gk - 1)
      case measure => have := Hgk.out; omega
      case rel => have := Hgk.out; exact ⟨j + 1, _, by omega, by go_num, by omega, Hown'.out, Hel'.out, Hb4.out, Hv4.out⟩
    · obtain rfl : j = m := by omega
      have htk : row.take j = row := List.take_of_length_le (by rw [Hml.out]; exact Nat.le_refl _)
      have hel2 := Hel.out
      rw [htk] at hel2
      have hi : (if row.length = 0 then 0 else k + 2 + row.length - 1) < k + 2 + j := by rw [Hml.out]; split <;> omega
      obtain ⟨b1, off, u, hA, hb1, hcell, hu⟩ := Hown.out.at1 hi
      obtain ⟨q, rfl, hq, hrow⟩ := hel2.2 _ _ _ (K.meaning_cols Hk.out row) hu
      have hmlen := K.meaning_len k w row
      have hsl : SlAt (IntR .u32) wr (some ⟨q, 0, none⟩) (K.size k w) (K.meaning k w row) := ⟨hmlen, by omega, fun i x hx => ⟨q, 0, .int .u32 x, rfl, (Array.getElem?_eq_some_iff.1 hrow).1, by
        rw [cell_of_row wr q _ _ _ (0, 0) hrow, Nat.zero_add, List.getElem?_toArray, List.getElem?_map, hx]; rfl, rfl⟩⟩
      have Hsl := Lib.hid hsl
      have Hend := Lib.hid (HB1.out.trans (hbw.mono (by have := Hs1.out; omega)))
      rw [hmlen, Hml.out] at hcell
      subst hA
      clear hsl hrow hq hu hel2 hi hbw hmlen htk
      obtain ⟨Z, hZ⟩ : ∃ Z, Z = K.size k w := ⟨_, rfl⟩
      rw [← hZ] at hcell
      have HZ := Lib.hid hZ; clear hZ
      obtain ⟨M, hM⟩ : ∃ M, k + 2 + j = M + 1 := ⟨k + 1 + j, by omega⟩
      rw [hM] at hcell ⊢
      by_cases h0 : j = 0
      · subst h0
        simp only [if_true, Nat.add_zero] at hcell
        go_wp2
        go_ret
        exact ⟨q, by rw [HZ.out]; rfl, Hsl.out, Hend.out⟩
      · rw [if_neg h0, Nat.add_sub_cancel] at hcell
        have hj0 : ¬ (j : Int) = 0 := by omega
        have hM9 : M ≤ 100 := by omega
        clear hM
        go_wp2
        go_ret
        exact ⟨q, by rw [HZ.out]; rfl, Hsl.out, Hend.out⟩

namespace K
theorem mem_steps' {k p : Nat} {s : Stp} (h : okStep k p s) : s ∈ steps k p := by
  obtain ⟨o, a, b⟩ := s
  obtain ⟨h1, h2, h3, h4, h5⟩ := h
  simp only at h1 h2 h3 h4 h5
  unfold steps
  simp only [List.mem_flatMap, List.mem_map, List.mem_range]
  exact ⟨o, h1, a.toNat, by omega, b.toNat, by omega, by simp only [Prod.mk.injEq, true_and]; omega⟩
theorem okRow_front {k : Nat} {r : List Stp} {s : Stp} (h : okRow k (r ++ [s])) : okRow k r ∧ okStep k r.length s := by
  refine ⟨fun i x hx => h i x ?_, h r.length s ?_⟩
  · rw [List.getElem?_append_left (List.getElem?_eq_some_iff.1 hx).1]; exact hx
  · rw [List.getElem?_append_right (Nat.le_refl _)]; simp
theorem mem_rows {k : Nat} : ∀ (n : Nat) {r : List Stp}, r.length = n → okRow k r → r ∈ rows k n
  | 0, r, hl, _ => by
    have : r = [] := List.length_eq_zero_iff.1 hl
    subst this
    simp [rows]
  | n + 1, r, hl, h => by
    rcases List.eq_nil_or_concat r with rfl | ⟨q, s, rfl⟩
    · simp at hl
    · simp only [List.concat_eq_append] at h hl ⊢
      have hq : q.length = n := by simp at hl; exact hl
      obtain ⟨h1, h2⟩ := okRow_front h
      rw [hq] at h2
      simp only [rows, List.mem_flatMap, List.mem_map]
      exact ⟨q, mem_rows n hq h1, s, mem_steps' h2, rfl⟩
/-- words of w bits -/
def Wd (w : Nat) (l : List Int) : Prop := ∀ x ∈ l, 0 ≤ x ∧ x < B.pw w
theorem Wd.at {w : Nat} {l : List Int} (h : Wd w l) (i : Nat) : 0 ≤ l.getD i 0 ∧ l.getD i 0 < B.pw w := by
  rw [List.getD_eq_getElem?_getD]
  cases hx : l[i]? with
  | none => simpa using B.pw_pos w
  | some x => simpa using h x (List.mem_of_getElem? hx)
theorem total_lt {o a b : Int} {w : Nat} (ha : 0 ≤ a) (hb : 0 ≤ b) : 0 ≤ (B.total o w a b).1 ∧ (B.total o w a b).1 < B.pw w := by
  unfold B.total
  split
  · rename_i h
    unfold B.okOp at h
    simp only [Bool.and_eq_true, decide_eq_true_eq] at h
    obtain ⟨⟨⟨h1, h2⟩, h3⟩, h4⟩ := h
    have e3 := B.isW_iff.1 h3
    have e4 := B.isW_iff.1 h4
    exact B.full_word h1 h2 e3.1 ha e3.2.2 hb e4.2.2
  · exact ⟨Int.le_refl _, B.pw_pos w⟩
theorem Wd.vals {w : Nat} {l : List Int} (h : Wd w l) (r : List Stp) : Wd w (vals w l r) := by
  induction r generalizing l with
  | nil => exact h
  | cons s r ih =>
    rw [vals_cons]
    refine ih fun x hx => ?_
    rcases List.mem_append.1 hx with hx | hx
    · exact h x hx
    · rw [List.mem_singleton.1 hx]
      exact total_lt (h.at _).1 (h.at _).1
theorem Wd.base {k w i : Nat} (hk : k = 1 ∨ k = 2) (hw : 1 ≤ w) (hi : i < size k w) : Wd w (base w (inp k w i)) := by
  have h2 := B.pw_ge2 (n := (w : Int)) (by omega)
  have hp : B.pw w = ((2 ^ w : Nat) : Int) := by rw [B.pw_nat]; simp
  have hpos := Nat.two_pow_pos w
  intro x hx
  unfold K.base inp at hx
  rcases hk with rfl | rfl
  · have hs : size 1 w = 2 ^ w := by unfold size; rw [Nat.one_mul]
    simp only [if_true, List.cons_append, List.nil_append, List.mem_cons, List.not_mem_nil, or_false] at hx
    rcases hx with rfl | rfl | rfl
    · rw [hp]; omega
    · omega
    · omega
  · have hs : size 2 w = 2 ^ w * 2 ^ w := by unfold size; rw [Nat.two_mul, Nat.pow_add]
    have h3 : i / 2 ^ w < 2 ^ w := by rw [Nat.div_lt_iff_lt_mul hpos]; omega
    have h4 : i % 2 ^ w < 2 ^ w := Nat.mod_lt _ hpos
    simp only [show ¬ (2 = 1) by decide, if_false, List.cons_append, List.nil_append, List.mem_cons, List.not_mem_nil, or_false] at hx
    clear hi hs
    generalize i / 2 ^ w = u at h3 hx
    generalize i % 2 ^ w = v at h4 hx
    rcases hx with rfl | rfl | rfl | rfl
    · rw [hp]; omega
    · rw [hp]; omega
    · omega
    · omega
theorem resultOf_lt {k w i : Nat} (hk : k = 1 ∨ k = 2) (hw : 1 ≤ w) (r : List Stp) (hi : i < size k w) : 0 ≤ resultOf w r (inp k w i) ∧ resultOf w r (inp k w i) < B.pw w := by
  have h := (Wd.base hk hw hi).vals r
  unfold resultOf
  split
  · exact h.at _
  · exact h.at _
theorem meaning_wd {k w : Nat} (hk : k = 1 ∨ k = 2) (hw : 1 ≤ w) (r : List Stp) : ∀ x ∈ meaning k w r, 0 ≤ x ∧ x < B.pw w := by
  intro x hx
  unfold meaning inputs at hx
  simp only [List.mem_map, List.mem_range] at hx
  obtain ⟨l, ⟨i, hi, rfl⟩, rfl⟩ := hx
  exact resultOf_lt hk hw r hi
theorem isTable_meaning {k w : Nat} (hk : k = 1 ∨ k = 2) (hw : 1 ≤ w) (r : List Stp) : isTable k w (meaning k w r) = true := by
  unfold isTable
  rw [meaning_len, decide_eq_true rfl, Bool.true_and, List.all_eq_true]
  exact fun x hx => decide_eq_true (meaning_wd hk hw r x hx).2
theorem w32_meaning {k w : Nat} (hk : k = 1 ∨ k = 2) (hw : 1 ≤ w) (hw3 : w ≤ 3) (r : List Stp) : W32 (meaning k w r) := fun x hx => by
  have h := meaning_wd hk hw r x hx
  have := B.pw_le (n := (w : Int)) (by omega)
  omega

theorem valid_zero {k w : Int} {r : List Stp} (h : valid k w r = 0) : over k w = true ∧ r.length ≤ 2 ∧ okRow k.toNat r := by
  unfold valid at h
  split at h
  · cases h
  · rename_i h1
    split at h
    · cases h
    · split at h
      · rename_i h2 h3
        exact ⟨by simpa using h1, by omega, okB_row.1 h3⟩
      · cases h
end K
end Go.Proofs.YtableoihgkmbjaaGreat
