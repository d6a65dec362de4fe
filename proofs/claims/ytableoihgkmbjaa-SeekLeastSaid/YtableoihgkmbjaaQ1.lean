/- Walks of the program's layer of rows: limits, tables. -/
import Derived.Test.YtableoihgkmbjaaK6
import Derived.Test.YtableoihgkmbjaaSl
import Derived.Test.YtableoihgkmbjaaB7
namespace Go.Proofs.Ytableoihgkmbjaa
open Go.RowKit
set_option linter.unusedVariables false

/-- a space by value -/
def spV (k w : Int) : Value := .agg #[.int .i64 k, .int .i64 w]

theorem isRight_any (k w : Int) (W : World) : Calls Try.prog 28 #[.agg #[.int .i64 k, .int .i64 w]] W fun e w' => e = .returned (.bool (K.over k w)) ∧ Below W.heap.size W w' := by
  have hB : Below W.heap.size W (W.alloc (.cells #[.int .i64 k, .int .i64 w] 44)) := (Below.refl _ _).alloc (Nat.le_refl _) _
  have HB := Lib.hid hB; clear hB
  by_cases h1 : 1 ≤ k
  · by_cases h2 : k ≤ 2
    · by_cases h3 : 1 ≤ w
      · by_cases h4 : w ≤ 3
        · have hov : K.over k w = true := K.over_iff.2 ⟨h1, h2, h3, h4⟩
          rw [hov]; clear hov
          go_enter Try.func28, Try.ntmps28
          go_wp2
          go_ret
          exact ⟨rfl, HB.out⟩
        · have hov : K.over k w = false := by unfold K.over; simp; omega
          have hd : decide (w ≤ 3) = false := by simpa using h4
          rw [hov]; clear hov
          go_enter Try.func28, Try.ntmps28
          go_wp2
          go_ret
          exact ⟨rfl, HB.out⟩
      · have hov : K.over k w = false := by unfold K.over; simp; omega
        have hd : decide (1 ≤ w) = false := by simpa using h3
        rw [hov]; clear hov
        go_enter Try.func28, Try.ntmps28
        go_wp2
        go_ret
        exact ⟨rfl, HB.out⟩
    · have hov : K.over k w = false := by unfold K.over; simp; omega
      have hd : decide (k ≤ 2) = false := by simpa using h2
      rw [hov]; clear hov
      go_enter Try.func28, Try.ntmps28
      go_wp2
      go_ret
      exact ⟨rfl, HB.out⟩
  · have hov : K.over k w = false := by unfold K.over; simp; omega
    have hd : decide (1 ≤ k) = false := by simpa using h1
    rw [hov]; clear hov
    go_enter Try.func28, Try.ntmps28
    go_wp2
    go_ret
    exact ⟨rfl, HB.out⟩

theorem psize_any (k w : Nat) (hk : k = 1 ∨ k = 2) (hw : w = 1 ∨ w = 2 ∨ w = 3) (W : World) : Calls Try.prog 42 #[.agg #[.int .i64 k, .int .i64 w]] W fun e w' => e = .returned (.int .i64 (K.size k w : Nat)) ∧ Below W.heap.size W w' := by
  obtain ⟨s0, s1, s2, s3⟩ := size_facts hk hw
  have hB : Below W.heap.size W (W.alloc (.cells #[.int .i64 k, .int .i64 w] 44)) := (Below.refl _ _).alloc (Nat.le_refl _) _
  have HB := Lib.hid hB
  have S2 := Lib.hid s2
  clear hB hk hw s2
  go_enter Try.func42, Try.ntmps42
  go_wp2
  go_ret
  exact ⟨ret_int S2.out, HB.out⟩

theorem pclo_any (x z : Int) (B0 : Nat) (W : World) (hc : W.cell? ⟨B0, 0, none⟩ = some (.int .u32 z)) :
    Calls Try.prog 44 #[.int .u32 x, .pointer (some ⟨B0, 0, none⟩)] W fun e w' => e = .returned (.bool (decide (z < x))) ∧ W = w' := by
  go_enter Try.func44, Try.ntmps44
  go_wp2
  go_ret
  exact ⟨rfl, rfl⟩

theorem any_take_step {α : Type} {p : α → Bool} {xs : List α} {k : Nat} {x : α} (hx : xs[k]? = some x) (h : (xs.take k).any p = false) (hp : p x = false) : (xs.take (k + 1)).any p = false := by
  rw [take_succ_of hx, List.any_append, h]; simp [hp]
theorem any_true_at {α : Type} {p : α → Bool} {xs : List α} {k : Nat} {x : α} (hx : xs[k]? = some x) (hp : p x = true) : xs.any p = true :=
  List.any_eq_true.2 ⟨x, List.mem_of_getElem? hx, hp⟩

set_option maxHeartbeats 400000 in
theorem idxW_any (z : Int) (B : Nat) (A : Option Addr) (m c : Nat) (xs : List Int) (w : World) (hA : SlAt (IntR .u32) w A m xs) (hc : w.cell? ⟨B, 0, none⟩ = some (.int .u32 z)) :
    Calls Try.prog 55 #[.slice A m c, .func (.func 44) #[] #[.pointer (some ⟨B, 0, none⟩)]] w fun e w' => ∃ r : Int, e = .returned (.int .i64 r) ∧ decide (0 ≤ r) = (xs.any fun x => decide (z < x)) ∧ -1 ≤ r ∧ w = w' := by
  have hl := hA.le
  have HA := Lib.hid hA; clear hA
  have HP := Lib.hid (fun x => pclo_any x z B w hc); clear hc
  go_enter Try.func55, Try.ntmps55
  go_wp2
  go_loop [8] (fun i => ∃ k : Nat, k ≤ m ∧ i = .int .i64 k ∧ Hid ((xs.take k).any (fun x => decide (z < x)) = false)) (fun i => m - (intOf i).toNat)
  case atStart => exact ⟨0, Nat.zero_le _, rfl, rfl⟩
  case round =>
    obtain ⟨k, hk, rfl, HT⟩ := hrel
    by_cases hlt : k < m
    · obtain ⟨x, b, off, u, hx, rfl, _, h1, rfl⟩ := HA.out.at_ hlt
      have con := HP.out x
      have Hx := Lib.hid hx; clear hx
      cases hpx : decide (z < x)
      · rw [hpx] at con
        have Hcon := Lib.hid con; clear con
        have Hpx := Lib.hid hpx; clear hpx
        go_wp2_with fail
        (with_reducible refine Hcon.out.mono ?_)
        rintro e w' ⟨rfl, rfl⟩
        go_wp2
        go_round
        case rel => exact ⟨k + 1, by omega, by go_num, any_take_step Hx.out HT.out Hpx.out⟩
        case measure => simp [intOf]; omega
      · rw [hpx] at con
        have Hcon := Lib.hid con; clear con
        have Hpx := Lib.hid hpx; clear hpx
        go_wp2_with fail
        (with_reducible refine Hcon.out.mono ?_)
        rintro e w' ⟨rfl, rfl⟩
        go_wp2
        go_ret
        exact ⟨_, rfl, by rw [any_true_at (p := fun x => decide (z < x)) Hx.out Hpx.out]; simp, by omega, rfl⟩
    · go_wp2
      go_ret
      have h3 := HT.out
      rw [take_all HA.out.len (by omega)] at h3
      exact ⟨_, rfl, by rw [h3]; rfl, by omega, rfl⟩

set_option maxHeartbeats 400000 in
theorem hasW_any (z : Int) (B : Nat) (A : Option Addr) (m c : Nat) (xs : List Int) (w : World) (hA : SlAt (IntR .u32) w A m xs) (hc : w.cell? ⟨B, 0, none⟩ = some (.int .u32 z)) :
    Calls Try.prog 43 #[.slice A m c, .func (.func 44) #[] #[.pointer (some ⟨B, 0, none⟩)]] w fun e w' => e = .returned (.bool (xs.any fun x => decide (z < x))) ∧ w = w' := by
  have Hcon := Lib.hid (idxW_any z B A m c xs w hA hc); clear hA hc
  go_enter Try.func43, Try.ntmps43
  go_wp2_with fail
  (with_reducible refine Hcon.out.mono ?_)
  rintro e w' ⟨r, rfl, hr, hr1, rfl⟩
  have Hr := Lib.hid hr; clear hr
  go_wp2
  go_ret
  exact ⟨ret_bool (by rw [← Hr.out]), rfl⟩

theorem isTable_all (k w : Nat) (t : List Int) : K.isTable k w t = (decide (t.length = K.size k w) && !(t.any fun x => decide (B.pw w - 1 < x))) := by
  unfold K.isTable
  congr 1
  induction t with
  | nil => rfl
  | cons x r ih =>
    rw [List.all_cons, List.any_cons, ih, Bool.not_or]
    congr 1
    by_cases h : x < B.pw w
    · rw [decide_eq_true h, decide_eq_false (by omega)]; rfl
    · rw [decide_eq_false h, decide_eq_true (by omega)]; rfl

set_option maxRecDepth 100000 in
set_option maxHeartbeats 2000000 in
theorem pisTable_any (k w : Nat) (hk : k = 1 ∨ k = 2) (hw : w = 1 ∨ w = 2 ∨ w = 3) (A : Option Addr) (m c : Nat) (t : List Int) (W : World) (hA : SlAt (IntR .u32) W A m t) :
    Calls Try.prog 29 #[.agg #[.int .i64 k, .int .i64 w], .slice A m c] W fun e w' => e = .returned (.bool (K.isTable k w t)) ∧ Below W.heap.size W w' := by
  have HM := Lib.hid (fun W' => Mask_any w W')
  have hwd : B.isWd w = true := B.isWd_iff.2 (by omega)
  have HS := Lib.hid (fun W' => psize_any k w hk hw W')
  have hall := isTable_all k w t
  rw [hA.len] at hall
  rw [hwd] at HM
  simp only [if_true] at HM
  obtain ⟨z, hz⟩ : ∃ z, z = B.pw w - 1 := ⟨_, rfl⟩
  rw [← hz] at HM hall
  have HA := Lib.hid hA
  have Hall := Lib.hid hall
  have HB0 := Lib.hid (show Below W.heap.size W ((W.alloc (.cells #[.int .i64 k, .int .i64 w] 44)).alloc (.cells #[.int .u32 z] 40)) from ((Below.refl _ _).alloc (Nat.le_refl _) _).alloc (by simp) _)
  clear hA hall hz hwd hk hw
  by_cases hm : m = K.size k w
  · have hd : ((m : Int) == ((K.size k w : Nat) : Int)) = true := by rw [hm]; simp
    have hml : decide (m = K.size k w) = true := by simpa using hm
    have Hml := Lib.hid hml
    clear hm hml
    obtain ⟨N, hN⟩ : ∃ N, N = K.size k w := ⟨_, rfl⟩
    rw [← hN] at HS hd
    clear hN
    go_enter Try.func29, Try.ntmps29
    go_wp2_with fail
    (with_reducible refine (HM.out _).mono ?_)
    rintro e w' ⟨rfl, rfl⟩
    go_wp2_with fail
    (with_reducible refine (HS.out _).mono ?_)
    rintro e w2 ⟨rfl, hb2⟩
    have hcell : w2.cell? ⟨W.heap.size + 1, 0, none⟩ = some (.int .u32 z) := (hb2.cell (p := ⟨W.heap.size + 1, 0, none⟩) (by simp)).trans (by
      have h := heap_alloc_new (W.alloc (.cells #[.int .i64 k, .int .i64 w] 44)) (.cells #[.int .u32 z] 40)
      rw [World.size_alloc] at h
      exact cell_of_one h)
    have hb3 := HB0.out.trans (hb2.mono HB0.out.size)
    have Hcon := Lib.hid (hasW_any z (W.heap.size + 1) A m c t w2 (HA.out.below (monoInt _) hb3) hcell)
    have Hb3 := Lib.hid hb3
    clear hb3 hb2 hcell
    go_wp2_with fail
    (with_reducible refine Hcon.out.mono ?_)
    rintro e w' ⟨rfl, rfl⟩
    go_wp2
    go_ret
    exact ⟨ret_bool (by rw [Hall.out, Hml.out]; rfl), Hb3.out⟩
  · have hd : ((m : Int) == ((K.size k w : Nat) : Int)) = false := by simp; omega
    have hml : decide (m = K.size k w) = false := by simpa using hm
    have Hml := Lib.hid hml
    clear hm hml
    obtain ⟨N, hN⟩ : ∃ N, N = K.size k w := ⟨_, rfl⟩
    rw [← hN] at HS hd
    clear hN
    go_enter Try.func29, Try.ntmps29
    go_wp2_with fail
    (with_reducible refine (HM.out _).mono ?_)
    rintro e w' ⟨rfl, rfl⟩
    go_wp2_with fail
    (with_reducible refine (HS.out _).mono ?_)
    rintro e w2 ⟨rfl, hb2⟩
    have Hb3 := Lib.hid (HB0.out.trans (hb2.mono HB0.out.size))
    clear hb2
    go_wp2
    go_ret
    exact ⟨ret_bool (by rw [Hall.out, Hml.out]; rfl), Hb3.out⟩
end Go.Proofs.Ytableoihgkmbjaa
