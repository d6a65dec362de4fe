/- Merged: Sl, Q1, Q2, Q3, PlainC, Q4, Q4s, Q5. -/
import Derived.Test.YtableoihgkmbjaaGreatBase
import Derived.Test.YtableoihgkmbjaaGreatM3
import Derived.Test.YtableoihgkmbjaaGreatM1
import Derived.Laws.CopyOwn
import Derived.Deep.RegionLaw
import Derived.StillTailTactics
import Derived.Deep.RegionHeld3
section
namespace Go.Proofs.YtableoihgkmbjaaGreat
set_option linter.unusedVariables false
set_option linter.unusedSimpArgs false
open Go.RowKit
theorem run_slice_to {P : Program} {t e : TypeId} {z : Value} {s bytes : Nat} (ht : P.underlying t = some (.slice e)) (hinfo : (P.info? e).map (fun i => (i.zero, i.size, i.bytes)) = some (some z, s, bytes)) (g off n cap k : Nat) (hk : k ≤ cap) (w : World) :
    (Instr.slice t (.slice (some ⟨g, off, none⟩) n cap) none (some (.int .i64 (k : Int))) none).run P w = .ok (.slice (some ⟨g, off, none⟩) k cap) w := by
  obtain ⟨i, hi, hz, hsz, hby⟩ := info_parts hinfo
  simp [Instr.slice, Instr.sliceBounds, Instr.sliceBound, run_underlying ht, asIntOf, sizeOf, typeInfo, hi, hsz, hk, addr_add_zero]
theorem run_slice_fromN {P : Program} {t e : TypeId} {z : Value} {s bytes : Nat} (ht : P.underlying t = some (.slice e)) (hinfo : (P.info? e).map (fun i => (i.zero, i.size, i.bytes)) = some (some z, s, bytes)) (g off n cap K : Nat) (hk : K ≤ n) (w : World) :
    (Instr.slice t (.slice (some ⟨g, off, none⟩) n cap) (some (.int .i64 (K : Int))) none none).run P w = .ok (.slice (if cap = K then some ⟨g, off, none⟩ else some ⟨g, off + K * s, none⟩) (n - K) (cap - K)) w := by
  obtain ⟨i, hi, hz, hsz, hby⟩ := info_parts hinfo
  simp [Instr.slice, Instr.sliceBounds, Instr.sliceBound, run_underlying ht, asIntOf, sizeOf, typeInfo, hi, hsz, hk]
  by_cases hck : cap = K
  · simp [hck]
  · simp [hck, addr_add_zero]
end Go.Proofs.YtableoihgkmbjaaGreat
end
section
namespace Go.Proofs.YtableoihgkmbjaaGreat
open Go.RowKit
set_option linter.unusedVariables false

/-- a space by value -/
def spV (k w : Int) : Value := .agg #[.int .i64 k, .int .i64 w]

theorem isRight_any (k w : Int) (W : World) : Calls Tryz.prog 35 #[.agg #[.int .i64 k, .int .i64 w]] W fun e w' => e = .returned (.bool (K.over k w)) ∧ Below W.heap.size W w' := by
  have hB : Below W.heap.size W (W.alloc (.cells #[.int .i64 k, .int .i64 w] 48)) := (Below.refl _ _).alloc (Nat.le_refl _) _
  have HB := Lib.hid hB; clear hB
  by_cases h1 : 1 ≤ k
  · by_cases h2 : k ≤ 2
    · by_cases h3 : 1 ≤ w
      · by_cases h4 : w ≤ 3
        · have hov : K.over k w = true := K.over_iff.2 ⟨h1, h2, h3, h4⟩
          rw [hov]; clear hov
          go_enter Tryz.func35, Tryz.ntmps35
          go_wp2
          go_ret
          exact ⟨rfl, HB.out⟩
        · have hov : K.over k w = false := by unfold K.over; simp; omega
          have hd : decide (w ≤ 3) = false := by simpa using h4
          rw [hov]; clear hov
          go_enter Tryz.func35, Tryz.ntmps35
          go_wp2
          go_ret
          exact ⟨rfl, HB.out⟩
      · have hov : K.over k w = false := by unfold K.over; simp; omega
        have hd : decide (1 ≤ w) = false := by simpa using h3
        rw [hov]; clear hov
        go_enter Tryz.func35, Tryz.ntmps35
        go_wp2
        go_ret
        exact ⟨rfl, HB.out⟩
    · have hov : K.over k w = false := by unfold K.over; simp; omega
      have hd : decide (k ≤ 2) = false := by simpa using h2
      rw [hov]; clear hov
      go_enter Tryz.func35, Tryz.ntmps35
      go_wp2
      go_ret
      exact ⟨rfl, HB.out⟩
  · have hov : K.over k w = false := by unfold K.over; simp; omega
    have hd : decide (1 ≤ k) = false := by simpa using h1
    rw [hov]; clear hov
    go_enter Tryz.func35, Tryz.ntmps35
    go_wp2
    go_ret
    exact ⟨rfl, HB.out⟩

theorem psize_any (k w : Nat) (hk : k = 1 ∨ k = 2) (hw : w = 1 ∨ w = 2 ∨ w = 3) (W : World) : Calls Tryz.prog 30 #[.agg #[.int .i64 k, .int .i64 w]] W fun e w' => e = .returned (.int .i64 (K.size k w : Nat)) ∧ Below W.heap.size W w' := by
  obtain ⟨s0, s1, s2, s3⟩ := size_facts hk hw
  have hB : Below W.heap.size W (W.alloc (.cells #[.int .i64 k, .int .i64 w] 48)) := (Below.refl _ _).alloc (Nat.le_refl _) _
  have HB := Lib.hid hB
  have S2 := Lib.hid s2
  clear hB hk hw s2
  go_enter Tryz.func30, Tryz.ntmps30
  go_wp2
  go_ret
  exact ⟨ret_int S2.out, HB.out⟩

theorem pclo_any (x z : Int) (B0 : Nat) (W : World) (hc : W.cell? ⟨B0, 0, none⟩ = some (.int .u32 z)) :
    Calls Tryz.prog 53 #[.int .u32 x, .pointer (some ⟨B0, 0, none⟩)] W fun e w' => e = .returned (.bool (decide (z < x))) ∧ W = w' := by
  go_enter Tryz.func53, Tryz.ntmps53
  go_wp2
  go_ret
  exact ⟨rfl, rfl⟩

theorem any_take_step {α : Type} {p : α → Bool} {xs : List α} {k : Nat} {x : α} (hx : xs[k]? = some x) (h : (xs.take k).any p = false) (hp : p x = false) : (xs.take (k + 1)).any p = false := by
  rw [take_succ_of hx, List.any_append, h]; simp [hp]
theorem any_true_at {α : Type} {p : α → Bool} {xs : List α} {k : Nat} {x : α} (hx : xs[k]? = some x) (hp : p x = true) : xs.any p = true :=
  List.any_eq_true.2 ⟨x, List.mem_of_getElem? hx, hp⟩

set_option maxHeartbeats 400000 in
theorem idxW_any (z : Int) (B : Nat) (A : Option Addr) (m c : Nat) (xs : List Int) (w : World) (hA : SlAt (IntR .u32) w A m xs) (hc : w.cell? ⟨B, 0, none⟩ = some (.int .u32 z)) :
    Calls Tryz.prog 70 #[.slice A m c, .func (.func 53) #[] #[.pointer (some ⟨B, 0, none⟩)]] w fun e w' => ∃ r : Int, e = .returned (.int .i64 r) ∧ decide (0 ≤ r) = (xs.any fun x => decide (z < x)) ∧ -1 ≤ r ∧ w = w' := by
  have hl := hA.le
  have HA := Lib.hid hA; clear hA
  have HP := Lib.hid (fun x => pclo_any x z B w hc); clear hc
  go_enter Tryz.func70, Tryz.ntmps70
  go_wp2
  go_loop [8] (fun i => ∃ k : Nat, k ≤ m ∧ i = .int .i64 k ∧ Hid ((xs.take k).any (fun x => decide (z < x)) = false)) (fun i => m - (intOf i).toNat)
  case atStart => exact ⟨0, Nat.zero_le _, rfl, rfl⟩
  case round =>
    obtain ⟨k, hk, rfl, HT⟩ := hrel
    by_cases hlt : k < m
    · obtain ⟨x, b, off, u, hx, rfl, _, h1, rfl⟩ := HA.out.at_ hlt
      have con := HP.out x
      have Hx := Lib.hid hx; clear hx
      cases hpx : decide (z < x)
      · rw [hpx] at con
        have Hcon := Lib.hid con; clear con
        have Hpx := Lib.hid hpx; clear hpx
        go_wp2_with fail
        (with_reducible refine Hcon.out.mono ?_)
        rintro e w' ⟨rfl, rfl⟩
        go_wp2
        go_round
        case rel => exact ⟨k + 1, by omega, by go_num, any_take_step Hx.out HT.out Hpx.out⟩
        case measure => simp [intOf]; omega
      · rw [hpx] at con
        have Hcon := Lib.hid con; clear con
        have Hpx := Lib.hid hpx; clear hpx
        go_wp2_with fail
        (with_reducible refine Hcon.out.mono ?_)
        rintro e w' ⟨rfl, rfl⟩
        go_wp2
        go_ret
        exact ⟨_, rfl, by rw [any_true_at (p := fun x => decide (z < x)) Hx.out Hpx.out]; simp, by omega, rfl⟩
    · go_wp2
      go_ret
      have h3 := HT.out
      rw [take_all HA.out.len (by omega)] at h3
      exact ⟨_, rfl, by rw [h3]; rfl, by omega, rfl⟩

set_option maxHeartbeats 400000 in
theorem hasW_any (z : Int) (B : Nat) (A : Option Addr) (m c : Nat) (xs : List Int) (w : World) (hA : SlAt (IntR .u32) w A m xs) (hc : w.cell? ⟨B, 0, none⟩ = some (.int .u32 z)) :
    Calls Tryz.prog 52 #[.slice A m c, .func (.func 53) #[] #[.pointer (some ⟨B, 0, none⟩)]] w fun e w' => e = .returned (.bool (xs.any fun x => decide (z < x))) ∧ w = w' := by
  have Hcon := Lib.hid (idxW_any z B A m c xs w hA hc); clear hA hc
  go_enter Tryz.func52, Tryz.ntmps52
  go_wp2_with fail
  (with_reducible refine Hcon.out.mono ?_)
  rintro e w' ⟨r, rfl, hr, hr1, rfl⟩
  have Hr := Lib.hid hr; clear hr
  go_wp2
  go_ret
  exact ⟨ret_bool (by rw [← Hr.out]), rfl⟩

theorem isTable_all (k w : Nat) (t : List Int) : K.isTable k w t = (decide (t.length = K.size k w) && !(t.any fun x => decide (B.pw w - 1 < x))) := by
  unfold K.isTable
  congr 1
  induction t with
  | nil => rfl
  | cons x r ih =>
    rw [List.all_cons, List.any_cons, ih, Bool.not_or]
    congr 1
    by_cases h : x < B.pw w
    · rw [decide_eq_true h, decide_eq_false (by omega)]; rfl
    · rw [decide_eq_false h, decide_eq_true (by omega)]; rfl

set_option maxRecDepth 100000 in
set_option maxHeartbeats 2000000 in
theorem pisTable_any (k w : Nat) (hk : k = 1 ∨ k = 2) (hw : w = 1 ∨ w = 2 ∨ w = 3) (A : Option Addr) (m c : Nat) (t : List Int) (W : World) (hA : SlAt (IntR .u32) W A m t) :
    Calls Tryz.prog 29 #[.agg #[.int .i64 k, .int .i64 w], .slice A m c] W fun e w' => e = .returned (.bool (K.isTable k w t)) ∧ Below W.heap.size W w' := by
  have HM := Lib.hid (fun W' => Mask_any w W')
  have hwd : B.isWd w = true := B.isWd_iff.2 (by omega)
  have HS := Lib.hid (fun W' => psize_any k w hk hw W')
  have hall := isTable_all k w t
  rw [hA.len] at hall
  rw [hwd] at HM
  simp only [if_true] at HM
  obtain ⟨z, hz⟩ : ∃ z, z = B.pw w - 1 := ⟨_, rfl⟩
  rw [← hz] at HM hall
  have HA := Lib.hid hA
  have Hall := Lib.hid hall
  have HB0 := Lib.hid (show Below W.heap.size W ((W.alloc (.cells #[.int .i64 k, .int .i64 w] 48)).alloc (.cells #[.int .u32 z] 39)) from ((Below.refl _ _).alloc (Nat.le_refl _) _).alloc (by simp) _)
  clear hA hall hz hwd hk hw
  by_cases hm : m = K.size k w
  · have hd : ((m : Int) == ((K.size k w : Nat) : Int)) = true := by rw [hm]; simp
    have hml : decide (m = K.size k w) = true := by simpa using hm
    have Hml := Lib.hid hml
    clear hm hml
    obtain ⟨N, hN⟩ : ∃ N, N = K.size k w := ⟨_, rfl⟩
    rw [← hN] at HS hd
    clear hN
    go_enter Tryz.func29, Tryz.ntmps29
    go_wp2_with fail
    (with_reducible refine (HM.out _).mono ?_)
    rintro e w' ⟨rfl, rfl⟩
    go_wp2_with fail
    (with_reducible refine (HS.out _).mono ?_)
    rintro e w2 ⟨rfl, hb2⟩
    have hcell : w2.cell? ⟨W.heap.size + 1, 0, none⟩ = some (.int .u32 z) := (hb2.cell (p := ⟨W.heap.size + 1, 0, none⟩) (by simp)).trans (by
      have h := heap_alloc_new (W.alloc (.cells #[.int .i64 k, .int .i64 w] 48)) (.cells #[.int .u32 z] 39)
      rw [World.size_alloc] at h
      exact cell_of_one h)
    have hb3 := HB0.out.trans (hb2.mono HB0.out.size)
    have Hcon := Lib.hid (hasW_any z (W.heap.size + 1) A m c t w2 (HA.out.below (monoInt _) hb3) hcell)
    have Hb3 := Lib.hid hb3
    clear hb3 hb2 hcell
    go_wp2_with fail
    (with_reducible refine Hcon.out.mono ?_)
    rintro e w' ⟨rfl, rfl⟩
    go_wp2
    go_ret
    exact ⟨ret_bool (by rw [Hall.out, Hml.out]; rfl), Hb3.out⟩
  · have hd : ((m : Int) == ((K.size k w : Nat) : Int)) = false := by simp; omega
    have hml : decide (m = K.size k w) = false := by simpa using hm
    have Hml := Lib.hid hml
    clear hm hml
    obtain ⟨N, hN⟩ : ∃ N, N = K.size k w := ⟨_, rfl⟩
    rw [← hN] at HS hd
    clear hN
    go_enter Tryz.func29, Tryz.ntmps29
    go_wp2_with fail
    (with_reducible refine (HM.out _).mono ?_)
    rintro e w' ⟨rfl, rfl⟩
    go_wp2_with fail
    (with_reducible refine (HS.out _).mono ?_)
    rintro e w2 ⟨rfl, hb2⟩
    have Hb3 := Lib.hid (HB0.out.trans (hb2.mono HB0.out.size))
    clear hb2
    go_wp2
    go_ret
    exact ⟨ret_bool (by rw [Hall.out, Hml.out]; rfl), Hb3.out⟩
end Go.Proofs.YtableoihgkmbjaaGreat
end
section
namespace Go.Proofs.YtableoihgkmbjaaGreat
open Go.RowKit
set_option linter.unusedVariables false

set_option maxRecDepth 100000 in
set_option maxHeartbeats 2000000 in
theorem pasked_any (k w : Int) (A : Option Addr) (m c : Nat) (t : List Int) (W : World) (hA : SlAt (IntR .u32) W A m t) :
    Calls Tryz.prog 33 #[.agg #[.int .i64 k, .int .i64 w], .slice A m c] W fun e w' => e = .returned (.int .i64 (if K.over k w && K.isTable k.toNat w.toNat t then 0 else 1)) ∧ Below W.heap.size W w' := by
  have HR := Lib.hid (fun W' => isRight_any k w W')
  have HB0 := Lib.hid (show Below W.heap.size W (W.alloc (.cells #[.int .i64 k, .int .i64 w] 48)) from (Below.refl _ _).alloc (Nat.le_refl _) _)
  cases hov : K.over k w
  · rw [hov] at HR
    clear hA hov
    go_enter Tryz.func33, Tryz.ntmps33
    go_wp2_with fail
    (with_reducible refine (HR.out _).mono ?_)
    rintro e w2 ⟨rfl, hb2⟩
    have Hb3 := Lib.hid (HB0.out.trans (hb2.mono HB0.out.size)); clear hb2
    go_wp2
    go_ret
    exact ⟨rfl, Hb3.out⟩
  · have hkw := K.over_iff.1 hov
    obtain ⟨kN, rfl⟩ : ∃ kN : Nat, k = kN := ⟨k.toNat, by omega⟩
    obtain ⟨wN, rfl⟩ : ∃ wN : Nat, w = wN := ⟨w.toNat, by omega⟩
    have HT := Lib.hid (fun W' (h : Below W.heap.size W W') => pisTable_any kN wN (by omega) (by omega) A m c t W' (hA.below (monoInt _) h))
    have e1 : (kN : Int).toNat = kN := Int.toNat_natCast kN
    have e2 : (wN : Int).toNat = wN := Int.toNat_natCast wN
    rw [e1, e2]
    clear e1 e2
    obtain ⟨b, hb⟩ : ∃ b, b = K.isTable kN wN t := ⟨_, rfl⟩
    rw [hov] at HR
    rw [← hb] at HT ⊢
    cases b
    all_goals
      clear hA hov hkw hb
      go_enter Tryz.func33, Tryz.ntmps33
      go_wp2_with fail
      (with_reducible refine (HR.out _).mono ?_)
      rintro e w2 ⟨rfl, hb2⟩
      have hb3 := HB0.out.trans (hb2.mono HB0.out.size)
      have hc0 : w2.cell? ⟨W.heap.size, 0, none⟩ = some (.int .i64 (kN : Int)) := (hb2.cell (p := ⟨W.heap.size, 0, none⟩) (by simp)).trans (by rw [cell_of_row _ _ _ _ _ (0, 0) (heap_alloc_new W _)]; rfl)
      have hc1 : w2.cell? ⟨W.heap.size, 1, none⟩ = some (.int .i64 (wN : Int)) := (hb2.cell (p := ⟨W.heap.size, 1, none⟩) (by simp)).trans (by rw [cell_of_row _ _ _ _ _ (0, 0) (heap_alloc_new W _)]; rfl)
      have Hcon := Lib.hid (HT.out w2 hb3)
      have Hb3 := Lib.hid hb3
      clear hb2 hb3
      go_wp2_with fail
      (with_reducible refine Hcon.out.mono ?_)
      rintro e w3 ⟨rfl, hb4⟩
      have Hb4 := Lib.hid (Hb3.out.trans (hb4.mono Hb3.out.size)); clear hb4
      go_wp2
      go_ret
      exact ⟨rfl, Hb4.out⟩

theorem poperations_any (W : World) : Calls Tryz.prog 37 #[] W fun e w' => ∃ c, e = .returned (.slice (some ⟨W.heap.size, 0, none⟩) 7 c) ∧ SlAt (IntR .i64) w' (some ⟨W.heap.size, 0, none⟩) 7 K.ops ∧ Below W.heap.size W w' := by
  go_enter Tryz.func37, Tryz.ntmps37
  go_wp2
  go_ret
  refine ⟨7, rfl, ?_, (Below.refl _ _).alloc (Nat.le_refl _) _⟩
  exact (OwnAt.of_new (s := 1) W #[.int .i64 1, .int .i64 2, .int .i64 8, .int .i64 9, .int .i64 10, .int .i64 11, .int .i64 12] 7 rfl (by simp [maxLen])).slInts

set_option maxHeartbeats 400000 in
theorem equalW_any (A B : Option Addr) (n m c d : Nat) (xs ys : List Int) (w : World) (hA : SlAt (IntR .u32) w A n xs) (hB : SlAt (IntR .u32) w B m ys) :
    Calls Tryz.prog 59 #[.slice A n c, .slice B m d] w fun e w' => e = .returned (.bool (decide (xs = ys))) ∧ Dr w w' := by
  have hn := hA.le
  have hm := hB.le
  have HA := Lib.hid hA; clear hA
  have HB := Lib.hid hB; clear hB
  by_cases hl : n = m
  · subst hl
    go_enter Tryz.func59, Tryz.ntmps59
    go_wp2
    go_loopw [13] (fun i wr => ∃ k : Nat, k ≤ n ∧ i = .int .i64 k ∧ Dr w wr ∧ Hid (xs.take k = ys.take k)) (fun i _ => n - (intOf i).toNat)
    case atStart => exact ⟨0, Nat.zero_le _, rfl, Dr.refl _, rfl⟩
    case round =>
      obtain ⟨k, hk, rfl, hdr, HT⟩ := hrel
      by_cases hlt : k < n
      · obtain ⟨x, b, off, u, hx, rfl, _, h1, rfl⟩ := (HA.out.dr (monoInt _) hdr).at_ hlt
        obtain ⟨y, b', off', u', hy, rfl, _, h2, rfl⟩ := (HB.out.dr (monoInt _) hdr).at_ hlt
        have Hx := Lib.hid hx; clear hx
        have Hy := Lib.hid hy; clear hy
        by_cases he : x = y
        · subst he
          go_wp2
          go_quiet (fail)
          go_wp2
          go_roundw
          case rel => exact ⟨k + 1, by omega, by go_num, hdr.drewN _, by show _ = _; rw [take_succ_of Hx.out, take_succ_of Hy.out, HT.out]⟩
          case measure => simp [intOf]; omega
        · have hb : (x != y) = true := by simpa using he
          have Hne := Lib.hid he; clear he
          go_wp2
          go_quiet (fail)
          go_wp2
          go_ret
          refine ⟨ret_bool (decide_eq_false ?_).symm, hdr.drewN _⟩
          rintro rfl
          exact Hne.out (Option.some.inj (Hx.out.symm.trans Hy.out))
      · go_wp2
        go_ret
        have h3 := HT.out
        rw [take_all HA.out.len (by omega), take_all HB.out.len (by omega)] at h3
        exact ⟨ret_bool (decide_eq_true h3).symm, hdr⟩
  · have hb : ((n : Int) != (m : Int)) = true := by simp; omega
    have Hl := Lib.hid hl; clear hl
    go_enter Tryz.func59, Tryz.ntmps59
    go_wp2
    go_ret
    refine ⟨ret_bool (decide_eq_false ?_).symm, Dr.refl _⟩
    rintro rfl
    exact Hl.out (HA.out.len.symm.trans HB.out.len)

set_option maxRecDepth 100000 in
set_option maxHeartbeats 2000000 in
theorem cloneS_any (A : Option Addr) (m c : Nat) (row : List K.Stp) (W : World) (hA : StAt 3 StepR W A m row) (hm : m ≤ 1000) :
    Calls Tryz.prog 60 #[.slice A m c] W fun e w' => ∃ A' c', e = .returned (.slice A' m c') ∧ OwnAt w' 46 3 (.slice A' m c') m (flatS row) ∧ Below W.heap.size W w' ∧ ∀ g, (Value.slice A' m c').ownBlock = some g → W.heap.size ≤ g := by
  have hml := hA.len
  obtain ⟨us, hul, hcs, hR⟩ := hA.cells (by decide)
  have hus : us = flatS row := by
    apply List.ext_getElem?
    intro j
    by_cases hj : j < m * 3
    · have hk : row[j / 3]? = some (row[j / 3]'(by omega)) := List.getElem?_eq_getElem _
      have h1 : (us.drop (j / 3 * 3)).take 3 = cellsS _ := hR _ _ hk
      have h2 := flatS_at row hk
      have e1 : us[j]? = ((us.drop (j / 3 * 3)).take 3)[j % 3]? := by
        rw [List.getElem?_take, if_pos (by omega), List.getElem?_drop, show j / 3 * 3 + j % 3 = j by omega]
      have e2 : (flatS row)[j]? = (((flatS row).drop (j / 3 * 3)).take 3)[j % 3]? := by
        rw [List.getElem?_take, if_pos (by omega), List.getElem?_drop, show j / 3 * 3 + j % 3 = j by omega]
      rw [e1, e2, h1, h2]
    · rw [List.getElem?_eq_none (by omega), List.getElem?_eq_none (by rw [flatS_len]; omega)]
  subst hus
  have Hcs := Lib.hid hcs
  have Hml := Lib.hid hml
  have hul' : (flatS row).length = m * 3 := hul
  have Hul := Lib.hid hul'
  have hn9 : 0 + m ≤ 1000000000 := by omega
  have HB0 := Lib.hid (show Below W.heap.size W (W.alloc (.cells #[] 46)) from (Below.refl _ _).alloc (Nat.le_refl _) _)
  cases A with
  | none =>
    have hm0 : m = 0 := by
      rcases Nat.eq_zero_or_pos m with h | h
      · exact h
      · obtain ⟨x, b, off, u, _, h2, _⟩ := hA.at_ h; cases h2
    subst hm0
    have hrow : row = [] := List.eq_nil_of_length_eq_zero hml
    subst hrow
    have hq := fun (W' : World) => Lib.run_eql_slice_nil (P := Tryz.prog) W' 24 46 none 0 c 0 0 Tryz.underlying24
    rw [show (none : Option Addr).isNone = true from rfl] at hq
    clear hA hul hcs hR hml hul' Hcs Hml Hul hn9 hm HB0
    go_enter Tryz.func60, Tryz.ntmps60
    go_wp2
    go_ret
    exact ⟨_, _, rfl, OwnAt.nil_ .., Below.refl _ _, fun g hg => by simp [Value.ownBlock] at hg⟩
  | some a =>
    have hq := fun (W' : World) => Lib.run_eql_slice_nil (P := Tryz.prog) W' 24 46 (some a) m c 0 0 Tryz.underlying24
    rw [show (some a : Option Addr).isNone = false from rfl] at hq
    clear hA hul hcs hR hml hul'
    go_enter Tryz.func60, Tryz.ntmps60
    go_wp2_with (at_builtin; refine wpList_append_src _ rfl (.tmp 5) (.tmp 6) 24 rfl 46 (.agg #[.int .i64 0, .int .i64 0, .int .i64 0]) 3 24 Tryz.underlying24 infoStep rfl pos3 _ 0 [] rfl (own_zero (heap_alloc_new W _)) (some a) m c (flatS row) rfl Hul.out (src_below Hcs.out HB0.out) (one_flat row) hn9 le64 ?_; intro v' w3 hown' hgr hat2)
    go_ret
    obtain ⟨hb1, hv1⟩ := below_append_src HB0.out HB0.out.size (own_ge (Nat.le_refl _)) hgr hat2
    rw [Nat.zero_add, List.nil_append] at hown'
    obtain ⟨A', c', rfl⟩ := OwnAt.form hown'
    exact ⟨A', c', rfl, hown', hb1, hv1⟩
end Go.Proofs.YtableoihgkmbjaaGreat
end
section
namespace Go.Proofs.YtableoihgkmbjaaGreat
open Go.RowKit
set_option linter.unusedVariables false

theorem and_small : ∀ a : Fin 64, bits .and .i64 (a.val : Int) 1 = ((a.val % 2 : Nat) : Int) ∧ bits .and .i64 (a.val : Int) 3 = ((a.val % 4 : Nat) : Int) ∧ bits .and .i64 (a.val : Int) 7 = ((a.val % 8 : Nat) : Int) := by decide
theorem and_s {a : Nat} (h : a < 64) : bits .and .i64 (a : Int) 1 = ((a % 2 : Nat) : Int) ∧ bits .and .i64 (a : Int) 3 = ((a % 4 : Nat) : Int) ∧ bits .and .i64 (a : Int) 7 = ((a % 8 : Nat) : Int) := and_small ⟨a, h⟩

set_option maxHeartbeats 1000000 in
theorem pinput_any (k w i a : Nat) (hk : k = 1 ∨ k = 2) (hw : w = 1 ∨ w = 2 ∨ w = 3) (hi : i < k) (ha : a < K.size k w) (W : World) :
    Calls Tryz.prog 50 #[.agg #[.int .i64 k, .int .i64 w], .int .i64 i, .int .i64 a] W fun e w' => e = .returned (.int .u32 ((K.inp k w a).getD i 0)) ∧ Below W.heap.size W w' := by
  have h64 : a < 64 := by have := (size_facts hk hw).2.2.2; omega
  obtain ⟨a1, a2, a3⟩ := and_s h64
  have HB := Lib.hid (show Below W.heap.size W (W.alloc (.cells #[.int .i64 k, .int .i64 w] 48)) from (Below.refl _ _).alloc (Nat.le_refl _) _)
  have h9 : (a : Int) < 64 := by omega
  rcases kw_cases hk hw with ⟨rfl, rfl⟩ | ⟨rfl, rfl⟩ | ⟨rfl, rfl⟩ | ⟨rfl, rfl⟩ | ⟨rfl, rfl⟩ | ⟨rfl, rfl⟩
  all_goals
    have hsz : a < 2 ^ _ := ha
    simp only [Nat.reduceMul, Nat.reducePow] at hsz
    clear hk hw ha
  · obtain rfl : i = 0 := by omega
    go_enter Tryz.func50, Tryz.ntmps50
    go_wp2
    go_ret
    refine ⟨ret_int ?_, HB.out⟩; simp [K.inp]; omega
  · obtain rfl : i = 0 := by omega
    go_enter Tryz.func50, Tryz.ntmps50
    go_wp2
    go_ret
    refine ⟨ret_int ?_, HB.out⟩; simp [K.inp]; omega
  · obtain rfl : i = 0 := by omega
    go_enter Tryz.func50, Tryz.ntmps50
    go_wp2
    go_ret
    refine ⟨ret_int ?_, HB.out⟩; simp [K.inp]; omega
  · obtain rfl | rfl : i = 0 ∨ i = 1 := by omega
    all_goals
      go_enter Tryz.func50, Tryz.ntmps50
      go_wp2
      go_ret
      refine ⟨ret_int ?_, HB.out⟩; simp [K.inp]
  · obtain rfl | rfl : i = 0 ∨ i = 1 := by omega
    all_goals
      go_enter Tryz.func50, Tryz.ntmps50
      go_wp2
      go_ret
      refine ⟨ret_int ?_, HB.out⟩; simp [K.inp]
  · obtain rfl | rfl : i = 0 ∨ i = 1 := by omega
    all_goals
      go_enter Tryz.func50, Tryz.ntmps50
      go_wp2
      go_ret
      refine ⟨ret_int ?_, HB.out⟩; simp [K.inp]

theorem pmul_1 (J : Nat) (hJ : J = 1 ∨ J = 2 ∨ J = 3 ∨ J = 4 ∨ J = 6) (W : World) :
    Calls Tryz.prog 81 #[.int .u64 1, .int .u64 (2 ^ J : Nat)] W fun e w' => e = .returned (.tuple #[.int .u64 0, .int .u64 (2 ^ J : Nat)]) ∧ W = w' := by
  rcases hJ with rfl | rfl | rfl | rfl | rfl
  all_goals
    go_enter Tryz.func81, Tryz.ntmps81
    go_wp2
    go_ret2
    exact ⟨rfl, rfl⟩

theorem splice_twice (x : Value) (z : Value) (n c : Nat) (h : n + n ≤ c) : splice (List.replicate n x ++ List.replicate (c - n) z) n (List.replicate n x) = List.replicate (n + n) x ++ List.replicate (c - (n + n)) z := by
  unfold splice
  rw [List.take_append_of_le_length (by simp), List.take_of_length_le (by simp), List.length_replicate, List.drop_append, List.drop_of_length_le (by simp), List.length_replicate, List.nil_append, List.drop_replicate, ← List.append_assoc, List.replicate_append_replicate]
  congr 2
  omega

theorem src_rep {w : World} {g : Nat} {x z : Value} {n c : Nat} {T : TypeId} (hg : w.heap[g]? = some (.cells (List.replicate n x ++ List.replicate (c - n) z).toArray T (0, 0))) :
    ∀ (j : Nat) (v : Value), (List.replicate n x)[j]? = some v → w.cell? ((⟨g, 0, none⟩ : Addr).add j) = some v := by
  intro j v hv
  rw [addr_add_zero, cell_of_row w g _ _ T (0, 0) hg]
  show (List.replicate n x ++ List.replicate (c - n) z).toArray[0 + j]? = some v
  rw [Nat.zero_add, List.getElem?_toArray, List.getElem?_append_left (List.getElem?_eq_some_iff.1 hv).1]
  exact hv

theorem sizeU32 : (Tryz.prog.info? 39).map (·.size) = some 1 := by kernel_rfl

theorem first_src {W w : World} {g : Nat} {x : Value} {T : TypeId} (hb : Below W.heap.size W w) (hg : W.heap[g]? = some (.cells #[x] T (0, 0))) :
    ∀ (j : Nat) (v : Value), [x][j]? = some v → w.cell? ((⟨g, 0, none⟩ : Addr).add j) = some v := by
  intro j v hv
  have hlt : g < W.heap.size := (Array.getElem?_eq_some_iff.1 hg).1
  rw [addr_add_zero, hb.cell (p := ⟨g, 0 + j, none⟩) hlt, cell_of_row W g _ _ T (0, 0) hg]
  rw [Nat.zero_add]
  simpa using hv
def repC (x : Int) (n c : Nat) : List Value := List.replicate n (.int .u32 x) ++ List.replicate (c - n) (.int .u32 0)
theorem repC_len {x : Int} {n c : Nat} (h : n ≤ c) : (repC x n c).length = c := by simp [repC]; omega
theorem one_rep {x : Int} {n : Nat} : ∀ u ∈ List.replicate n (Value.int .u32 x), u.oneCell' = true := fun u hu => by rw [List.eq_of_mem_replicate hu]; rfl
theorem rep_n {x : Int} {n c : Nat} (h : n + n ≤ c) : (List.replicate n (Value.int .u32 x)).length = Nat.min n (c - n) := by
  rw [List.length_replicate]; exact (Nat.min_eq_left (by omega)).symm
theorem rep_fit {x : Int} {n c : Nat} (h : n + n ≤ c) : n + (List.replicate n (Value.int .u32 x)).length ≤ (repC x n c).length := by
  rw [List.length_replicate, repC_len (by omega)]; exact h
theorem first_n {c : Nat} (h : 2 ≤ c) {x : Value} : [x].length = Nat.min 1 c := (Nat.min_eq_left (Nat.le_of_succ_le h)).symm
theorem one_int1 {q : IntKind} (x : Int) : ∀ u ∈ [Value.int q x], u.oneCell' = true := by simp [Value.oneCell']
theorem first_fit {c : Nat} (h : 2 ≤ c) {x z : Value} : 0 + [x].length ≤ (List.replicate c z).length := by simp; omega
theorem splice_first {c : Nat} (h : 2 ≤ c) {x z : Value} : splice (List.replicate c z) 0 [x] = List.replicate 1 x ++ List.replicate (c - 1) z := by
  simp [splice]
theorem pow_step {c J n : Nat} (hc : c = 2 ^ J) (h : ∃ j, n = 2 ^ j ∧ j ≤ J) (hlt : n < c) : n + n ≤ c ∧ 1 ≤ n := by
  obtain ⟨j, rfl, hj⟩ := h
  subst hc
  have hjJ : j < J := (Nat.pow_lt_pow_iff_right (by decide)).1 hlt
  have := Nat.pow_le_pow_right (n := 2) (by decide) hjJ
  rw [Nat.pow_succ] at this
  exact ⟨by omega, Nat.pos_of_ne_zero (by simp)⟩
theorem pow_next {c J n : Nat} (hc : c = 2 ^ J) (h : ∃ j, n = 2 ^ j ∧ j ≤ J) (hlt : n < c) : ∃ j, n + n = 2 ^ j ∧ j ≤ J := by
  obtain ⟨j, rfl, hj⟩ := h
  subst hc
  have hjJ : j < J := (Nat.pow_lt_pow_iff_right (by decide)).1 hlt
  exact ⟨j + 1, by rw [Nat.pow_succ]; omega, hjJ⟩

theorem copy_twice {P : Program} {T E : TypeId} {W w : World} (x : Int) {n c : Nat} {t : TypeId} (hu : P.underlying T = some (.slice E)) (hsz : (P.info? E).map (·.size) = some 1) (h : n + n ≤ c) {g : Nat}
    (hg : w.heap[g]? = some (.cells (repC x n c).toArray t (0, 0))) {B : Nat} (hb : Below B W w) (hBg : B ≤ g) (o : TypeId) :
    ∃ w', (Builtin.copy_ #[T, T] o #[.slice (some ⟨g, n, none⟩) (c - n) (c - n), .slice (some ⟨g, 0, none⟩) n c]).run P w = .ok (.int .i64 (n : Int)) w' ∧ Hid (w'.heap[g]? = some (.cells (repC x (n + n) c).toArray t (0, 0))) ∧ Hid (Below B W w') := by
  have hrun := run_copy_row (P := P) w T T o E g n (c - n) (c - n) ⟨g, 0, none⟩ n c (repC x n c).toArray t (List.replicate n (.int .u32 x)) hu hsz hg (rep_n h) (src_rep hg) (by simpa using rep_fit (x := x) h) one_rep
  rw [List.length_replicate] at hrun
  refine ⟨_, hrun, ?_, below_setRow hb hBg _⟩
  have := setRow_heap w g (repC x n c).toArray (splice (repC x n c) n (List.replicate n (.int .u32 x))).toArray t (0, 0) hg
  rw [show repC x (n + n) c = splice (repC x n c) n (List.replicate n (.int .u32 x)) from (splice_twice _ _ _ _ h).symm]
  refine Lib.hid ?_
  simpa [splice] using this
set_option maxRecDepth 100000 in
set_option maxHeartbeats 800000 in
theorem prepeat_any (x : Int) (J : Nat) (hJ : J = 1 ∨ J = 2 ∨ J = 3 ∨ J = 4 ∨ J = 6) (g : Nat) (W : World) (hg : W.heap[g]? = some (.cells #[.int .u32 x] 39 (0, 0))) :
    Calls Tryz.prog 62 #[.slice (some ⟨g, 0, none⟩) 1 1, .int .i64 (2 ^ J : Nat)] W fun e w' =>
      e = .returned (.slice (some ⟨W.heap.size, 0, none⟩) (2 ^ J) (2 ^ J)) ∧ w'.heap[W.heap.size]? = some (.cells (List.replicate (2 ^ J) (.int .u32 x)).toArray 39 (0, 0)) ∧ Below W.heap.size W w' := by
  have Hmul := Lib.hid (pmul_1 J hJ)
  have hc64 : 2 ^ J ≤ 64 := by rcases hJ with rfl | rfl | rfl | rfl | rfl <;> decide
  have hc2 : 2 ≤ 2 ^ J := by rcases hJ with rfl | rfl | rfl | rfl | rfl <;> decide
  have hc6 : J ≤ 6 := by omega
  clear hJ
  obtain ⟨c, hc⟩ : ∃ c, c = 2 ^ J := ⟨_, rfl⟩
  rw [← hc] at Hmul hc64 hc2 ⊢
  have Hc := Lib.hid hc; clear hc
  have hci : (c : Int) ≤ 64 := by omega
  have hci2 : 2 ≤ (c : Int) := by omega
  have Hg := Lib.hid hg; clear hg
  have HB0 := Lib.hid (show Below W.heap.size W (W.alloc (.cells (Array.replicate c (.int .u32 0)) 39)) from (Below.refl _ _).alloc (Nat.le_refl _) _)
  have hmk := fun (W' : World) => run_make_n (P := Tryz.prog) 26 39 (.int .u32 0) 4 Tryz.underlying26 infoU32 rfl .i64 .i64 c (c : Int) rfl (by omega) (by omega) W'
  go_enter Tryz.func62, Tryz.ntmps62
  go_wp2_with fail
  (with_reducible refine (Hmul.out _).mono ?_)
  rintro e w1 ⟨rfl, rfl⟩
  go_wp2_with (with_reducible refine wpList_copy_splice rfl (.tmp 31) (.tmp 32) 26 26 rfl 39 Tryz.underlying26 sizeU32 _ _ _ _ _ _ rfl rfl W.heap.size 0 (List.replicate c (.int .u32 0)) 39 (heap_alloc_new W _) [.int .u32 x] (first_n hc2) (fun _ => ⟨rfl, ⟨g, 0, none⟩, rfl, first_src HB0.out Hg.out⟩) (first_fit hc2) (one_int1 x) W.heap.size W HB0.out (Nat.le_refl _) ?_; intro w2 HG2 hb2)
  rw [splice_first hc2] at HG2
  have Hb2 := Lib.hid hb2; clear hb2
  go_loopw [8] (fun i wr => ∃ n : Nat, n ≤ c ∧ i = .int .i64 n ∧ Hid ((∃ j, n = 2 ^ j ∧ j ≤ J) ∧ wr.heap[W.heap.size]? = some (.cells (repC x n c).toArray 39 (0, 0)) ∧ Below W.heap.size W wr)) (fun i _ => c - (intOf i).toNat)
  case atStart => exact ⟨1, by omega, by go_num, ⟨0, rfl, Nat.zero_le _⟩, HG2.out, Hb2.out⟩
  case round =>
    obtain ⟨n, hn, rfl, HI⟩ := hrel
    by_cases hlt : n < c
    · have h2 : n + n ≤ c ∧ 1 ≤ n := pow_step Hc.out HI.out.1 hlt
      have HI2 := Lib.hid HI.out.2.1
      have HB3 := Lib.hid HI.out.2.2
      have HJ2 := Lib.hid (pow_next Hc.out HI.out.1 hlt)
      clear HI
      have hs1 : ∀ W', (Instr.slice 26 (.slice (some ⟨W.heap.size, 0, none⟩) c c) (some (.int .i64 (n : Int))) none none).run Tryz.prog W' = .ok (.slice (some ⟨W.heap.size, n, none⟩) (c - n) (c - n)) W' := fun W' => by
        have := run_slice_fromN (P := Tryz.prog) Tryz.underlying26 infoU32 W.heap.size 0 c c n (by omega) W'
        rw [if_neg (by omega : ¬ c = n), Nat.zero_add, Nat.mul_one] at this
        exact this
      have hs2 : ∀ W', (Instr.slice 26 (.slice (some ⟨W.heap.size, 0, none⟩) c c) none (some (.int .i64 (n : Int))) none).run Tryz.prog W' = .ok (.slice (some ⟨W.heap.size, 0, none⟩) n c) W' := fun W' =>
        run_slice_to (P := Tryz.prog) Tryz.underlying26 infoU32 W.heap.size 0 c c n (by omega) W'
      go_wp2_with fail
      have Hb4 := Lib.hid (show Below W.heap.size W wr.drew from HB3.out.trans ((Below.refl _ _).drew))
      have Hg4 := Lib.hid (show wr.drew.heap[W.heap.size]? = some (.cells (repC x n c).toArray 39 (0, 0)) from HI2.out)
      obtain ⟨w5, hcp, HG5, Hb5⟩ := copy_twice x Tryz.underlying26 sizeU32 h2.1 Hg4.out Hb4.out (Nat.le_refl _) 3
      go_region
      go_wp2
      go_roundw
      case rel => exact ⟨n + n, h2.1, by go_num, HJ2.out, HG5.out, Hb5.out⟩
      case measure => simp [intOf]; omega
    · have hnc : n = c := by omega
      subst hnc
      go_wp2
      go_ret
      refine ⟨rfl, ?_, HI.out.2.2⟩
      have := HI.out.2.1
      rwa [repC, Nat.sub_self, List.replicate_zero, List.append_nil] at this
end Go.Proofs.YtableoihgkmbjaaGreat
end
section
namespace Go.Proofs.YtableoihgkmbjaaGreat.K

/-- column number j of a row: for every input the value number j -/
def col (k w : Nat) (r : List Stp) (j : Nat) : List Int := (inputs k w).map fun l => (vals w (base w l) r).getD j 0
def cols (k w : Nat) (r : List Stp) : List (List Int) := (List.range (k + 2 + r.length)).map (col k w r)
/-- the results of a step on columns -/
def column (k w : Nat) (cs : List (List Int)) (s : Stp) : List Int :=
  (List.range (size k w)).map fun a => (B.total s.1 w ((cs.getD s.2.1.toNat []).getD a 0) ((cs.getD s.2.2.toNat []).getD a 0)).1

theorem cols_len (k w : Nat) (r : List Stp) : (cols k w r).length = k + 2 + r.length := by simp [cols]
theorem col_len (k w : Nat) (r : List Stp) (j : Nat) : (col k w r j).length = size k w := by simp [col, inputs]
theorem cols_at {k w : Nat} {r : List Stp} {j : Nat} (h : j < k + 2 + r.length) : (cols k w r)[j]? = some (col k w r j) := by simp [cols, h]
theorem col_at {k w : Nat} {r : List Stp} {j a : Nat} (h : a < size k w) : (col k w r j)[a]? = some ((vals w (base w (inp k w a)) r).getD j 0) := by simp [col, inputs, h]
theorem base_len {k w a : Nat} (hk : k = 1 ∨ k = 2) : (base w (inp k w a)).length = k + 2 := by simp [base, inp_len hk]
theorem cols_getD {k w : Nat} {r : List Stp} {j a : Nat} (hj : j < k + 2 + r.length) (h : a < size k w) : ((cols k w r).getD j []).getD a 0 = (vals w (base w (inp k w a)) r).getD j 0 := by
  have e : (cols k w r).getD j [] = col k w r j := by rw [List.getD_eq_getElem?_getD, cols_at hj, Option.getD_some]
  rw [e, List.getD_eq_getElem?_getD, col_at h, Option.getD_some]

theorem cols_snoc {k w : Nat} (hk : k = 1 ∨ k = 2) (r : List Stp) {s : Stp} (hs : okStep k r.length s) : cols k w (r ++ [s]) = cols k w r ++ [column k w (cols k w r) s] := by
  obtain ⟨_, h1, h2, h3, h4⟩ := hs
  apply List.ext_getElem?
  intro j
  have hl : (r ++ [s]).length = r.length + 1 := by simp
  by_cases hj : j < k + 2 + r.length
  · rw [cols_at (by omega), List.getElem?_append_left (by rw [cols_len]; exact hj), cols_at hj]
    congr 1
    unfold col inputs
    rw [List.map_map, List.map_map]
    apply List.map_congr_left
    intro a ha
    simp only [Function.comp]
    rw [vals_snoc, List.getD_eq_getElem?_getD, List.getD_eq_getElem?_getD, List.getElem?_append_left (by rw [vals_len, base_len hk]; omega)]
  · by_cases hj2 : j = k + 2 + r.length
    · subst hj2
      rw [cols_at (by omega), List.getElem?_append_right (by rw [cols_len]; omega), cols_len, Nat.sub_self]
      simp only [List.getElem?_cons_zero, Option.some.injEq]
      unfold col inputs column
      rw [List.map_map]
      apply List.map_congr_left
      intro a ha
      have ha' := List.mem_range.1 ha
      simp only [Function.comp]
      rw [cols_getD (by omega) ha', cols_getD (by omega) ha', vals_snoc, List.getD_eq_getElem?_getD, List.getElem?_append_right (by rw [vals_len, base_len hk]; omega), vals_len, base_len hk, Nat.sub_self]
      rfl
    · rw [List.getElem?_eq_none (by rw [cols_len]; omega), List.getElem?_eq_none (by rw [List.length_append, cols_len]; simp; omega)]

theorem meaning_cols {k w : Nat} (hk : k = 1 ∨ k = 2) (r : List Stp) : (cols k w r)[if r.length = 0 then 0 else k + 2 + r.length - 1]? = some (meaning k w r) := by
  have key : ∀ j, j < k + 2 + r.length → (∀ a, resultOf w r (inp k w a) = (vals w (base w (inp k w a)) r).getD j 0) → (cols k w r)[j]? = some (meaning k w r) := by
    intro j hj h
    rw [cols_at hj]
    congr 1
    unfold col meaning inputs
    rw [List.map_map, List.map_map]
    apply List.map_congr_left
    intro a _
    exact (h a).symm
  split
  · rename_i h0
    exact key 0 (by omega) fun a => by rw [resultOf, if_pos h0]
  · rename_i h0
    exact key _ (by omega) fun a => by rw [resultOf, if_neg h0, vals_len, base_len hk]

/-- the columns of no step: the inputs, 1, all ones -/
theorem cols_nil {k w : Nat} (hk : k = 1 ∨ k = 2) : cols k w [] = ((List.range k).map fun i => (List.range (size k w)).map fun a => (inp k w a).getD i 0) ++ [List.replicate (size k w) 1, List.replicate (size k w) (B.pw w - 1)] := by
  have hb : ∀ a j, (vals w (base w (inp k w a)) []).getD j 0 = (inp k w a ++ [1, B.pw w - 1]).getD j 0 := fun a j => rfl
  have hin : ∀ j, col k w [] j = (List.range (size k w)).map fun a => (inp k w a ++ [1, B.pw w - 1]).getD j 0 := by
    intro j
    unfold col inputs
    rw [List.map_map]
    rfl
  unfold cols
  rcases hk with rfl | rfl
  · show [col 1 w [] 0, col 1 w [] 1, col 1 w [] 2] = _
    simp only [hin]
    simp [inp, List.range_succ, List.map_const']
  · show [col 2 w [] 0, col 2 w [] 1, col 2 w [] 2, col 2 w [] 3] = _
    simp only [hin]
    simp [inp, List.range_succ, List.map_const']

/-- the rows of n steps more behind a row, in the order of the program's walk -/
def below (k : Nat) : Nat → List Stp → List (List Stp)
  | 0, r => [r]
  | n + 1, r => (steps k r.length).flatMap fun s => below k n (r ++ [s])

theorem flatMap_same {α β : Type} {l : List α} {f g : α → List β} (h : ∀ x ∈ l, f x = g x) : l.flatMap f = l.flatMap g := by
  induction l with
  | nil => rfl
  | cons x l ih => rw [List.flatMap_cons, List.flatMap_cons, h x (List.mem_cons_self ..), ih fun y hy => h y (List.mem_cons_of_mem _ hy)]
theorem rows_below (k m : Nat) : ∀ n, rows k (m + n) = (rows k m).flatMap (below k n) := by
  intro n
  induction n generalizing m with
  | zero => simp [below]
  | succ n ih =>
    rw [show m + (n + 1) = (m + 1) + n by omega, ih (m + 1)]
    show ((rows k m).flatMap fun r => (steps k m).map fun s => r ++ [s]).flatMap (below k n) = _
    rw [List.flatMap_assoc]
    refine flatMap_same fun r hr => ?_
    rw [List.flatMap_map]
    show _ = (steps k r.length).flatMap fun s => below k n (r ++ [s])
    rw [rows_len hr]
theorem rows_eq_below (k n : Nat) : rows k n = below k n [] := by
  have := rows_below k 0 n
  rw [Nat.zero_add] at this
  rw [this]
  simp [rows]
theorem mem_below {k n : Nat} {r q : List Stp} (hr : okRow k r) (h : q ∈ below k n r) : okRow k q ∧ q.length = r.length + n := by
  induction n generalizing r with
  | zero => simp [below] at h; subst h; exact ⟨hr, rfl⟩
  | succ n ih =>
    simp only [below, List.mem_flatMap] at h
    obtain ⟨s, hs, hq⟩ := h
    have hok : okRow k (r ++ [s]) := by
      intro i x hx
      by_cases hi : i < r.length
      · rw [List.getElem?_append_left hi] at hx; exact hr i x hx
      · have hl : i < (r ++ [s]).length := (List.getElem?_eq_some_iff.1 hx).1
        simp at hl
        obtain rfl : i = r.length := by omega
        simp at hx
        subst hx
        exact mem_steps hs
    obtain ⟨h1, h2⟩ := ih hok hq
    exact ⟨h1, by rw [h2]; simp; omega⟩
end Go.Proofs.YtableoihgkmbjaaGreat.K
end
section
namespace Go.Proofs.YtableoihgkmbjaaGreat
open Go.RowKit
set_option linter.unusedVariables false

/-- a column in a block of its own, behind B0 -/
def ColC (B0 : Nat) (w : World) (u : Value) (x : List Int) : Prop :=
  ∃ b, u = .slice (some ⟨b, 0, none⟩) x.length x.length ∧ B0 ≤ b ∧ w.heap[b]? = some (.cells (x.map (Value.int .u32)).toArray 39 (0, 0))

theorem ColC.mono {B0 : Nat} {w w' : World} {u : Value} {x : List Int} (h : ColC B0 w u x) (hb : Below w.heap.size w w') : ColC B0 w' u x := by
  obtain ⟨b, h1, h2, h3⟩ := h
  exact ⟨b, h1, h2, (hb.block b (Array.getElem?_eq_some_iff.1 h3).1).trans h3⟩
theorem ColC.less {B0 B1 : Nat} {w : World} {u : Value} {x : List Int} (h : ColC B0 w u x) (hB : B1 ≤ B0) : ColC B1 w u x := by
  obtain ⟨b, h1, h2, h3⟩ := h
  exact ⟨b, h1, by omega, h3⟩

theorem ColC.grown {B0 : Nat} {w w' : World} {u : Value} {x : List Int} {own : Option Nat} (h : ColC B0 w u x) (hg : w.grownBy w' own) {T : TypeId} (hT : ∀ q, own = some q → ∃ cur, w.heap[q]? = some (.cells cur T (0, 0))) (hne : T ≠ 39) : ColC B0 w' u x := by
  obtain ⟨b, h1, h2, h3⟩ := h
  refine ⟨b, h1, h2, (hg.block b (Array.getElem?_eq_some_iff.1 h3).1 fun e => ?_).trans h3⟩
  obtain ⟨cur, hc⟩ := hT b e.symm
  rw [h3] at hc
  injection hc with hc
  injection hc with _ hc
  exact hne hc.symm
theorem OwnAt.typed {w : World} {e : TypeId} {s n : Nat} {v : Value} {xs : List Value} (h : OwnAt w e s v n xs) : ∀ q, v.ownBlock = some q → ∃ cur, w.heap[q]? = some (.cells cur e (0, 0)) := by
  intro q hq
  rcases h.2 with ⟨rfl, _⟩ | ⟨g, off, cap, cur, rfl, hg, _⟩
  · simp [Value.ownBlock] at hq
  · simp [Value.ownBlock] at hq
    subst hq
    exact ⟨cur, hg⟩

/-- W1, with what came behind it -/
def Bel (W1 X : World) : Prop := Below W1.heap.size W1 X
theorem Bel.alloc {W1 X : World} (h : Bel W1 X) (o : Obj) : Bel W1 (X.alloc o) := Below.alloc h h.size o
theorem Bel.step {W1 X Y : World} (h : Bel W1 X) (hb : Hid (Below X.heap.size X Y)) : Bel W1 Y := Below.trans h (hb.out.mono h.size)
theorem Bel.drew {W1 X : World} (h : Bel W1 X) : Bel W1 X.drew := Below.trans h ((Below.refl _ _).drew)
theorem row_alloc {X : World} {g : Nat} {o : Obj} (h : X.heap[g]? = some o) (o' : Obj) : (X.alloc o').heap[g]? = some o := (Below.heap_alloc _ _ _ (Array.getElem?_eq_some_iff.1 h).1).trans h
theorem row_step {X Y : World} {g : Nat} {o : Obj} (hb : Hid (Below X.heap.size X Y)) (h : X.heap[g]? = some o) : Y.heap[g]? = some o := (hb.out.block g (Array.getElem?_eq_some_iff.1 h).1).trans h
theorem own_step {X Y : World} {e : TypeId} {s n : Nat} {v : Value} {xs : List Value} (hb : Hid (Below X.heap.size X Y)) (h : OwnAt X e s v n xs) : OwnAt Y e s v n xs := h.below hb.out h.lt
theorem row_drew {X : World} {g : Nat} {o : Obj} (h : X.heap[g]? = some o) : X.drew.heap[g]? = some o := h
theorem own_drew {X : World} {e : TypeId} {s n : Nat} {v : Value} {xs : List Value} (h : OwnAt X e s v n xs) : OwnAt X.drew e s v n xs := h
theorem new_two (X : World) (o o' : Obj) : ((X.alloc o).alloc o').heap[X.heap.size + 1]? = some o' := by
  have := heap_alloc_new (X.alloc o) o'
  rwa [World.size_alloc] at this
theorem bel_app {W1 X Y : World} {own : Option Nat} (h : Bel W1 X) (hg : X.grownBy Y own) (ho : ∀ g, own = some g → W1.heap.size ≤ g) : Bel W1 Y := Below.grown h hg h.size ho
theorem new_drew (X : World) (o : Obj) : (X.drew.alloc o).heap[X.heap.size]? = some o := heap_alloc_new X.drew o

/-- a row that is being filled -/
def fillC (xs : List Int) (c : Nat) : List Value := xs.map (Value.int .u32) ++ List.replicate (c - xs.length) (.int .u32 0)
theorem fillC_nil (c : Nat) : (fillC [] c).toArray = Array.replicate c (.int .u32 0) := by
  unfold fillC
  simp
theorem fillC_full {xs : List Int} {c : Nat} (h : xs.length = c) : fillC xs c = xs.map (Value.int .u32) := by
  unfold fillC
  rw [h, Nat.sub_self]
  simp
theorem fill_step {w : World} {p : Nat} {xs : List Int} {c : Nat} {x : Int} {T : TypeId} (h : w.heap[p]? = some (.cells (fillC xs c).toArray T (0, 0))) {a : Nat} (ha : xs.length = a) (hc : a < c) :
    (w.setCell ⟨p, a, none⟩ (.int .u32 x)).heap[p]? = some (.cells (fillC (xs ++ [x]) c).toArray T (0, 0)) := by
  rw [heap_setCell_same w p a _ _ _ h]
  congr 3
  subst ha
  apply Array.toList_inj.1
  simp [fillC]
  rw [show c - xs.length = (c - (xs.length + 1)) + 1 by omega, List.replicate_succ]
  simp
theorem fill_cell {w : World} {p : Nat} {xs : List Int} {c : Nat} {T : TypeId} (h : w.heap[p]? = some (.cells (fillC xs c).toArray T (0, 0))) {a : Nat} (ha : xs.length ≤ c) (hc : a < c) :
    (w.cell? ⟨p, a, none⟩).isSome = true ∧ w.frozen? ⟨p, a, none⟩ = false := by
  refine ⟨?_, by simp [World.frozen?, h]⟩
  rw [cell_of_row w p _ _ T (0, 0) h]
  have : a < (fillC xs c).length := by simp [fillC]; omega
  simp [this]

/-- the column of input number i -/
def incol (k w i : Nat) : List Int := (List.range (K.size k w)).map fun a => (K.inp k w a).getD i 0
theorem incol_len (k w i : Nat) : (incol k w i).length = K.size k w := by simp [incol]
theorem take_incol {k w i a : Nat} (h : a < K.size k w) : (incol k w i).take (a + 1) = (incol k w i).take a ++ [(K.inp k w a).getD i 0] :=
  K.take_succ_at (by simp [incol, h])
theorem take_incol_len {k w i a : Nat} (h : a ≤ K.size k w) : ((incol k w i).take a).length = a := by rw [List.length_take, incol_len]; omega
theorem range_map_succ {α : Type} (f : Nat → α) (n : Nat) : (List.range (n + 1)).map f = (List.range n).map f ++ [f n] := by rw [List.range_succ, List.map_append]; rfl

theorem one_sl2 (A B : Option Addr) (N : Nat) : ∀ u ∈ [Value.slice A N N, Value.slice B N N], u.oneCell' = true := by simp [Value.oneCell']
theorem elC_alloc {B : Nat} {X : World} {us : List Value} {xs : List (List Int)} (h : Elems (ColC B) X us xs) (o : Obj) : Elems (ColC B) (X.alloc o) us xs := h.map_ fun u x hu => ColC.mono hu ((Below.refl _ _).alloc (Nat.le_refl _) _)
theorem elC_drew {B : Nat} {X : World} {us : List Value} {xs : List (List Int)} (h : Elems (ColC B) X us xs) : Elems (ColC B) X.drew us xs := h
theorem elC_step {B : Nat} {X Y : World} {us : List Value} {xs : List (List Int)} (hb : Hid (Below X.heap.size X Y)) (h : Elems (ColC B) X us xs) : Elems (ColC B) Y us xs := h.map_ fun u x hu => ColC.mono hu hb.out
theorem bel_size {W1 Y : World} (h : Bel W1 Y) : W1.heap.size ≤ Y.heap.size := h.size
theorem bel_size1 {W1 Y : World} (h : Bel W1 Y) : W1.heap.size ≤ Y.heap.size + 1 := Nat.le_succ_of_le h.size
theorem bel_size2 {W1 Y : World} (h : Bel W1 Y) : W1.heap.size ≤ Y.heap.size + 1 + 1 := by have := h.size; omega
theorem app_ge {W1 X : World} {v v' : Value} (h : Bel W1 X) (hv : ∀ g, v.ownBlock = some g → W1.heap.size ≤ g) (hat : v'.ownBlock = v.ownBlock ∨ v'.ownBlock = some X.heap.size) : ∀ g, v'.ownBlock = some g → W1.heap.size ≤ g := by
  intro g hg
  rcases hat with e | e
  · exact hv g (e ▸ hg)
  · rw [e] at hg; cases hg; exact h.size
theorem start_end {B N b1 b2 : Nat} {X w9 : World} {us : List Value} {xs : List (List Int)} {own : Option Nat} {x1 x2 : Int} (hel : Elems (ColC B) X us xs)
    (h1 : X.heap[b1]? = some (.cells (List.replicate N (Value.int .u32 x1)).toArray 39 (0, 0))) (h2 : X.heap[b2]? = some (.cells (List.replicate N (Value.int .u32 x2)).toArray 39 (0, 0))) (l1 : B ≤ b1) (l2 : B ≤ b2)
    (hgr : X.grownBy w9 own) (hty : ∀ q, own = some q → ∃ cur, X.heap[q]? = some (.cells cur 26 (0, 0))) :
    Elems (ColC B) w9 (us ++ [.slice (some ⟨b1, 0, none⟩) N N, .slice (some ⟨b2, 0, none⟩) N N]) (xs ++ [List.replicate N x1, List.replicate N x2]) := by
  have c1 : ColC B X (.slice (some ⟨b1, 0, none⟩) N N) (List.replicate N x1) := ⟨b1, by simp, l1, by simpa using h1⟩
  have c2 : ColC B X (.slice (some ⟨b2, 0, none⟩) N N) (List.replicate N x2) := ⟨b2, by simp, l2, by simpa using h2⟩
  have := ((hel.snoc c1).snoc c2).map_ fun u x hu => ColC.grown hu hgr hty (by decide)
  simpa using this
theorem prepN_any (x : Int) {k w N : Nat} (hk : k = 1 ∨ k = 2) (hw : w = 1 ∨ w = 2 ∨ w = 3) (hN : N = K.size k w) (g : Nat) (W : World) (hg : W.heap[g]? = some (.cells #[.int .u32 x] 39 (0, 0))) :
    Calls Tryz.prog 62 #[.slice (some ⟨g, 0, none⟩) 1 1, .int .i64 (N : Int)] W fun e w' =>
      e = .returned (.slice (some ⟨W.heap.size, 0, none⟩) N N) ∧ w'.heap[W.heap.size]? = some (.cells (List.replicate N (.int .u32 x)).toArray 39 (0, 0)) ∧ Below W.heap.size W w' := by
  subst hN
  have hJ : k * w = 1 ∨ k * w = 2 ∨ k * w = 3 ∨ k * w = 4 ∨ k * w = 6 := by rcases kw_cases hk hw with ⟨rfl, rfl⟩ | ⟨rfl, rfl⟩ | ⟨rfl, rfl⟩ | ⟨rfl, rfl⟩ | ⟨rfl, rfl⟩ | ⟨rfl, rfl⟩ <;> simp
  exact prepeat_any x (k * w) hJ g W hg

end Go.Proofs.YtableoihgkmbjaaGreat
end
section
namespace Go.Proofs.YtableoihgkmbjaaGreat
open Go.RowKit
set_option linter.unusedVariables false

set_option maxRecDepth 100000 in
set_option maxHeartbeats 4000000 in
theorem pstart_any (k w : Nat) (hk : k = 1 ∨ k = 2) (hw : w = 1 ∨ w = 2 ∨ w = 3) (W : World) :
    Calls Tryz.prog 38 #[.agg #[.int .i64 k, .int .i64 w]] W fun e w' => ∃ A c us, e = .returned (.slice A (k + 2) c) ∧ OwnAt w' 26 1 (.slice A (k + 2) c) (k + 2) us ∧ Elems (ColC W.heap.size) w' us (K.cols k w []) ∧ (∀ g, (Value.slice A (k + 2) c).ownBlock = some g → W.heap.size ≤ g) ∧ Below W.heap.size W w' := by
  have HM := Lib.hid (fun W' => Mask_any w W')
  have hwd : B.isWd w = true := B.isWd_iff.2 (by omega)
  rw [hwd] at HM
  simp only [if_true] at HM
  have HS := Lib.hid (fun W' => psize_any k w hk hw W')
  have HI := Lib.hid (fun i a hi ha W' => pinput_any k w i a hk hw hi ha W')
  obtain ⟨s0, s1, s2, s3⟩ := size_facts hk hw
  have hkk : k ≤ 2 := by omega
  have hcols := K.cols_nil (w := w) hk
  have Hcols := Lib.hid hcols
  clear hcols s0 s1 s2
  obtain ⟨z, hz⟩ : ∃ z, z = B.pw w - 1 := ⟨_, rfl⟩
  rw [← hz] at HM
  have Hz := Lib.hid hz
  clear hz hwd
  have HB0 := Lib.hid (show Below W.heap.size W (W.alloc (.cells #[.int .i64 k, .int .i64 w] 48)) from (Below.refl _ _).alloc (Nat.le_refl _) _)
  have Hrow0 := Lib.hid (heap_alloc_new W (.cells #[.int .i64 k, .int .i64 w] 48))
  have hsz0 : (W.alloc (.cells #[.int .i64 k, .int .i64 w] 48)).heap.size = W.heap.size + 1 := by simp
  have Hsz0 := Lib.hid hsz0; clear hsz0
  obtain ⟨N, hN⟩ : ∃ N, N = K.size k w := ⟨_, rfl⟩
  rw [← hN] at HS s3
  have HN := Lib.hid hN; clear hN
  have Hk := Lib.hid hk
  have Hw := Lib.hid hw
  clear hk hw
  go_enter Tryz.func38, Tryz.ntmps38
  go_wp2_with fail
  (with_reducible refine (HM.out _).mono ?_)
  rintro e w' ⟨rfl, rfl⟩
  obtain ⟨W1, hW1⟩ : ∃ W1, W1 = W.alloc (.cells #[.int .i64 k, .int .i64 w] 48) := ⟨_, rfl⟩
  rw [← hW1] at HB0 Hrow0 Hsz0 ⊢
  clear hW1
  have hlt1 : W.heap.size < W1.heap.size := by rw [Hsz0.out]; omega
  have Hc0 := Lib.hid (fun (X : World) (h : Below W1.heap.size W1 X) => (show X.cell? ⟨W.heap.size, 0, none⟩ = some (.int .i64 (k : Int)) from (h.cell (p := ⟨W.heap.size, 0, none⟩) hlt1).trans (by rw [cell_of_row _ _ _ _ _ (0, 0) Hrow0.out]; rfl)))
  have Hc1 := Lib.hid (fun (X : World) (h : Below W1.heap.size W1 X) => (show X.cell? ⟨W.heap.size, 1, none⟩ = some (.int .i64 (w : Int)) from (h.cell (p := ⟨W.heap.size, 1, none⟩) hlt1).trans (by rw [cell_of_row _ _ _ _ _ (0, 0) Hrow0.out]; rfl)))
  have Hlt1 := Lib.hid hlt1; clear hlt1
  have hc0 := Hc0.out W1 (Below.refl _ _)
  have hc1 := Hc1.out W1 (Below.refl _ _)
  go_wp2
  clear hc0 hc1
  go_loopw [5, 17] (fun v i wr => ∃ (j : Nat), j ≤ k ∧ i = .int .i64 (j : Int) ∧ (∃ us, OwnAt wr 26 1 v j us ∧ Elems (ColC W1.heap.size) wr us ((List.range j).map (incol k w))) ∧ (∀ g, v.ownBlock = some g → W1.heap.size ≤ g) ∧ Below W1.heap.size W1 wr) (fun _ i _ => k - (intOf i).toNat)
  case atStart => exact ⟨0, Nat.zero_le _, rfl, ⟨[], OwnAt.nil_ .., Elems.nil_⟩, fun g h => by simp [Value.ownBlock] at h, Below.refl _ _⟩
  case round =>
    obtain ⟨wo, rfl⟩ : ∃ x, x = wr := ⟨wr, rfl⟩
    obtain ⟨j, hj, rfl, ⟨us, hown, hel⟩, hge, hbw⟩ := hrel
    have Hown := Lib.hid hown; clear hown
    have Hel := Lib.hid hel; clear hel
    have Hge := Lib.hid hge; clear hge
    have Hbw := Lib.hid hbw; clear hbw
    have hc0 := Hc0.out _ Hbw.out
    have hc1 := Hc1.out _ Hbw.out
    by_cases hlt : j < k
    · go_wp2_with fail
      (with_reducible refine (HS.out _).mono ?_)
      rintro e w2 ⟨rfl, hb2⟩
      have Hb2 := Lib.hid hb2; clear hb2
      clear hc0 hc1
      have hmk := fun (W' : World) => run_make_n (P := Tryz.prog) 26 39 (.int .u32 0) 4 Tryz.underlying26 infoU32 rfl .i64 .i64 N (N : Int) rfl (by omega) (by omega) W'
      go_wp2
      clear hmk
      go_loopw [25] (fun i wf => ∃ (a : Nat), a ≤ N ∧ i = .int .i64 (a : Int) ∧ Hid (wf.heap[w2.heap.size]? = some (.cells (fillC ((incol k w j).take a) N).toArray 39 (0, 0)) ∧ Below w2.heap.size w2 wf)) (fun i _ => N - (intOf i).toNat)
      case atStart => exact ⟨0, Nat.zero_le _, rfl, by rw [List.take_zero, fillC_nil]; exact heap_alloc_new _ _, (Below.refl _ _).alloc (Nat.le_refl _) _⟩
      case round =>
        obtain ⟨wf, rfl⟩ : ∃ x, x = wr := ⟨wr, rfl⟩
        obtain ⟨a, ha, rfl, HF⟩ := hrel
        by_cases hla : a < N
        · have HW := Lib.hid (show Below W1.heap.size W1 wf from (Hbw.out.trans (Hb2.out.mono Hbw.out.size)).trans (HF.out.2.mono (Nat.le_trans Hbw.out.size Hb2.out.size)))
          have hc0 := Hc0.out _ HW.out
          have hc1 := Hc1.out _ HW.out
          have Hin := Lib.hid (HI.out j a hlt (by rw [← HN.out]; exact hla) wf)
          have Htl := Lib.hid (take_incol_len (k := k) (w := w) (i := j) (a := a) (by rw [← HN.out]; exact ha))
          have Hts := Lib.hid (take_incol (k := k) (w := w) (i := j) (a := a) (by rw [← HN.out]; exact hla))
          go_wp2_with fail
          (with_reducible refine Hin.out.mono ?_)
          rintro e w3 ⟨rfl, hb3⟩
          clear hc0 hc1
          have hg3 := (hb3.block w2.heap.size (Array.getElem?_eq_some_iff.1 HF.out.1).1).trans HF.out.1
          obtain ⟨hs3, hf3⟩ := fill_cell hg3 (by rw [Htl.out]; exact ha) hla
          obtain ⟨v0, hv0⟩ := Option.isSome_iff_exists.1 hs3
          have Hg3 := Lib.hid hg3
          have Hb3 := Lib.hid hb3
          clear hs3 hb3 hg3
          go_wp2
          go_roundw
          case rel => exact ⟨a + 1, by omega, by go_num, by rw [Hts.out]; exact fill_step Hg3.out Htl.out hla, (HF.out.2.trans (Hb3.out.mono HF.out.2.size)).setCell (by exact Nat.le_refl _) _⟩
          case measure => simp [intOf]; omega
        · have hxf : wf.heap[w2.heap.size]? = some (.cells ((incol k w j).map (Value.int .u32)).toArray 39 (0, 0)) := by
            have := HF.out.1
            rwa [List.take_of_length_le (by rw [incol_len, ← HN.out]; omega), fillC_full (by rw [incol_len, ← HN.out])] at this
          have Hxf := Lib.hid hxf; clear hxf
          have hle12 := Nat.le_trans Hbw.out.size Hb2.out.size
          have Hbf := Lib.hid (Hb2.out.trans (HF.out.2.mono Hb2.out.size))
          have Hbwf := Lib.hid (Hbw.out.trans (Hbf.out.mono Hbw.out.size))
          have Hownf := Lib.hid (Hown.out.below Hbf.out Hown.out.lt)
          have Helf := Lib.hid (Hel.out.map_ fun u x hu => ColC.mono hu Hbf.out)
          have Hle12 := Lib.hid hle12; clear hle12
          have Hlen := Lib.hid (incol_len k w j)
          go_wp2_with (at_builtin; refine wpList_append_one' rfl (.tmp 36) (.tmp 38) 73 rfl 26 (.slice none 0 0) 24 Tryz.underlying73 infoSlU rfl _ j us rfl Hownf.out (.slice (some ⟨w2.heap.size, 0, none⟩) N N) (by rfl) 26 wf.heap.size rfl rfl (by omega) (by omega) ?_; intro v' w4 hown' hgr hat2)
          have hel' : Elems (ColC W1.heap.size) w4 us ((List.range j).map (incol k w)) := Helf.out.map_ fun u x hu => (ColC.mono hu ((Below.refl _ _).alloc (Nat.le_refl _) _)).grown hgr (Hownf.out.alloc _).typed (by decide)
          have hnew : ColC W1.heap.size w4 (.slice (some ⟨w2.heap.size, 0, none⟩) N N) (incol k w j) := by
            have h0 : ColC W1.heap.size wf (.slice (some ⟨w2.heap.size, 0, none⟩) N N) (incol k w j) := ⟨_, by rw [Hlen.out, ← HN.out], Hle12.out, Hxf.out⟩
            exact (h0.mono ((Below.refl _ _).alloc (Nat.le_refl _) _)).grown hgr (Hownf.out.alloc _).typed (by decide)
          obtain ⟨hb4, hge4⟩ := below_append Hbwf.out Hbwf.out.size Hge.out hgr hat2
          go_roundw
          case rel => exact ⟨j + 1, by omega, by go_num, ⟨us ++ [.slice (some ⟨w2.heap.size, 0, none⟩) N N], hown', by rw [range_map_succ]; exact hel'.snoc hnew⟩, hge4, hb4⟩
          case measure => simp [intOf]; omega
    · have hjk : j = k := by omega
      subst hjk
      have HRep := Lib.hid (fun (x : Int) (g : Nat) (X : World) (hg : X.heap[g]? = some (.cells #[.int .u32 x] 39 (0, 0))) => prepN_any x Hk.out Hw.out HN.out g X hg)
      have hbel : Bel W1 wo := Hbw.out
      have hj2 : j + 2 ≤ 1000000000 := by omega
      have hown := Hown.out
      clear HI HM
      go_wp2_with fail
      go_region_held3 (fun w' => w'.cell? ⟨W.heap.size, 0, none⟩ = some (.int .i64 (j : Int)) ∧ w'.cell? ⟨W.heap.size, 1, none⟩ = some (.int .i64 (w : Int)))
        (first | go_keep | exact ⟨Hc0.out _ (show Bel W1 _ by ((repeat (first | assumption | with_reducible refine Bel.alloc ?_ _ | with_reducible refine Bel.drew ?_ | with_reducible refine Bel.step ?_ (by assumption) | fail)); done)), Hc1.out _ (show Bel W1 _ by ((repeat (first | assumption | with_reducible refine Bel.alloc ?_ _ | with_reducible refine Bel.drew ?_ | with_reducible refine Bel.step ?_ (by assumption) | fail)); done))⟩)
        (first
          | (go_at_call 30; with_reducible refine (HS.out _).mono ?_; rintro e wA ⟨rfl, hbA⟩; have HbA := Lib.hid hbA; clear hbA)
          | (go_at_call 62; (with_reducible refine Calls.mono (HRep.out 1 _ _ ?_) ?_); (focus ((repeat (first | assumption | with_reducible exact heap_alloc_new _ _ | with_reducible exact new_drew _ _ | with_reducible exact new_two _ _ _ | with_reducible refine row_drew ?_ | with_reducible refine row_alloc ?_ _ | with_reducible refine row_step (by assumption) ?_ | fail)); done)); rintro e wB ⟨rfl, hrB, hbB⟩; (try simp only [World.size_alloc] at hrB); have HbB := Lib.hid hbB; have HrB := Lib.hid hrB; clear hbB hrB)
          | (go_at_call 62; (with_reducible refine Calls.mono (HRep.out z _ _ ?_) ?_); (focus ((repeat (first | assumption | with_reducible exact heap_alloc_new _ _ | with_reducible exact new_drew _ _ | with_reducible exact new_two _ _ _ | with_reducible refine row_drew ?_ | with_reducible refine row_alloc ?_ _ | with_reducible refine row_step (by assumption) ?_ | fail)); done)); rintro e wB ⟨rfl, hrB, hbB⟩; (try simp only [World.size_alloc] at hrB); have HbB := Lib.hid hbB; have HrB := Lib.hid hrB; clear hbB hrB)
          | (refine step_append_src _ (by rfl) (.tmp 41) (.tmp 51) 73 (by rfl) 26 (.slice none 0 0) 1 24 Tryz.underlying73 infoSlU rfl pos1 _ j us (by rfl) ?_ (some ⟨_, 0, none⟩) 2 2 [.slice (some ⟨_, 0, none⟩) N N, .slice (some ⟨_, 0, none⟩) N N] (by rfl) rfl (src_block (cs := #[_, _]) (heap_alloc_new _ _)) (one_sl2 _ _ _) hj2 le64 ?_; (focus ((repeat (first | assumption | with_reducible refine own_drew ?_ | with_reducible refine OwnAt.alloc ?_ _ | with_reducible refine own_step (by assumption) ?_ | fail)); done)); intro v9 w9 hown9 hgr9 hat9; have hbel9 : Bel W1 w9 := (by refine bel_app ?_ hgr9 Hge.out; ((repeat (first | assumption | with_reducible refine Bel.alloc ?_ _ | with_reducible refine Bel.drew ?_ | with_reducible refine Bel.step ?_ (by assumption) | fail)); done)))
          | fail)
      all_goals
        obtain ⟨A9, c9, hv9⟩ := OwnAt.form hown9
        subst hv9
        go_wp2
        go_ret
        refine ⟨A9, c9, _, rfl, hown9, ?_, fun g hg => Nat.le_trans (Nat.le_of_lt Hlt1.out) (app_ge ?_ Hge.out hat9 g hg), HB0.out.trans (hbel9.mono HB0.out.size)⟩
        · rw [Hcols.out, ← HN.out, ← Hz.out]
          have hel0 := Hel.out
          rw [show (incol j w) = (fun i => (List.range N).map fun a => (K.inp j w a).getD i 0) from by rw [HN.out]; rfl] at hel0
          refine Elems.map_ (R := ColC W1.heap.size) (start_end (x1 := 1) (x2 := z) ?_ ?_ ?_ ?_ ?_ hgr9 (OwnAt.typed (s := 1) (v := u5) (n := j) (xs := us) ?_)) (fun u x hu => hu.less (Nat.le_of_lt Hlt1.out))
          · (repeat (first | assumption | with_reducible refine elC_drew ?_ | with_reducible refine elC_alloc ?_ _ | with_reducible refine elC_step (by assumption) ?_ | fail))
          · (repeat (first | assumption | with_reducible exact heap_alloc_new _ _ | with_reducible exact new_drew _ _ | with_reducible exact new_two _ _ _ | with_reducible refine row_drew ?_ | with_reducible refine row_alloc ?_ _ | with_reducible refine row_step (by assumption) ?_ | fail))
          · (repeat (first | assumption | with_reducible exact heap_alloc_new _ _ | with_reducible exact new_drew _ _ | with_reducible exact new_two _ _ _ | with_reducible refine row_drew ?_ | with_reducible refine row_alloc ?_ _ | with_reducible refine row_step (by assumption) ?_ | fail))
          · first | (refine bel_size ?_; (repeat (first | assumption | with_reducible refine Bel.alloc ?_ _ | with_reducible refine Bel.drew ?_ | with_reducible refine Bel.step ?_ (by assumption) | fail)); done) | (refine bel_size1 ?_; (repeat (first | assumption | with_reducible refine Bel.alloc ?_ _ | with_reducible refine Bel.drew ?_ | with_reducible refine Bel.step ?_ (by assumption) | fail)); done) | (refine bel_size2 ?_; (repeat (first | assumption | with_reducible refine Bel.alloc ?_ _ | with_reducible refine Bel.drew ?_ | with_reducible refine Bel.step ?_ (by assumption) | fail)); done)
          · first | (refine bel_size ?_; (repeat (first | assumption | with_reducible refine Bel.alloc ?_ _ | with_reducible refine Bel.drew ?_ | with_reducible refine Bel.step ?_ (by assumption) | fail)); done) | (refine bel_size1 ?_; (repeat (first | assumption | with_reducible refine Bel.alloc ?_ _ | with_reducible refine Bel.drew ?_ | with_reducible refine Bel.step ?_ (by assumption) | fail)); done) | (refine bel_size2 ?_; (repeat (first | assumption | with_reducible refine Bel.alloc ?_ _ | with_reducible refine Bel.drew ?_ | with_reducible refine Bel.step ?_ (by assumption) | fail)); done)
          · (repeat (first | assumption | with_reducible refine own_drew ?_ | with_reducible refine OwnAt.alloc ?_ _ | with_reducible refine own_step (by assumption) ?_ | fail))
        · (repeat (first | assumption | with_reducible refine Bel.alloc ?_ _ | with_reducible refine Bel.drew ?_ | with_reducible refine Bel.step ?_ (by assumption) | fail))
end Go.Proofs.YtableoihgkmbjaaGreat
end
section
namespace Go.Proofs.YtableoihgkmbjaaGreat
open Go.RowKit
set_option linter.unusedVariables false

/-- one column of several, by its number: the cell that holds it, its block -/
theorem colC_at {B : Nat} {W : World} {A : Option Addr} {m c : Nat} {us : List Value} {cs : List (List Int)} (hown : OwnAt W 26 1 (.slice A m c) m us) (hel : Elems (ColC B) W us cs) {i N : Nat} (hi : i < m) (hlen : ∀ x ∈ cs, x.length = N) :
    ∃ b off bi, A = some ⟨b, off, none⟩ ∧ b < W.heap.size ∧ W.cell? ⟨b, off + i, none⟩ = some (.slice (some ⟨bi, 0, none⟩) N N) ∧ bi < W.heap.size ∧ ∀ a, a < N → W.cell? ⟨bi, a, none⟩ = some (.int .u32 ((cs.getD i []).getD a 0)) := by
  obtain ⟨b, off, u, hA, hb, hcell, hu⟩ := hown.at1 hi
  have hl : cs.length = m := by rw [← hel.1]; have := hown.1; omega
  have hci : cs[i]? = some (cs[i]'(by omega)) := List.getElem?_eq_getElem (by omega)
  obtain ⟨bi, rfl, _, hrow⟩ := hel.2 i _ _ hci hu
  have hN : (cs[i]'(by omega)).length = N := hlen _ (List.getElem_mem _)
  have hd : cs.getD i [] = cs[i]'(by omega) := by rw [List.getD_eq_getElem?_getD, hci, Option.getD_some]
  refine ⟨b, off, bi, hA, hb, by rw [hcell, hN], (Array.getElem?_eq_some_iff.1 hrow).1, fun a ha => ?_⟩
  rw [cell_of_row W bi a _ _ (0, 0) hrow, hd]
  have : (cs[i]'(by omega))[a]? = some ((cs[i]'(by omega)).getD a 0) := by
    rw [List.getD_eq_getElem?_getD, List.getElem?_eq_getElem (by omega), Option.getD_some]
  rw [List.getElem?_toArray, List.getElem?_map, this]
  rfl

theorem col_row {wf w3 : World} {g : Nat} {o : Obj} (hb : Below wf.drew.heap.size wf.drew w3) (h : wf.heap[g]? = some o) : w3.heap[g]? = some o := (hb.block g (Array.getElem?_eq_some_iff.1 h).1).trans h
theorem Bel.set {W1 X : World} (h : Bel W1 X) {g a : Nat} (hg : W1.heap.size ≤ g) (v : Value) : Bel W1 (X.setCell ⟨g, a, none⟩ v) := Below.setCell h (p := ⟨g, a, none⟩) hg v
theorem s8_of {N a : Nat} {p0 p1 q0 q1 q2 r1 r2 : Prop} {s1 s2 : Nat → Prop} (h : (p0 ∧ p1) ∧ (q0 ∧ q1 ∧ q2) ∧ r1 ∧ r2 ∧ ∀ a, a < N → s1 a ∧ s2 a) (ha : a < N) : p1 ∧ q0 ∧ q1 ∧ q2 ∧ r1 ∧ r2 ∧ s1 a ∧ s2 a :=
  ⟨h.1.2, h.2.1.1, h.2.1.2.1, h.2.1.2.2, h.2.2.1, h.2.2.2.1, (h.2.2.2.2 a ha).1, (h.2.2.2.2 a ha).2⟩
theorem column_len (k w : Nat) (cs : List (List Int)) (s : K.Stp) : (K.column k w cs s).length = K.size k w := by simp [K.column]
theorem take_column {k w a : Nat} {cs : List (List Int)} {s : K.Stp} (h : a < K.size k w) : (K.column k w cs s).take (a + 1) = (K.column k w cs s).take a ++ [(B.total s.1 w ((cs.getD s.2.1.toNat []).getD a 0) ((cs.getD s.2.2.toNat []).getD a 0)).1] :=
  K.take_succ_at (by simp [K.column, h])
theorem take_column_len {k w a : Nat} {cs : List (List Int)} {s : K.Stp} (h : a ≤ K.size k w) : ((K.column k w cs s).take a).length = a := by rw [List.length_take, column_len]; omega

set_option maxRecDepth 100000 in
set_option maxHeartbeats 4000000 in
theorem pcolumn_any (k w : Nat) (hk : k = 1 ∨ k = 2) (hw : w = 1 ∨ w = 2 ∨ w = 3) (o : Int) (ia ib : Nat) (B9 : Nat) (A : Option Addr) (m c : Nat) (us : List Value) (cs : List (List Int)) (W : World)
    (hown : OwnAt W 26 1 (.slice A m c) m us) (hel : Elems (ColC B9) W us cs) (hia : ia < m) (hib : ib < m) (hlen : ∀ x ∈ cs, x.length = K.size k w) (h32 : ∀ i a, 0 ≤ (cs.getD i []).getD a 0) (ho : o ∈ K.ops) (hm : m ≤ 100) :
    Calls Tryz.prog 39 #[.agg #[.int .i64 k, .int .i64 w], .agg #[.int .i64 o, .int .i64 ia, .int .i64 ib], .slice A m c] W fun e w' => ∃ u, e = .returned u ∧ ColC W.heap.size w' u (K.column k w cs (o, (ia : Int), (ib : Int))) ∧ Below W.heap.size W w' := by
  have hor := K.ops_range ho
  have hop : (Lit.int .i64 o).wf = true := by simp [Lit.wf, IntKind.min, IntKind.max, IntKind.signed, IntKind.bits]; omega
  have HT := Lib.hid (fun x y (hx : 0 ≤ x) (hy : 0 ≤ y) W' => total_any o w x y W' hop hx hy)
  have HS := Lib.hid (fun W' => psize_any k w hk hw W')
  obtain ⟨s0, s1, s2, s3⟩ := size_facts hk hw
  obtain ⟨ba, offa, bia, hA, hba, hca, hbia, hcela⟩ := colC_at hown hel hia hlen
  obtain ⟨bb, offb, bib, hA2, hbb, hcb, hbib, hcelb⟩ := colC_at hown hel hib hlen
  rw [hA] at hA2
  injection hA2 with hA2
  injection hA2 with hA2 hA3
  subst hA2
  subst hA3
  subst hA
  obtain ⟨W1, hW1⟩ : ∃ W1, W1 = (W.alloc (.cells #[.int .i64 k, .int .i64 w] 48)).alloc (.cells #[.int .i64 o, .int .i64 ia, .int .i64 ib] 46) := ⟨_, rfl⟩
  have hB1 : Below W.heap.size W W1 := by rw [hW1]; exact ((Below.refl _ _).alloc (Nat.le_refl _) _).alloc (by simp) _
  have hr0 : W1.heap[W.heap.size]? = some (.cells #[.int .i64 k, .int .i64 w] 48 (0, 0)) := by rw [hW1]; exact row_alloc (heap_alloc_new W _) _
  have hr1 : W1.heap[W.heap.size + 1]? = some (.cells #[.int .i64 o, .int .i64 ia, .int .i64 ib] 46 (0, 0)) := by rw [hW1]; exact new_two W _ _
  have hsz : W1.heap.size = W.heap.size + 1 + 1 := by rw [hW1]; simp
  have Hall := Lib.hid (fun (X : World) (h : Bel W1 X) => (show
      (X.cell? ⟨W.heap.size, 0, none⟩ = some (.int .i64 (k : Int)) ∧ X.cell? ⟨W.heap.size, 1, none⟩ = some (.int .i64 (w : Int))) ∧
      (X.cell? ⟨W.heap.size + 1, 0, none⟩ = some (.int .i64 o) ∧ X.cell? ⟨W.heap.size + 1, 1, none⟩ = some (.int .i64 (ia : Int)) ∧ X.cell? ⟨W.heap.size + 1, 2, none⟩ = some (.int .i64 (ib : Int))) ∧
      X.cell? ⟨ba, offa + ia, none⟩ = some (.slice (some ⟨bia, 0, none⟩) (K.size k w) (K.size k w)) ∧ X.cell? ⟨ba, offa + ib, none⟩ = some (.slice (some ⟨bib, 0, none⟩) (K.size k w) (K.size k w)) ∧
      ∀ a, a < K.size k w → X.cell? ⟨bia, a, none⟩ = some (.int .u32 ((cs.getD ia []).getD a 0)) ∧ X.cell? ⟨bib, a, none⟩ = some (.int .u32 ((cs.getD ib []).getD a 0)) from by
    have hc : ∀ (p : Addr), p.block < W1.heap.size → X.cell? p = W1.cell? p := fun p hp => Below.cell h hp
    have hc2 : ∀ (p : Addr), p.block < W.heap.size → X.cell? p = W.cell? p := fun p hp => (hc p (by omega)).trans (hB1.cell hp)
    refine ⟨⟨?_, ?_⟩, ⟨?_, ?_, ?_⟩, ?_, ?_, fun a ha => ⟨?_, ?_⟩⟩
    · rw [hc _ (by simp; omega), cell_of_row _ _ _ _ _ (0, 0) hr0]; rfl
    · rw [hc _ (by simp; omega), cell_of_row _ _ _ _ _ (0, 0) hr0]; rfl
    · rw [hc _ (by simp; omega), cell_of_row _ _ _ _ _ (0, 0) hr1]; rfl
    · rw [hc _ (by simp; omega), cell_of_row _ _ _ _ _ (0, 0) hr1]; rfl
    · rw [hc _ (by simp; omega), cell_of_row _ _ _ _ _ (0, 0) hr1]; rfl
    · rw [hc2 _ hba]; exact hca
    · rw [hc2 _ hbb]; exact hcb
    · rw [hc2 _ hbia]; exact hcela a ha
    · rw [hc2 _ hbib]; exact hcelb a ha))
  have hge1 : W.heap.size ≤ W1.heap.size := by omega
  have HB1 := Lib.hid hB1
  have Hge1 := Lib.hid hge1
  obtain ⟨N, hN⟩ : ∃ N, N = K.size k w := ⟨_, rfl⟩
  rw [← hN] at Hall HS s3
  have HN := Lib.hid hN
  have H32 := Lib.hid h32
  obtain ⟨fa, hfa⟩ : ∃ fa : Nat → Int, fa = fun a => (cs.getD ia []).getD a 0 := ⟨_, rfl⟩
  obtain ⟨fb, hfb⟩ : ∃ fb : Nat → Int, fb = fun a => (cs.getD ib []).getD a 0 := ⟨_, rfl⟩
  have hfa' : ∀ a, (cs.getD ia []).getD a 0 = fa a := fun a => by rw [hfa]
  have hfb' : ∀ a, (cs.getD ib []).getD a 0 = fb a := fun a => by rw [hfb]
  have Hf0 := Lib.hid (show (∀ a, 0 ≤ fa a) ∧ ∀ a, 0 ≤ fb a from ⟨fun a => by rw [← hfa']; exact h32 ia a, fun a => by rw [← hfb']; exact h32 ib a⟩)
  simp only [hfa', hfb'] at Hall
  obtain ⟨col, hcol⟩ : ∃ col, col = K.column k w cs (o, (ia : Int), (ib : Int)) := ⟨_, rfl⟩
  have Hcl := Lib.hid (show col.length = N from by rw [hcol, column_len, hN])
  have Hts := Lib.hid (show ∀ a, a < N → col.take (a + 1) = col.take a ++ [(B.total o w (fa a) (fb a)).1] from fun a ha => by rw [hcol, take_column (by rw [← hN]; exact ha), ← hfa', ← hfb']; rfl)
  have Htl := Lib.hid (show ∀ a, a ≤ N → (col.take a).length = a from fun a ha => by rw [hcol]; exact take_column_len (by rw [← hN]; exact ha))
  rw [← hcol]
  have hr01 := hW1
  clear hfa hfb hfa' hfb' hcol h32 hN hlen hown hel s0 s1 s2 hca hcb hcela hcelb hr0 hr1 hbia hbib hba hbb hor hop ho hsz hge1 hB1 hk hw hr01
  have hall := Hall.out W1 (Below.refl _ _)
  obtain ⟨⟨hc0, hc1⟩, _⟩ := hall
  go_enter Tryz.func39, Tryz.ntmps39
  rw [hW1] at hc0 hc1
  go_wp2_with fail
  rw [← hW1] at hc0 hc1 ⊢
  (with_reducible refine (HS.out _).mono ?_)
  rintro e w2 ⟨rfl, hb2⟩
  clear hW1 hc0 hc1
  have Hb2 := Lib.hid hb2; clear hb2
  have hmk := fun (W' : World) => run_make_n (P := Tryz.prog) 26 39 (.int .u32 0) 4 Tryz.underlying26 infoU32 rfl .i64 .i64 N (N : Int) rfl (by omega) (by omega) W'
  go_wp2
  clear hmk
  have Hbel2 := Lib.hid (show Bel W1 w2 from (show Bel W1 W1 from Below.refl _ _).step Hb2)
  go_loopw [14] (fun i wf => ∃ (a : Nat), a ≤ N ∧ i = .int .i64 (a : Int) ∧ Hid (wf.heap[w2.heap.size]? = some (.cells (fillC (col.take a) N).toArray 39 (0, 0)) ∧ Below w2.heap.size w2 wf)) (fun i _ => N - (intOf i).toNat)
  case atStart => exact ⟨0, Nat.zero_le _, rfl, by rw [List.take_zero, fillC_nil]; exact heap_alloc_new _ _, (Below.refl _ _).alloc (Nat.le_refl _) _⟩
  case round =>
    obtain ⟨wf, rfl⟩ : ∃ x, x = wr := ⟨wr, rfl⟩
    obtain ⟨a, ha, rfl, HF⟩ := hrel
    have Hbelf := Lib.hid (show Bel W1 wf from Hbel2.out.step (Lib.hid HF.out.2))
    by_cases hla : a < N
    · obtain ⟨⟨hc0, hc1⟩, ⟨hx0, hx1, hx2⟩, hca, hcb, hcc⟩ := Hall.out wf Hbelf.out
      obtain ⟨hya, hyb⟩ := hcc a hla
      clear hcc
      have Hin := Lib.hid (fun X => HT.out (fa a) (fb a) (Hf0.out.1 a) (Hf0.out.2 a) X)
      go_wp2_with fail
      go_region_held3 (fun w' => w'.cell? ⟨W.heap.size, 1, none⟩ = some (.int .i64 (w : Int)) ∧ w'.cell? ⟨W.heap.size + 1, 0, none⟩ = some (.int .i64 o) ∧ w'.cell? ⟨W.heap.size + 1, 1, none⟩ = some (.int .i64 (ia : Int)) ∧ w'.cell? ⟨W.heap.size + 1, 2, none⟩ = some (.int .i64 (ib : Int)) ∧
          w'.cell? ⟨ba, offa + ia, none⟩ = some (.slice (some ⟨bia, 0, none⟩) N N) ∧ w'.cell? ⟨ba, offa + ib, none⟩ = some (.slice (some ⟨bib, 0, none⟩) N N) ∧ w'.cell? ⟨bia, a, none⟩ = some (.int .u32 (fa a)) ∧ w'.cell? ⟨bib, a, none⟩ = some (.int .u32 (fb a)))
        (first | go_keep | (go_split_ands; refine ⟨?_, ?_, ?_, ?_, ?_, ?_, ?_, ?_⟩ <;> assumption) | exact Hst.out _)
        ((go_at_call 63; (with_reducible refine (Hin.out _).mono ?_); rintro e w3 ⟨rfl, hb3⟩; obtain ⟨⟨hd0, hd1⟩, ⟨he0, he1, he2⟩, hda, hdb, hdd⟩ := Hall.out w3 (Hbelf.out.drew.step (Lib.hid hb3)); obtain ⟨hza, hzb⟩ := hdd a hla; obtain ⟨hs3, hf3⟩ := fill_cell (col_row hb3 HF.out.1) (by rw [Htl.out a ha]; exact ha) hla; obtain ⟨v0, hv0⟩ := Option.isSome_iff_exists.1 hs3; clear hdd hs3; have Hst := Lib.hid (fun v => s8_of (Hall.out (w3.setCell ⟨w2.heap.size, a, none⟩ v) ((Hbelf.out.drew.step (Lib.hid hb3)).set (bel_size Hbel2.out) v)) hla); have Hb3 := Lib.hid hb3; clear hb3))
      go_wp2
      go_roundw
      case rel => exact ⟨a + 1, by omega, by go_num, by rw [Hts.out a hla]; exact fill_step (col_row Hb3.out HF.out.1) (Htl.out a ha) hla, ((HF.out.2.trans ((Below.refl _ _).drew)).trans (Hb3.out.mono HF.out.2.size)).setCell (by exact Nat.le_refl _) _⟩
      case measure => simp [intOf]; omega
    · have hrow : wf.heap[w2.heap.size]? = some (.cells (col.map (Value.int .u32)).toArray 39 (0, 0)) := by
        have := HF.out.1
        rwa [List.take_of_length_le (by rw [Hcl.out]; omega), fillC_full Hcl.out] at this
      have Hrow := Lib.hid hrow; clear hrow
      go_wp2
      go_ret
      exact ⟨.slice (some ⟨w2.heap.size, 0, none⟩) N N, rfl, ⟨w2.heap.size, by rw [Hcl.out], Nat.le_trans Hge1.out (bel_size Hbel2.out), Hrow.out⟩, HB1.out.trans (Hbelf.out.mono Hge1.out)⟩
end Go.Proofs.YtableoihgkmbjaaGreat
end
