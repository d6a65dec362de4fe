/- Walks: the closures that are asked of each number, and the library's search by them. -/
import Derived.Test.YtceelipcclfdmaaW2
namespace Go.Proofs.Ytceelipcclfdmaa
open Go.RowKit

set_option maxHeartbeats 400000 in
theorem size_any (l : Int) (w : World) (h : -4000 ≤ l) (h' : l ≤ 4000) :
    Calls Try.prog 47 #[.int .i64 l] w fun e w' => e = .returned (.int .i64 (l.natAbs : Int)) ∧ w = w' := by
  go_enter Try.func47, Try.ntmps47
  go_wp2
  all_goals
    go_ret
    exact ⟨ret_int (by omega), rfl⟩

set_option maxHeartbeats 400000 in
theorem cloU_any (n x : Int) (B : Nat) (w : World) (hn : 0 ≤ n) (hm : n ≤ 4000) (hc : w.cell? ⟨B, 0, none⟩ = some (.int .i64 n)) :
    Calls Try.prog 31 #[.int .i64 x, .pointer (some ⟨B, 0, none⟩)] w fun e w' => e = .returned (.bool (!S.isLit n x)) ∧ w = w' := by
  have Hcon := Lib.hid (isLiteral_any n x w hn hm)
  go_enter Try.func31, Try.ntmps31
  go_wp2_with fail
  refine Hcon.out.mono ?_
  rintro e w' ⟨rfl, rfl⟩
  go_wp2
  go_ret
  exact ⟨rfl, rfl⟩

set_option maxHeartbeats 400000 in
theorem idxU_any (p : Int → Bool) (B : Nat) (A : Option Addr) (m c : Nat) (xs : List Int) (w : World) (hA : SlAt (IntR .i64) w A m xs)
    (hp : ∀ x ∈ xs, ∀ W, Dr w W → Calls Try.prog 31 #[.int .i64 x, .pointer (some ⟨B, 0, none⟩)] W fun e w' => e = .returned (.bool (p x)) ∧ Dr W w') :
    Calls Try.prog 53 #[.slice A m c, .func (.func 31) #[] #[.pointer (some ⟨B, 0, none⟩)]] w fun e w' => ∃ r : Int, e = .returned (.int .i64 r) ∧ decide (0 ≤ r) = xs.any p ∧ -1 ≤ r ∧ Dr w w' := by
  have hl := hA.le
  have HA := Lib.hid hA; clear hA
  have HP := Lib.hid hp; clear hp
  go_enter Try.func53, Try.ntmps53
  go_wp2
  go_loopw [8] (fun i wr => ∃ k : Nat, k ≤ m ∧ i = .int .i64 k ∧ Dr w wr ∧ Hid ((xs.take k).any p = false)) (fun i _ => m - (intOf i).toNat)
  case atStart => exact ⟨0, Nat.zero_le _, rfl, Dr.refl _, rfl⟩
  case round =>
    obtain ⟨k, hk, rfl, hdr, HT⟩ := hrel
    by_cases hlt : k < m
    · obtain ⟨x, b, off, u, hx, rfl, _, h1, rfl⟩ := (HA.out.dr (monoInt _) hdr).at_ hlt
      have con := HP.out x (List.mem_of_getElem? hx) wr hdr
      have Hx := Lib.hid hx; clear hx
      cases hpx : p x
      · rw [hpx] at con
        have Hcon := Lib.hid con; clear con
        have Hpx := Lib.hid hpx; clear hpx
        go_wp2_with fail
        refine Hcon.out.mono ?_
        rintro e w' ⟨rfl, hd2⟩
        go_wp2
        go_roundw
        case rel => exact ⟨k + 1, by omega, by go_num, hdr.trans hd2, any_take_step Hx.out HT.out Hpx.out⟩
        case measure => simp [intOf]; omega
      · rw [hpx] at con
        have Hcon := Lib.hid con; clear con
        have Hpx := Lib.hid hpx; clear hpx
        go_wp2_with fail
        refine Hcon.out.mono ?_
        rintro e w' ⟨rfl, hd2⟩
        go_wp2
        go_ret
        exact ⟨_, rfl, by rw [any_true_at Hx.out Hpx.out]; simp, by omega, hdr.trans hd2⟩
    · go_wp2
      go_ret
      have h3 := HT.out
      rw [take_all HA.out.len (by omega)] at h3
      exact ⟨_, rfl, by rw [h3]; rfl, by omega, hdr⟩

set_option maxHeartbeats 400000 in
theorem hasU_any (p : Int → Bool) (B : Nat) (A : Option Addr) (m c : Nat) (xs : List Int) (w : World) (hA : SlAt (IntR .i64) w A m xs)
    (hp : ∀ x ∈ xs, ∀ W, Dr w W → Calls Try.prog 31 #[.int .i64 x, .pointer (some ⟨B, 0, none⟩)] W fun e w' => e = .returned (.bool (p x)) ∧ Dr W w') :
    Calls Try.prog 30 #[.slice A m c, .func (.func 31) #[] #[.pointer (some ⟨B, 0, none⟩)]] w fun e w' => e = .returned (.bool (xs.any p)) ∧ Dr w w' := by
  have Hcon := Lib.hid (idxU_any p B A m c xs w hA hp); clear hA hp
  go_enter Try.func30, Try.ntmps30
  go_wp2_with fail
  refine Hcon.out.mono ?_
  rintro e w' ⟨r, rfl, hr, hr1, hd⟩
  have Hr := Lib.hid hr; clear hr
  go_wp2
  go_ret
  exact ⟨ret_bool (by rw [← Hr.out]), hd⟩

set_option maxHeartbeats 400000 in
theorem cloV_any (n x : Int) (B : Nat) (w : World) (hn : 0 ≤ n) (hm : n ≤ 4000) (hc : w.cell? ⟨B, 0, none⟩ = some (.int .i64 n)) :
    Calls Try.prog 48 #[.int .i64 x, .pointer (some ⟨B, 0, none⟩)] w fun e w' => e = .returned (.bool (!S.isLit n x)) ∧ w = w' := by
  have Hcon := Lib.hid (isLiteral_any n x w hn hm)
  go_enter Try.func48, Try.ntmps48
  go_wp2_with fail
  refine Hcon.out.mono ?_
  rintro e w' ⟨rfl, rfl⟩
  go_wp2
  go_ret
  exact ⟨rfl, rfl⟩

set_option maxHeartbeats 400000 in
theorem idxV_any (p : Int → Bool) (B : Nat) (A : Option Addr) (m c : Nat) (xs : List Int) (w : World) (hA : SlAt (IntR .i64) w A m xs)
    (hp : ∀ x ∈ xs, ∀ W, Dr w W → Calls Try.prog 48 #[.int .i64 x, .pointer (some ⟨B, 0, none⟩)] W fun e w' => e = .returned (.bool (p x)) ∧ Dr W w') :
    Calls Try.prog 53 #[.slice A m c, .func (.func 48) #[] #[.pointer (some ⟨B, 0, none⟩)]] w fun e w' => ∃ r : Int, e = .returned (.int .i64 r) ∧ decide (0 ≤ r) = xs.any p ∧ -1 ≤ r ∧ Dr w w' := by
  have hl := hA.le
  have HA := Lib.hid hA; clear hA
  have HP := Lib.hid hp; clear hp
  go_enter Try.func53, Try.ntmps53
  go_wp2
  go_loopw [8] (fun i wr => ∃ k : Nat, k ≤ m ∧ i = .int .i64 k ∧ Dr w wr ∧ Hid ((xs.take k).any p = false)) (fun i _ => m - (intOf i).toNat)
  case atStart => exact ⟨0, Nat.zero_le _, rfl, Dr.refl _, rfl⟩
  case round =>
    obtain ⟨k, hk, rfl, hdr, HT⟩ := hrel
    by_cases hlt : k < m
    · obtain ⟨x, b, off, u, hx, rfl, _, h1, rfl⟩ := (HA.out.dr (monoInt _) hdr).at_ hlt
      have con := HP.out x (List.mem_of_getElem? hx) wr hdr
      have Hx := Lib.hid hx; clear hx
      cases hpx : p x
      · rw [hpx] at con
        have Hcon := Lib.hid con; clear con
        have Hpx := Lib.hid hpx; clear hpx
        go_wp2_with fail
        refine Hcon.out.mono ?_
        rintro e w' ⟨rfl, hd2⟩
        go_wp2
        go_roundw
        case rel => exact ⟨k + 1, by omega, by go_num, hdr.trans hd2, any_take_step Hx.out HT.out Hpx.out⟩
        case measure => simp [intOf]; omega
      · rw [hpx] at con
        have Hcon := Lib.hid con; clear con
        have Hpx := Lib.hid hpx; clear hpx
        go_wp2_with fail
        refine Hcon.out.mono ?_
        rintro e w' ⟨rfl, hd2⟩
        go_wp2
        go_ret
        exact ⟨_, rfl, by rw [any_true_at Hx.out Hpx.out]; simp, by omega, hdr.trans hd2⟩
    · go_wp2
      go_ret
      have h3 := HT.out
      rw [take_all HA.out.len (by omega)] at h3
      exact ⟨_, rfl, by rw [h3]; rfl, by omega, hdr⟩

set_option maxHeartbeats 400000 in
theorem hasV_any (p : Int → Bool) (B : Nat) (A : Option Addr) (m c : Nat) (xs : List Int) (w : World) (hA : SlAt (IntR .i64) w A m xs)
    (hp : ∀ x ∈ xs, ∀ W, Dr w W → Calls Try.prog 48 #[.int .i64 x, .pointer (some ⟨B, 0, none⟩)] W fun e w' => e = .returned (.bool (p x)) ∧ Dr W w') :
    Calls Try.prog 30 #[.slice A m c, .func (.func 48) #[] #[.pointer (some ⟨B, 0, none⟩)]] w fun e w' => e = .returned (.bool (xs.any p)) ∧ Dr w w' := by
  have Hcon := Lib.hid (idxV_any p B A m c xs w hA hp); clear hA hp
  go_enter Try.func30, Try.ntmps30
  go_wp2_with fail
  refine Hcon.out.mono ?_
  rintro e w' ⟨r, rfl, hr, hr1, hd⟩
  have Hr := Lib.hid hr; clear hr
  go_wp2
  go_ret
  exact ⟨ret_bool (by rw [← Hr.out]), hd⟩

set_option maxHeartbeats 400000 in
theorem cloM_any (model : List Bool) (n x : Int) (B : Nat) (A : Option Addr) (m c : Nat) (w : World) (hA : SlAt BoolR w A m model) (hn : n ≤ 4000) (hmn : (m : Int) = n) (hx : S.isLit n x = true)
    (hc : w.cell? ⟨B, 0, none⟩ = some (.slice A m c)) :
    Calls Try.prog 46 #[.int .i64 x, .pointer (some ⟨B, 0, none⟩)] w fun e w' => e = .returned (.bool (model.getD (x.natAbs - 1) false == decide (0 < x))) ∧ Dr w w' := by
  obtain ⟨h1, h2, h3⟩ := isLit_wf (n := n) (l := x) (by unfold S.isLit at hx; simp at hx; omega) hx
  have hk : x.natAbs - 1 < m := by unfold S.isLit at hx; simp at hx; omega
  have h0 : 1 ≤ x.natAbs := by omega
  have hna : x.natAbs ≤ 4000 := by omega
  obtain ⟨k, hkk⟩ : ∃ k, x.natAbs = k + 1 := ⟨x.natAbs - 1, by omega⟩
  have Hmn := Lib.hid hmn; clear hmn
  have Hx := Lib.hid hx; clear hx
  obtain ⟨y, b, off, u, hy, rfl, _, hcell, rfl⟩ := hA.at_ hk
  clear hA
  have hgd : model.getD k false = y := by
    rw [hkk] at hy
    simp at hy
    simp [List.getD, hy]
  have hc2 : w.cell? ⟨b, off + k, none⟩ = some (.bool y) := by rw [hkk] at hcell; simpa using hcell
  clear hcell hy
  have con : ∀ q, Calls Try.prog 47 #[.int .i64 x] (w.drewN q) fun e w' => e = .returned (.int .i64 ((k : Int) + 1)) ∧ w' = w.drewN q := fun q => (size_any x _ h1 h2).mono fun e w' ⟨he, hw⟩ => ⟨by rw [he, hkk]; rfl, hw.symm⟩
  have hk4 : k < m := by omega
  have hwr : IntKind.i64.wrap (k : Int) = k := IntWalk.i64_in _ (by omega)
  have Hcon := Lib.hid con; clear con
  have Hkk := Lib.hid hkk; clear hkk hk h0 hna
  have Hgd := Lib.hid hgd; clear hgd
  go_enter Try.func46, Try.ntmps46
  go_wp2
  go_quiet ((go_at_call 47; exact Calls.quiet_of_same (Hcon.out _)))
  go_wp2
  go_ret
  exact ⟨ret_bool (by rw [Hkk.out, Nat.add_sub_cancel, Hgd.out]), Dr.drewN (Dr.refl _) _⟩

set_option maxHeartbeats 400000 in
theorem idxM_any (p : Int → Bool) (B : Nat) (A : Option Addr) (m c : Nat) (xs : List Int) (w : World) (hA : SlAt (IntR .i64) w A m xs)
    (hp : ∀ x ∈ xs, ∀ W, Dr w W → Calls Try.prog 46 #[.int .i64 x, .pointer (some ⟨B, 0, none⟩)] W fun e w' => e = .returned (.bool (p x)) ∧ Dr W w') :
    Calls Try.prog 53 #[.slice A m c, .func (.func 46) #[] #[.pointer (some ⟨B, 0, none⟩)]] w fun e w' => ∃ r : Int, e = .returned (.int .i64 r) ∧ decide (0 ≤ r) = xs.any p ∧ -1 ≤ r ∧ Dr w w' := by
  have hl := hA.le
  have HA := Lib.hid hA; clear hA
  have HP := Lib.hid hp; clear hp
  go_enter Try.func53, Try.ntmps53
  go_wp2
  go_loopw [8] (fun i wr => ∃ k : Nat, k ≤ m ∧ i = .int .i64 k ∧ Dr w wr ∧ Hid ((xs.take k).any p = false)) (fun i _ => m - (intOf i).toNat)
  case atStart => exact ⟨0, Nat.zero_le _, rfl, Dr.refl _, rfl⟩
  case round =>
    obtain ⟨k, hk, rfl, hdr, HT⟩ := hrel
    by_cases hlt : k < m
    · obtain ⟨x, b, off, u, hx, rfl, _, h1, rfl⟩ := (HA.out.dr (monoInt _) hdr).at_ hlt
      have con := HP.out x (List.mem_of_getElem? hx) wr hdr
      have Hx := Lib.hid hx; clear hx
      cases hpx : p x
      · rw [hpx] at con
        have Hcon := Lib.hid con; clear con
        have Hpx := Lib.hid hpx; clear hpx
        go_wp2_with fail
        refine Hcon.out.mono ?_
        rintro e w' ⟨rfl, hd2⟩
        go_wp2
        go_roundw
        case rel => exact ⟨k + 1, by omega, by go_num, hdr.trans hd2, any_take_step Hx.out HT.out Hpx.out⟩
        case measure => simp [intOf]; omega
      · rw [hpx] at con
        have Hcon := Lib.hid con; clear con
        have Hpx := Lib.hid hpx; clear hpx
        go_wp2_with fail
        refine Hcon.out.mono ?_
        rintro e w' ⟨rfl, hd2⟩
        go_wp2
        go_ret
        exact ⟨_, rfl, by rw [any_true_at Hx.out Hpx.out]; simp, by omega, hdr.trans hd2⟩
    · go_wp2
      go_ret
      have h3 := HT.out
      rw [take_all HA.out.len (by omega)] at h3
      exact ⟨_, rfl, by rw [h3]; rfl, by omega, hdr⟩

set_option maxHeartbeats 400000 in
theorem hasM_any (p : Int → Bool) (B : Nat) (A : Option Addr) (m c : Nat) (xs : List Int) (w : World) (hA : SlAt (IntR .i64) w A m xs)
    (hp : ∀ x ∈ xs, ∀ W, Dr w W → Calls Try.prog 46 #[.int .i64 x, .pointer (some ⟨B, 0, none⟩)] W fun e w' => e = .returned (.bool (p x)) ∧ Dr W w') :
    Calls Try.prog 30 #[.slice A m c, .func (.func 46) #[] #[.pointer (some ⟨B, 0, none⟩)]] w fun e w' => e = .returned (.bool (xs.any p)) ∧ Dr w w' := by
  have Hcon := Lib.hid (idxM_any p B A m c xs w hA hp); clear hA hp
  go_enter Try.func30, Try.ntmps30
  go_wp2_with fail
  refine Hcon.out.mono ?_
  rintro e w' ⟨r, rfl, hr, hr1, hd⟩
  have Hr := Lib.hid hr; clear hr
  go_wp2
  go_ret
  exact ⟨ret_bool (by rw [← Hr.out]), hd⟩
end Go.Proofs.Ytceelipcclfdmaa
