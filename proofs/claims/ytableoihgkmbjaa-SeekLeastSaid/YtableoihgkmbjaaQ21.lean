/- Whether a row is least: the words, the program, the reference. -/
import Derived.Test.YtableoihgkmbjaaQ20
import Derived.Test.YtableoihgkmbjaaQ14
namespace Go.Proofs.Ytableoihgkmbjaa
open Go.RowKit
set_option linter.unusedVariables false
set_option linter.unusedSimpArgs false
set_option linter.unnecessarySimpa false

namespace K
theorem mem_upTo {k n : Nat} {r : List Stp} (h : r ∈ upTo k n) : r.length < n := by
  unfold upTo at h
  simp only [List.mem_flatMap, List.mem_range] at h
  obtain ⟨i, hi, hr⟩ := h
  rw [rows_len hr]; exact hi
theorem first_cnt (k w : Nat) (t : List Int) (n : Nat) : first k w t n = none ↔ cnt k w t (upTo k n) = 0 := by
  unfold first cnt
  rw [List.find?_eq_none, List.countP_eq_zero]
theorem cnt_upTo (k w : Nat) (t : List Int) (n : Nat) : cnt k w t (upTo k (n + 1)) = cnt k w t (upTo k n) + cnt k w t (rows k n) := by
  rw [upTo_succ]; unfold cnt; rw [List.countP_append]
theorem cnt_upTo_le {k : Nat} (w : Nat) (t : List Int) (hk : k ≤ 2) : ∀ {n : Nat}, n ≤ 3 → cnt k w t (upTo k n) ≤ n * 100000
  | 0, _ => by simp [upTo, cnt]
  | n + 1, h => by
    have h1 := cnt_upTo_le w t hk (n := n) (by omega)
    have h2 := cnt_le k w t (rows k n)
    have h3 := rows_count (k := k) (n := n) hk (by omega)
    rw [cnt_upTo, Nat.succ_mul]; omega

/-- a row is least exactly if the first row with its meaning is as long -/
theorem least_iff {k w : Nat} {r : List Stp} (hr : okRow k r) (hl : r.length ≤ 2) : ∃ q, first k w (meaning k w r) 3 = some q ∧ (q.length = r.length ↔ first k w (meaning k w r) r.length = none) := by
  obtain ⟨l, hup⟩ := upTo_pre k (r.length + 1) (3 - (r.length + 1))
  rw [show r.length + 1 + (3 - (r.length + 1)) = 3 by omega, upTo_succ k r.length] at hup
  have hmem := mem_rows r.length rfl hr
  unfold first
  rw [hup, List.append_assoc, List.find?_append]
  cases hf : (upTo k r.length).find? fun q => decide (meaning k w q = meaning k w r) with
  | some q =>
    refine ⟨q, rfl, ?_⟩
    have := mem_upTo (List.mem_of_find?_eq_some hf)
    constructor
    · intro h; omega
    · intro h; cases h
  | none =>
    rw [Option.none_or, List.find?_append]
    cases hg : (rows k r.length).find? fun q => decide (meaning k w q = meaning k w r) with
    | some q =>
      refine ⟨q, rfl, fun _ => rfl, fun _ => rows_len (List.mem_of_find?_eq_some hg)⟩
    | none =>
      have := List.find?_eq_none.1 hg r hmem
      simp at this
/-- whether a row is least -/
def least (k w : Int) (r : List Stp) : Bool × Int := if valid k w r = 0 then (decide (cnt k.toNat w.toNat (meaning k.toNat w.toNat r) (upTo k.toNat r.length) = 0), 0) else (false, valid k w r)
end K

theorem ret_bi {a b : Bool} {x y : Int} (h1 : a = b) (h2 : x = y) : Ending.returned (.tuple #[.bool a, .int .i64 x]) = .returned (.tuple #[.bool b, .int .i64 y]) := by rw [h1, h2]

set_option maxRecDepth 100000 in
set_option maxHeartbeats 1000000 in
theorem pIsShortest_any (k w : Int) (A : Option Addr) (m c : Nat) (row : List K.Stp) (W : World) (hA : StAt 3 StepR W A m row) :
    Calls Try.prog 12 #[.int .i64 k, .int .i64 w, .slice A m c] W fun e w' => e = .returned (.tuple #[.bool (K.least k w row).1, .int .i64 (K.least k w row).2]) ∧ Below W.heap.size W w' := by
  have HM := Lib.hid (pMeaning_any k w A m c row W hA)
  have hml := hA.len
  have hm63 := hA.le
  clear hA
  go_enter Try.func12, Try.ntmps12
  go_wp2_with fail
  refine HM.out.mono ?_
  rintro e w1 ⟨hb1, (⟨hv, rfl⟩ | ⟨hv, q, rfl, hsl⟩)⟩
  · have hl : K.least k w row = (false, K.valid k w row) := by unfold K.least; rw [if_neg hv]
    have Hl := Lib.hid hl
    have Hb1 := Lib.hid hb1
    obtain ⟨er, her⟩ : ∃ er, er = K.valid k w row := ⟨_, rfl⟩
    have Her := Lib.hid her
    rw [← her] at hv ⊢
    have hvb : (er != 0) = true := by simpa using hv
    clear her hb1 hl HM
    go_wp2
    go_ret2
    exact ⟨by rw [Hl.out, ← Her.out]; rfl, Hb1.out⟩
  · obtain ⟨hov, hl, hok⟩ := K.valid_zero hv
    have hkw := K.over_iff.1 hov
    obtain ⟨kN, rfl⟩ : ∃ kN : Nat, k = kN := ⟨k.toNat, by omega⟩
    obtain ⟨wN, rfl⟩ : ∃ wN : Nat, w = wN := ⟨w.toNat, by omega⟩
    have hle : K.least kN wN row = (decide (K.cnt kN wN (K.meaning kN wN row) (K.upTo kN m) = 0), 0) := by unfold K.least; rw [if_pos hv, hml]; rfl
    have Hle := Lib.hid hle
    simp only [Int.toNat_natCast] at hsl
    have HS := Lib.hid (pshortest_any kN wN m (by omega) (by omega) (by omega) (some ⟨q, 0, none⟩) (K.size kN wN) (K.size kN wN) (K.meaning kN wN row) w1 hsl)
    have Hb1 := Lib.hid hb1
    have e9 : IntKind.i64.wrap ((m : Int) - 1) = (m : Int) - 1 := IntWalk.i64_in _ (by omega)
    clear hv hsl hb1 hov hl hok hkw hle HM
    simp only [Int.toNat_natCast]
    go_wp2_with fail
    refine HS.out.mono ?_
    rintro e w2 ⟨hb2, (⟨r, A2, cc, hf, rfl, _⟩ | ⟨hf, rfl⟩)⟩
    · have Hb2 := Lib.hid (Hb1.out.trans (hb2.mono Hb1.out.size))
      have hz : decide (K.cnt kN wN (K.meaning kN wN row) (K.upTo kN m) = 0) = false := decide_eq_false fun h => by rw [(K.first_cnt ..).2 h] at hf; cases hf
      have Hz := Lib.hid hz
      clear hb2 hf e9 hz
      go_wp2
      go_ret2
      exact ⟨by rw [Hle.out, Hz.out]; rfl, Hb2.out⟩
    · have Hb2 := Lib.hid (Hb1.out.trans (hb2.mono Hb1.out.size))
      have hz : decide (K.cnt kN wN (K.meaning kN wN row) (K.upTo kN m) = 0) = true := decide_eq_true ((K.first_cnt ..).1 hf)
      have Hz := Lib.hid hz
      clear hb2 hf e9 hz
      go_wp2
      go_ret2
      exact ⟨by rw [Hle.out, Hz.out]; rfl, Hb2.out⟩

set_option maxRecDepth 100000 in
set_option maxHeartbeats 1000000 in
theorem rIsShortest_any (k w : Int) (A : Option Addr) (m c : Nat) (row : List K.Stp) (W : World) (hA : StAt 3 StepR W A m row) :
    Calls Try.prog 13 #[.int .i64 k, .int .i64 w, .slice A m c] W fun e w' => e = .returned (.tuple #[.bool (K.least k w row).1, .int .i64 (K.least k w row).2]) ∧ Below W.heap.size W w' := by
  have HV := Lib.hid (rvalid_any k w A m c row W hA)
  have HA := Lib.hid hA
  have hml := hA.len
  have hm63 := hA.le
  clear hA
  by_cases hv : K.valid k w row = 0
  · obtain ⟨hov, hl, hok⟩ := K.valid_zero hv
    have hkw := K.over_iff.1 hov
    obtain ⟨kN, rfl⟩ : ∃ kN : Nat, k = kN := ⟨k.toNat, by omega⟩
    obtain ⟨wN, rfl⟩ : ∃ wN : Nat, w = wN := ⟨w.toNat, by omega⟩
    have hle : K.least kN wN row = (decide (K.cnt kN wN (K.meaning kN wN row) (K.upTo kN row.length) = 0), 0) := by unfold K.least; rw [if_pos hv]; rfl
    rw [hle]
    rw [hv] at HV
    rw [Int.toNat_natCast] at hok
    have hk : kN = 1 ∨ kN = 2 := by omega
    have hw : wN = 1 ∨ wN = 2 ∨ wN = 3 := by omega
    have HM := Lib.hid (fun W' (h : Below W.heap.size W W') => rmeaning_any kN wN hk hw A m c row W' (HA.out.below monoStep h) hok (by omega))
    obtain ⟨q, hq, hiff⟩ := K.least_iff (w := wN) hok hl
    have hsh : K.shortest kN wN (K.meaning kN wN row) = (q, true, 0) := by
      rw [shortest_cases, hov, Int.toNat_natCast, Int.toNat_natCast, K.isTable_meaning hk (by omega), hq]; rfl
    have HX := Lib.hid (fun A2 c2 W' (h : SlAt (IntR .u32) W' A2 (K.size kN wN) (K.meaning kN wN row)) => rshortest_any kN wN A2 (K.size kN wN) c2 (K.meaning kN wN row) W' h (K.w32_meaning hk (by omega) (by omega) row))
    rw [hsh] at HX
    rw [K.first_cnt] at hiff
    have hz : decide (K.cnt kN wN (K.meaning kN wN row) (K.upTo kN row.length) = 0) = decide (q.length = m) := by rw [← hml]; exact decide_eq_decide.2 hiff.symm
    rw [hz]
    clear hv hov hl hok hkw hk hw hle hq hiff hsh hz
    by_cases hqm : q.length = m
    · have hqi : (q.length : Int) = (m : Int) := by omega
      rw [decide_eq_true hqm]
      clear hqm
      go_enter Try.func13, Try.ntmps13
      go_wp2_with fail
      refine HV.out.mono ?_
      rintro e w1 ⟨rfl, hb1⟩
      have Hb1 := Lib.hid hb1
      clear hb1
      go_wp2_with fail
      refine (HM.out _ Hb1.out).mono ?_
      rintro e w2 ⟨A2, c2, rfl, hsl, hb2⟩
      have Hb2 := Lib.hid (Hb1.out.trans (hb2.mono Hb1.out.size))
      have HX2 := Lib.hid (HX.out A2 c2 w2 hsl)
      clear hsl hb2
      go_wp2_with fail
      refine HX2.out.mono ?_
      rintro e w3 ⟨A3, c3, rfl, _, hb3⟩
      have Hb3 := Lib.hid (Hb2.out.trans (hb3.mono Hb2.out.size))
      clear hb3
      dsimp only
      go_wp2
      go_ret2
      exact ⟨ret_bi (by simpa using hqi) rfl, Hb3.out⟩
    · have hqi : ¬ (q.length : Int) = (m : Int) := by omega
      rw [decide_eq_false hqm]
      clear hqm
      go_enter Try.func13, Try.ntmps13
      go_wp2_with fail
      refine HV.out.mono ?_
      rintro e w1 ⟨rfl, hb1⟩
      have Hb1 := Lib.hid hb1
      clear hb1
      go_wp2_with fail
      refine (HM.out _ Hb1.out).mono ?_
      rintro e w2 ⟨A2, c2, rfl, hsl, hb2⟩
      have Hb2 := Lib.hid (Hb1.out.trans (hb2.mono Hb1.out.size))
      have HX2 := Lib.hid (HX.out A2 c2 w2 hsl)
      clear hsl hb2
      go_wp2_with fail
      refine HX2.out.mono ?_
      rintro e w3 ⟨A3, c3, rfl, _, hb3⟩
      have Hb3 := Lib.hid (Hb2.out.trans (hb3.mono Hb2.out.size))
      clear hb3
      dsimp only
      go_wp2
      go_ret2
      exact ⟨ret_bi (by simpa using hqi) rfl, Hb3.out⟩
  · have hle : K.least k w row = (false, K.valid k w row) := by unfold K.least; rw [if_neg hv]
    rw [hle]
    obtain ⟨er, her⟩ : ∃ er, er = K.valid k w row := ⟨_, rfl⟩
    rw [← her] at HV hv ⊢
    have hvb : (er != 0) = true := by simpa using hv
    clear her hle
    go_enter Try.func13, Try.ntmps13
    go_wp2_with fail
    refine HV.out.mono ?_
    rintro e w1 ⟨rfl, hb1⟩
    have Hb1 := Lib.hid hb1
    clear hb1
    go_wp2
    go_ret2
    exact ⟨rfl, Hb1.out⟩
end Go.Proofs.Ytableoihgkmbjaa
