/- Merged: Z6, Z7. -/
import Derived.Test.YtmebpgggfppmhaaDoorG43
set_option linter.unusedVariables false
set_option linter.unusedSimpArgs false
section
namespace Go.Proofs.YtmebpgggfppmhaaDoor
open Go.RowKit
set_option linter.unusedVariables false
set_option linter.unusedSimpArgs false

namespace B
theorem div_two (x i : Nat) : x / 2 / 2 ^ i = x / 2 ^ (i + 1) := by rw [Nat.div_div_eq_div_mul, Nat.pow_succ, Nat.mul_comm]
theorem ctzFrom_ge : ∀ (k f x : Nat), k ≤ f → (∀ i, i < k → x / 2 ^ i % 2 = 0) → k ≤ Lib.ctzFrom f x := by
  intro k
  induction k with
  | zero => intro f x _ _; omega
  | succ k ih =>
    intro f x hf h
    obtain ⟨f, rfl⟩ : ∃ g, f = g + 1 := ⟨f - 1, by omega⟩
    have h0 := h 0 (by omega)
    simp at h0
    unfold Lib.ctzFrom
    rw [if_neg (by omega)]
    have := ih f (x / 2) (by omega) (fun i hi => by rw [div_two]; exact h (i + 1) (by omega))
    omega
theorem ctzFrom_le : ∀ (k f x : Nat), x / 2 ^ k % 2 = 1 → Lib.ctzFrom f x ≤ k := by
  intro k
  induction k with
  | zero =>
    intro f x h
    simp at h
    cases f with
    | zero => simp [Lib.ctzFrom]
    | succ f => unfold Lib.ctzFrom; rw [if_pos h]; omega
  | succ k ih =>
    intro f x h
    cases f with
    | zero => simp [Lib.ctzFrom]
    | succ f =>
      unfold Lib.ctzFrom
      split
      · omega
      · have := ih f (x / 2) (by rw [div_two]; exact h)
        omega
theorem trl_of {w x k : Nat} (hw : w ≤ 32) (hk : k ≤ w) (h1 : ∀ i, i < k → x / 2 ^ i % 2 = 0) (h2 : k = w ∨ x / 2 ^ k % 2 = 1) : trl (w : Int) (x : Int) = (k : Int) := by
  unfold trl
  simp only [Int.toNat_natCast]
  have hge : k ≤ Lib.ctz 32 x := by
    unfold Lib.ctz
    split
    · omega
    · exact ctzFrom_ge k 32 x (by omega) h1
  rcases h2 with h2 | h2
  · omega
  · have hle : Lib.ctz 32 x ≤ k := by
      unfold Lib.ctz
      split
      · rename_i e; subst e; simp at h2
      · exact ctzFrom_le k 32 x h2
    omega
theorem onesN_snoc : ∀ (i n : Nat), onesN (i + 1) n = onesN i n + n / 2 ^ i % 2 := by
  intro i
  induction i with
  | zero => intro n; simp [onesN]
  | succ i ih =>
    intro n
    have h1 : onesN (i + 1 + 1) n = n % 2 + onesN (i + 1) (n / 2) := rfl
    have h2 : onesN (i + 1) n = n % 2 + onesN i (n / 2) := rfl
    rw [h1, h2, ih, div_two]
    omega
theorem onesN_z0 : ∀ (i : Nat), onesN i 0 = 0 := by
  intro i
  induction i with
  | zero => rfl
  | succ i ih => show 0 % 2 + onesN i (0 / 2) = 0; simp [ih]
theorem onesN_wide {w x : Nat} (hw : w ≤ 32) (hx : x < 2 ^ w) : onesN 32 x = onesN w x := by
  have h := onesN_add w (32 - w) x
  rw [show w + (32 - w) = 32 by omega, Nat.mod_eq_of_lt hx, Nat.div_eq_of_lt hx, onesN_z0] at h
  omega
theorem onesN_lei : ∀ (i n : Nat), onesN i n ≤ i := by
  intro i
  induction i with
  | zero => intro n; exact Nat.le_refl _
  | succ i ih => intro n; show n % 2 + onesN i (n / 2) ≤ i + 1; have := ih (n / 2); omega
theorem pw_natk (k : Nat) : pw (k : Int) = ((2 ^ k : Nat) : Int) := by unfold pw; simp
end B

theorem rOf_any (n x : Int) (W : World) (h : B.isWd n = true) (h2 : -9223372036854775808 ≤ x) (h3 : x ≤ 9223372036854775807) : Calls Tryd.prog 76 #[.int .i64 n, .int .i64 x] W fun e w' => e = .returned (.tuple #[.int .u32 (x % B.pw n), .int .i64 0]) ∧ W = w' := by
  have hb := B.isWd_iff.1 h
  have HW := Lib.hid (risWidth_any n W)
  have HR := Lib.hid (wrap_any n x W (by omega) (by omega) h2 h3)
  rw [h] at HW
  generalize x % B.pw n = r at HR ⊢
  clear h hb h2 h3
  go_enter Tryd.func76, Tryd.ntmps76
  go_wp2_with fail
  (with_reducible refine HW.out.mono ?_)
  rintro e w' ⟨rfl, rfl⟩
  go_wp2_with fail
  (with_reducible refine HR.out.mono ?_)
  rintro e w' ⟨rfl, rfl⟩
  go_wp2
  go_ret2
  exact ⟨rfl, rfl⟩

set_option maxRecDepth 100000 in
theorem rTrailing_any (n x : Nat) (W : World) (h : B.isW (n : Int) (x : Int) = true) (hx : x < 4294967296) : Calls Tryd.prog 77 #[.int .i64 (n : Int), .int .u32 (x : Int)] W fun e w' => e = .returned (.tuple #[.int .i64 (B.trl n x), .int .i64 0]) ∧ W = w' := by
  have hb := B.isW_iff.1 h
  have HW := Lib.hid (isWord_any n x W (by omega) (by omega))
  rw [h] at HW
  have hn : n ≤ 32 := by omega
  obtain ⟨r, hr⟩ : ∃ r, B.trl n x = r := ⟨_, rfl⟩
  have Hr := Lib.hid hr
  rw [hr]
  clear h hb hr
  go_enter Tryd.func77, Tryd.ntmps77
  go_wp2_with fail
  (with_reducible refine HW.out.mono ?_)
  rintro e w' ⟨rfl, rfl⟩
  go_wp2
  go_loop [6] (fun i => ∃ k : Nat, k ≤ n ∧ i = .int .i64 (k : Int) ∧ Hid (∀ i, i < k → x / 2 ^ i % 2 = 0)) (fun i => n - (intOf i).toNat)
  case atStart => exact ⟨0, Nat.zero_le _, rfl, Lib.hid (fun i hi => by omega)⟩
  case round =>
    obtain ⟨k, hk, rfl, Hk⟩ := hrel
    by_cases hlt : k < n
    · have hpw := B.pw_natk k
      have hp0 : 0 < 2 ^ k := Nat.pow_pos (by omega)
      have hp1 : 2 ^ k ≤ 2 ^ 32 := Nat.pow_le_pow_right (by omega) (by omega)
      have HS := Lib.hid (rsize_any (k : Int) W (by omega) (by omega))
      rw [hpw] at HS
      obtain ⟨p, hp⟩ : ∃ p, 2 ^ k = p := ⟨_, rfl⟩
      rw [hp] at HS hp0 hp1
      have Hp := Lib.hid hp
      have hq0 : 0 ≤ (x : Int) / (p : Int) := Int.ediv_nonneg (by omega) (by omega)
      have hq1 : (x : Int) / (p : Int) ≤ 4294967296 := by
        have := Nat.div_le_self x p
        have e : (x : Int) / (p : Int) = ((x / p : Nat) : Int) := by simp
        omega
      have hp2 : (p : Int) ≤ 4294967296 := by omega
      have hp3 : 1 ≤ (p : Int) := by omega
      have e : (x : Int) / (p : Int) % 2 = ((x / p % 2 : Nat) : Int) := by simp
      have E := Lib.hid e
      clear hpw hp hp0 hp1 e
      by_cases hz : x / p % 2 = 0
      · have q : ((x : Int) / (p : Int) % 2 == 0) = true := by rw [E.out, hz]; rfl
        have Ht := Lib.hid (show ∀ i, i < k + 1 → x / 2 ^ i % 2 = 0 from fun i hi => by
          rcases Nat.lt_or_ge i k with h | h
          · exact Hk.out i h
          · obtain rfl : i = k := by omega
            rw [Hp.out]; exact hz)
        clear hz
        go_wp2_with fail
        (with_reducible refine HS.out.mono ?_)
        rintro e w' ⟨rfl, rfl⟩
        go_wp2
        go_round
        case rel => exact ⟨k + 1, by omega, by go_num, Ht⟩
        case measure => simp [intOf]; omega
      · have q : ((x : Int) / (p : Int) % 2 == 0) = false := by rw [E.out]; simp; omega
        have Ht := Lib.hid (show r = (k : Int) from by rw [← Hr.out]; exact B.trl_of hn hk Hk.out (.inr (by rw [Hp.out]; omega)))
        clear hz
        go_wp2_with fail
        (with_reducible refine HS.out.mono ?_)
        rintro e w' ⟨rfl, rfl⟩
        go_wp2
        go_ret2
        exact ⟨by rw [Ht.out]; rfl, rfl⟩
    · obtain rfl : k = n := by omega
      have Ht := Lib.hid (show r = (k : Int) from by rw [← Hr.out]; exact B.trl_of hn hk Hk.out (.inl rfl))
      go_wp2
      go_ret2
      exact ⟨by rw [Ht.out]; rfl, rfl⟩

set_option maxRecDepth 100000 in
theorem rOnes_any (n x : Nat) (W : World) (h : B.isW (n : Int) (x : Int) = true) (hx : x < 4294967296) : Calls Tryd.prog 93 #[.int .i64 (n : Int), .int .u32 (x : Int)] W fun e w' => e = .returned (.tuple #[.int .i64 (B.onesN n x : Int), .int .i64 0]) ∧ W = w' := by
  have hb := B.isW_iff.1 h
  have HW := Lib.hid (isWord_any n x W (by omega) (by omega))
  rw [h] at HW
  have hn : n ≤ 32 := by omega
  obtain ⟨r, hr⟩ : ∃ r, B.onesN n x = r := ⟨_, rfl⟩
  have Hr := Lib.hid hr
  rw [hr]
  clear h hb hr
  go_enter Tryd.func93, Tryd.ntmps93
  go_wp2_with fail
  (with_reducible refine HW.out.mono ?_)
  rintro e w' ⟨rfl, rfl⟩
  go_wp2
  go_loop [6, 7] (fun s i => ∃ k m : Nat, k ≤ n ∧ i = .int .i64 (k : Int) ∧ s = .int .i64 (m : Int) ∧ m ≤ k ∧ Hid (m = B.onesN k x)) (fun _ i => n - (intOf i).toNat)
  case atStart => exact ⟨0, 0, Nat.zero_le _, rfl, rfl, Nat.le_refl _, Lib.hid rfl⟩
  case round =>
    obtain ⟨k, m, hk, rfl, rfl, hm, Hm⟩ := hrel
    by_cases hlt : k < n
    · have hpw := B.pw_natk k
      have hp0 : 0 < 2 ^ k := Nat.pow_pos (by omega)
      have hp1 : 2 ^ k ≤ 2 ^ 32 := Nat.pow_le_pow_right (by omega) (by omega)
      have HS := Lib.hid (rsize_any (k : Int) W (by omega) (by omega))
      rw [hpw] at HS
      have Ht := Lib.hid (B.onesN_snoc k x)
      obtain ⟨p, hp⟩ : ∃ p, 2 ^ k = p := ⟨_, rfl⟩
      rw [hp] at HS hp0 hp1 Ht
      have hq0 : 0 ≤ (x : Int) / (p : Int) := Int.ediv_nonneg (by omega) (by omega)
      have hq1 : (x : Int) / (p : Int) ≤ 4294967296 := by
        have := Nat.div_le_self x p
        have e : (x : Int) / (p : Int) = ((x / p : Nat) : Int) := by simp
        omega
      have hp2 : (p : Int) ≤ 4294967296 := by omega
      have hp3 : 1 ≤ (p : Int) := by omega
      have e : (x : Int) / (p : Int) % 2 = ((x / p % 2 : Nat) : Int) := by simp
      have E := Lib.hid e
      have hb2 : x / p % 2 ≤ 1 := by omega
      have Hb2 := Lib.hid hb2
      clear hpw hp hp0 hp1 e hb2
      have hr2 : 0 ≤ (x : Int) / (p : Int) % 2 ∧ (x : Int) / (p : Int) % 2 ≤ 1 := by omega
      go_wp2_with fail
      (with_reducible refine HS.out.mono ?_)
      rintro e w' ⟨rfl, rfl⟩
      go_wp2
      go_round
      case rel =>
        refine ⟨k + 1, m + x / p % 2, by omega, by go_num, ?_, by have := Hb2.out; omega, Lib.hid (by rw [Ht.out, ← Hm.out])⟩
        rw [E.out]
        congr 1
      case measure => simp [intOf]; omega
    · obtain rfl : k = n := by omega
      have Ht := Lib.hid (show r = m from by rw [← Hr.out, Hm.out])
      go_wp2
      go_ret2
      exact ⟨by rw [Ht.out]; rfl, rfl⟩
end Go.Proofs.YtmebpgggfppmhaaDoor
end
section
namespace Go.Proofs.YtmebpgggfppmhaaDoor
open Go.RowKit
set_option linter.unusedVariables false
set_option linter.unusedSimpArgs false

set_option maxRecDepth 100000 in
theorem rareHoles_any {w : Int} {hs : List Int} {nh ch : Nat} {Ah : Option Addr} {W : World} (hH : SlAt (IntR .u32) W Ah nh hs) (h0 : ∀ x ∈ hs, 0 ≤ x ∧ x < 4294967296) :
    Calls Tryd.prog 68 #[.int .i64 w, .slice Ah nh ch] W fun e W' => e = .returned (.bool (R.hsOk w hs)) ∧ W = W' := by
  have hle := hH.le
  have Hlh := Lib.hid hH.len
  have HH := Lib.hid hH
  have H0 := Lib.hid h0
  obtain ⟨r, hr⟩ : ∃ r, R.hsOk w hs = r := ⟨_, rfl⟩
  have Hv := Lib.hid (show r = (decide (1 ≤ w) && decide (w ≤ 32) && decide (nh = 2) && !hs.any fun x => !B.isW w x) from by rw [← hr, ← Hlh.out]; rfl)
  rw [hr]
  clear hH h0 hr
  by_cases h1 : w < 1
  · have q1 : decide (w < 1) = true := by simpa using h1
    have He := Lib.hid (show r = false from by rw [Hv.out, decide_eq_false (by omega)]; simp)
    clear h1
    go_enter Tryd.func68, Tryd.ntmps68
    go_wp2
    go_ret
    exact ⟨ret_bool He.out.symm, rfl⟩
  have q1 : decide (w < 1) = false := by simpa using h1
  by_cases h2 : 32 < w
  · have q2 : decide (32 < w) = true := by simpa using h2
    have He := Lib.hid (show r = false from by rw [Hv.out, decide_eq_false (show ¬ w ≤ 32 by omega)]; simp)
    clear h1 h2
    go_enter Tryd.func68, Tryd.ntmps68
    go_wp2
    go_ret
    exact ⟨ret_bool He.out.symm, rfl⟩
  have q2 : decide (32 < w) = false := by simpa using h2
  by_cases h3 : nh = 2
  rotate_left
  · have q3 : ((nh : Int) != 2) = true := by simp; omega
    have He := Lib.hid (show r = false from by rw [Hv.out, decide_eq_false h3]; simp)
    clear h1 h2 h3
    go_enter Tryd.func68, Tryd.ntmps68
    go_wp2
    go_ret
    exact ⟨ret_bool He.out.symm, rfl⟩
  have q3 : ((nh : Int) != 2) = false := by simp; omega
  have Hv2 := Lib.hid (show r = !hs.any fun x => !B.isW w x from by rw [Hv.out, decide_eq_true (show 1 ≤ w by omega), decide_eq_true (show w ≤ 32 by omega), decide_eq_true h3]; rfl)
  clear h1 h2 h3 Hv
  go_enter Tryd.func68, Tryd.ntmps68
  go_wp2
  clear q1 q2 q3
  go_loop [5] (fun i => ∃ j : Nat, j ≤ nh ∧ i = .int .i64 (j : Int) ∧ Hid ((hs.take j).any (fun x => !B.isW w x) = false)) (fun i => nh - (intOf i).toNat)
  case atStart => exact ⟨0, Nat.zero_le _, rfl, Lib.hid rfl⟩
  case round =>
    obtain ⟨j, hj, rfl, Hany⟩ := hrel
    by_cases hlt : j < nh
    · obtain ⟨x, b, off, u, hx, rfl, hb, hc, rfl⟩ := HH.out.at_ hlt
      have hx0 := H0.out x (List.mem_of_getElem? hx)
      have HI := Lib.hid (isWord_any w x W hx0.1 hx0.2)
      have Hx := Lib.hid hx
      obtain ⟨f, hf⟩ : ∃ f, B.isW w x = f := ⟨_, rfl⟩
      rw [hf] at HI
      have Hf := Lib.hid hf
      clear hx hb hx0 hf
      cases f with
      | true =>
        have Ht := Lib.hid (show (hs.take (j + 1)).any (fun x => !B.isW w x) = false from any_take_step Hx.out Hany.out (by rw [Hf.out]; rfl))
        go_wp2_with fail
        (with_reducible refine HI.out.mono ?_)
        rintro e w' ⟨rfl, rfl⟩
        go_wp2
        go_round
        case rel => exact ⟨j + 1, by omega, by go_num, Ht⟩
        case measure => simp [intOf]; omega
      | false =>
        have Ht := Lib.hid (show r = false from by rw [Hv2.out, any_true_at Hx.out (by rw [Hf.out]; rfl)]; rfl)
        go_wp2_with fail
        (with_reducible refine HI.out.mono ?_)
        rintro e w' ⟨rfl, rfl⟩
        go_wp2
        go_ret
        exact ⟨ret_bool Ht.out.symm, rfl⟩
    · obtain rfl : j = nh := by omega
      have Ht := Lib.hid (show r = true from by
        have := Hany.out
        rw [List.take_of_length_le (by rw [Hlh.out]; exact Nat.le_refl _)] at this
        rw [Hv2.out, this]; rfl)
      go_wp2
      go_ret
      exact ⟨ret_bool Ht.out.symm, rfl⟩

/-- a precondition's test, told of numbers -/
def R.condN (kd n w ii : Int) (ones : Int) : Bool := if kd = 0 then (n != 0) else if kd = 1 then (ones == 1) else if kd = 2 then decide (n < w) else if kd = 3 then (n % 2 == 1) else (n != ii)

set_option maxRecDepth 100000 in
set_option maxHeartbeats 4000000 in
theorem rmeets_any {r : R.Rl} {w : Nat} {hs : List Int} {nl cl nr cr np cp ch : Nat} {AL AR AP Ah : Option Addr} {W : World} (hP : StAt 3 CdR W AP np r.pre) (hH : SlAt (IntR .u32) W Ah 2 hs) (hp : r.pre.all R.cdOk = true) (hw : B.isWd w = true) (hh : R.HsOk w hs) :
    Calls Tryd.prog 69 #[.agg #[.slice AL nl cl, .slice AR nr cr, .slice AP np cp], .int .i64 (w : Int), .slice Ah 2 ch] W fun e W' => e = .returned (.bool (r.pre.all (R.cond w hs))) ∧ Below W.heap.size W W' := by
  have hl := hP.len
  have hle := hP.le
  obtain ⟨W1, hW1⟩ : ∃ W1, W1 = W.alloc (.cells #[.slice AL nl cl, .slice AR nr cr, .slice AP np cp] 25) := ⟨_, rfl⟩
  have hb1 : Below W.heap.size W W1 := by rw [hW1]; exact (Below.refl _ _).alloc (Nat.le_refl _) _
  have hr1 : W1.heap[W.heap.size]? = some (.cells #[.slice AL nl cl, .slice AR nr cr, .slice AP np cp] 25 (0, 0)) := by rw [hW1]; exact heap_alloc_new W _
  have Hr1 := Lib.hid (fun (X : World) (h : Below W1.heap.size W1 X) => (h.block _ (Array.getElem?_eq_some_iff.1 hr1).1).trans hr1)
  have hwd := B.isWd_iff.1 hw
  have HP := Lib.hid (hP.below monoCd hb1)
  have HH := Lib.hid (hH.below (monoInt _) hb1)
  have Hp := Lib.hid hp
  have Hw := Lib.hid hw
  have Hh := Lib.hid hh
  have Hl := Lib.hid hl
  have Hb1 := Lib.hid hb1
  have HW1 := Lib.hid hW1
  clear hP hH hp hw hh hl hb1 hr1 hW1
  go_enter Tryd.func69, Tryd.ntmps69
  go_wp2
  rw [← HW1.out]
  go_loopg [7] (np + 1) (fun gg i wr => ∃ (j : Nat), j ≤ np ∧ i = .int .i64 (j : Int) ∧ gg + j = np + 1 ∧ Hid (Below W1.heap.size W1 wr) ∧ Hid ((r.pre.take j).all (R.cond w hs) = true))
  case atStart => exact ⟨0, Nat.zero_le _, rfl, rfl, Lib.hid (Below.refl _ _), Lib.hid rfl⟩
  case round =>
    obtain ⟨j, hj, rfl, hgk, Hbw, Hall⟩ := hrel
    have Hgk := Lib.hid hgk; clear hgk
    obtain ⟨_, _, y2, _⟩ := rl_cells (Hr1.out _ Hbw.out)
    by_cases hjn : j < np
    · obtain ⟨x, b, off, hx, rfl, hb, d0, d1, d2, i0, i1⟩ := cd_cells (HP.out.below monoCd Hbw.out) hjn
      have hok : R.cdOk x = true := List.all_eq_true.1 Hp.out x (List.mem_of_getElem? hx)
      unfold R.cdOk at hok
      simp only [Bool.and_eq_true, decide_eq_true_eq] at hok
      obtain ⟨⟨⟨⟨o1, o2⟩, o3⟩, o4⟩, _⟩ := hok
      obtain ⟨hn, hhn⟩ : ∃ hn : Nat, x.hole = hn := ⟨x.hole.toNat, by omega⟩
      have hh2 : hn < 2 := by omega
      obtain ⟨nI, bh, offh, u, hnx, rfl, hbh, hc, rfl⟩ := (HH.out.below (monoInt _) Hbw.out).at_ hh2
      have hnw := Hh.out.2 nI (List.mem_of_getElem? hnx)
      obtain ⟨n, rfl⟩ : ∃ n : Nat, nI = n := ⟨nI.toNat, by omega⟩
      have hn32 : n < 4294967296 := by
        have h1 := (isW_u32 hnw.2 hnw.1).2
        omega
      obtain ⟨X1, hX1⟩ : ∃ X1, X1 = wr.alloc (.cells #[.int .i64 x.kind, .int .i64 x.hole, .int .u32 x.imm] 85) := ⟨_, rfl⟩
      have hbX : Below wr.heap.size wr X1 := by rw [hX1]; exact (Below.refl _ _).alloc (Nat.le_refl _) _
      have hrX : X1.heap[wr.heap.size]? = some (.cells #[.int .i64 x.kind, .int .i64 x.hole, .int .u32 x.imm] 85 (0, 0)) := by rw [hX1]; exact heap_alloc_new wr _
      obtain ⟨e0, e1, e2, _⟩ := rl_cells hrX
      have HB3 := Lib.hid (Hbw.out.trans (hbX.mono Hbw.out.size))
      have hc' := (hbX.cell (p := ⟨bh, offh + hn, none⟩) hbh).trans hc
      have HOn := Lib.hid (rOnes_any w n X1 hnw.2 hn32)
      have HOf := Lib.hid (rOf_any w x.imm X1 Hw.out (by omega) (by omega))
      have Hc := Lib.hid (show R.cond w hs x = R.condN x.kind n w (x.imm % B.pw w) (B.onesN w n : Int) from by
        have hg : hs.getD x.hole.toNat 0 = (n : Int) := by rw [hhn, Int.toNat_natCast, List.getD_eq_getElem?_getD, hnx]; rfl
        have hn2 : n < 2 ^ w := by
          have := (B.isW_iff.1 hnw.2).2.2
          rw [B.pw_natk] at this
          omega
        have ho : B.onesN 32 n = B.onesN w n := B.onesN_wide (by omega) hn2
        unfold R.cond R.condN
        rw [hg, Int.toNat_natCast, ho])
      have Hx := Lib.hid hx
      obtain ⟨kd, hi, im⟩ := x
      dsimp only at *
      have Hb := Lib.hid (show R.cond w hs ⟨kd, hi, im⟩ = R.cond w hs ⟨kd, hi, im⟩ from rfl)
      obtain ⟨ii, hii⟩ : ∃ ii, im % B.pw w = ii := ⟨_, rfl⟩
      rw [hii] at HOf Hc
      obtain ⟨on, hon⟩ : ∃ on, B.onesN w n = on := ⟨_, rfl⟩
      have HO1 := Lib.hid (show (B.onesN w n : Int) = (on : Int) from by rw [hon])
      have hi64 : wrap64 im = im := by unfold wrap64; omega
      subst hhn
      have HX1 := Lib.hid hX1
      rw [hX1] at e0 e1 e2 hc'
      clear hx hb hnx hbh hnw hX1 hbX hrX hii hon
      rcases (show kd = 0 ∨ kd = 1 ∨ kd = 2 ∨ kd = 3 ∨ kd = 4 by omega) with rfl | rfl | rfl | rfl | rfl
      · have Hc2 := Lib.hid (show R.cond w hs ⟨0, (hn : Int), im⟩ = ((n : Int) != 0) from by rw [Hc.out]; unfold R.condN; rfl)
        by_cases hq : ((n : Int) != 0) = true
        · have Hn := Lib.hid (Hc2.out.trans hq)
          clear Hc Hc2
          go_wp2_with fail
          rw [← HX1.out]
          rw [← HX1.out] at e0 e1 e2 hc'
          (with_reducible refine HOn.out.mono ?_)
          rintro e w5 ⟨rfl, rfl⟩
          go_wp2_with fail
          (with_reducible refine HOf.out.mono ?_)
          rintro e w6 ⟨rfl, rfl⟩
          go_wp2
          go_roundg (gk - 1)
          case measure => have := Hgk.out; omega
          case rel =>
            have := Hgk.out
            exact ⟨j + 1, by omega, by go_num, by omega, HB3, Lib.hid (by rw [take_next Hx.out, List.all_append, Hall.out]; simp [Hn.out])⟩
        · have hq : ((n : Int) != 0) = false := by simpa using hq
          have Hn := Lib.hid (Hc2.out.trans hq)
          clear Hc Hc2
          go_wp2_with fail
          rw [← HX1.out]
          rw [← HX1.out] at e0 e1 e2 hc'
          (with_reducible refine HOn.out.mono ?_)
          rintro e w5 ⟨rfl, rfl⟩
          go_wp2_with fail
          (with_reducible refine HOf.out.mono ?_)
          rintro e w6 ⟨rfl, rfl⟩
          go_wp2
          go_ret
          have hf : r.pre.all (R.cond w hs) = false := by rw [List.all_eq_false]; exact ⟨_, List.mem_of_getElem? Hx.out, by rw [Hn.out]; simp⟩
          exact ⟨ret_bool (by rw [hf]), Hb1.out.trans (HB3.out.mono Hb1.out.size)⟩
      · have Hc2 := Lib.hid (show R.cond w hs ⟨1, (hn : Int), im⟩ = ((B.onesN w n : Int) == 1) from by rw [Hc.out]; unfold R.condN; rfl)
        by_cases hq : ((B.onesN w n : Int) == 1) = true
        · have Hn := Lib.hid (Hc2.out.trans hq)
          clear Hc Hc2
          go_wp2_with fail
          rw [← HX1.out]
          rw [← HX1.out] at e0 e1 e2 hc'
          (with_reducible refine HOn.out.mono ?_)
          rintro e w5 ⟨rfl, rfl⟩
          go_wp2_with fail
          (with_reducible refine HOf.out.mono ?_)
          rintro e w6 ⟨rfl, rfl⟩
          go_wp2
          go_roundg (gk - 1)
          case measure => have := Hgk.out; omega
          case rel =>
            have := Hgk.out
            exact ⟨j + 1, by omega, by go_num, by omega, HB3, Lib.hid (by rw [take_next Hx.out, List.all_append, Hall.out]; simp [Hn.out])⟩
        · have hq : ((B.onesN w n : Int) == 1) = false := by simpa using hq
          have Hn := Lib.hid (Hc2.out.trans hq)
          clear Hc Hc2
          go_wp2_with fail
          rw [← HX1.out]
          rw [← HX1.out] at e0 e1 e2 hc'
          (with_reducible refine HOn.out.mono ?_)
          rintro e w5 ⟨rfl, rfl⟩
          go_wp2_with fail
          (with_reducible refine HOf.out.mono ?_)
          rintro e w6 ⟨rfl, rfl⟩
          go_wp2
          go_ret
          have hf : r.pre.all (R.cond w hs) = false := by rw [List.all_eq_false]; exact ⟨_, List.mem_of_getElem? Hx.out, by rw [Hn.out]; simp⟩
          exact ⟨ret_bool (by rw [hf]), Hb1.out.trans (HB3.out.mono Hb1.out.size)⟩
      · have Hc2 := Lib.hid (show R.cond w hs ⟨2, (hn : Int), im⟩ = decide ((n : Int) < (w : Int)) from by rw [Hc.out]; unfold R.condN; rfl)
        by_cases hq : decide ((n : Int) < (w : Int)) = true
        · have Hn := Lib.hid (Hc2.out.trans hq)
          have hq2 : decide (n < w) = true := by have := hq; simp at this ⊢; omega
          clear Hc Hc2
          go_wp2_with fail
          rw [← HX1.out]
          rw [← HX1.out] at e0 e1 e2 hc'
          (with_reducible refine HOn.out.mono ?_)
          rintro e w5 ⟨rfl, rfl⟩
          go_wp2_with fail
          (with_reducible refine HOf.out.mono ?_)
          rintro e w6 ⟨rfl, rfl⟩
          go_wp2
          go_roundg (gk - 1)
          case measure => have := Hgk.out; omega
          case rel =>
            have := Hgk.out
            exact ⟨j + 1, by omega, by go_num, by omega, HB3, Lib.hid (by rw [take_next Hx.out, List.all_append, Hall.out]; simp [Hn.out])⟩
        · have hq : decide ((n : Int) < (w : Int)) = false := by simpa using hq
          have Hn := Lib.hid (Hc2.out.trans hq)
          have hq2 : decide (n < w) = false := by have := hq; simp at this ⊢; omega
          clear Hc Hc2
          go_wp2_with fail
          rw [← HX1.out]
          rw [← HX1.out] at e0 e1 e2 hc'
          (with_reducible refine HOn.out.mono ?_)
          rintro e w5 ⟨rfl, rfl⟩
          go_wp2_with fail
          (with_reducible refine HOf.out.mono ?_)
          rintro e w6 ⟨rfl, rfl⟩
          go_wp2
          go_ret
          have hf : r.pre.all (R.cond w hs) = false := by rw [List.all_eq_false]; exact ⟨_, List.mem_of_getElem? Hx.out, by rw [Hn.out]; simp⟩
          exact ⟨ret_bool (by rw [hf]), Hb1.out.trans (HB3.out.mono Hb1.out.size)⟩
      · have Hc2 := Lib.hid (show R.cond w hs ⟨3, (hn : Int), im⟩ = ((n : Int) % 2 == 1) from by rw [Hc.out]; unfold R.condN; rfl)
        by_cases hq : ((n : Int) % 2 == 1) = true
        · have Hn := Lib.hid (Hc2.out.trans hq)
          clear Hc Hc2
          go_wp2_with fail
          rw [← HX1.out]
          rw [← HX1.out] at e0 e1 e2 hc'
          (with_reducible refine HOn.out.mono ?_)
          rintro e w5 ⟨rfl, rfl⟩
          go_wp2_with fail
          (with_reducible refine HOf.out.mono ?_)
          rintro e w6 ⟨rfl, rfl⟩
          go_wp2
          go_roundg (gk - 1)
          case measure => have := Hgk.out; omega
          case rel =>
            have := Hgk.out
            exact ⟨j + 1, by omega, by go_num, by omega, HB3, Lib.hid (by rw [take_next Hx.out, List.all_append, Hall.out]; simp [Hn.out])⟩
        · have hq : ((n : Int) % 2 == 1) = false := by simpa using hq
          have Hn := Lib.hid (Hc2.out.trans hq)
          clear Hc Hc2
          go_wp2_with fail
          rw [← HX1.out]
          rw [← HX1.out] at e0 e1 e2 hc'
          (with_reducible refine HOn.out.mono ?_)
          rintro e w5 ⟨rfl, rfl⟩
          go_wp2_with fail
          (with_reducible refine HOf.out.mono ?_)
          rintro e w6 ⟨rfl, rfl⟩
          go_wp2
          go_ret
          have hf : r.pre.all (R.cond w hs) = false := by rw [List.all_eq_false]; exact ⟨_, List.mem_of_getElem? Hx.out, by rw [Hn.out]; simp⟩
          exact ⟨ret_bool (by rw [hf]), Hb1.out.trans (HB3.out.mono Hb1.out.size)⟩
      · have Hc2 := Lib.hid (show R.cond w hs ⟨4, (hn : Int), im⟩ = ((n : Int) != ii) from by rw [Hc.out]; unfold R.condN; rfl)
        by_cases hq : ((n : Int) != ii) = true
        · have Hn := Lib.hid (Hc2.out.trans hq)
          clear Hc Hc2
          go_wp2_with fail
          rw [← HX1.out]
          rw [← HX1.out] at e0 e1 e2 hc'
          (with_reducible refine HOn.out.mono ?_)
          rintro e w5 ⟨rfl, rfl⟩
          go_wp2_with fail
          (with_reducible refine HOf.out.mono ?_)
          rintro e w6 ⟨rfl, rfl⟩
          go_wp2
          go_roundg (gk - 1)
          case measure => have := Hgk.out; omega
          case rel =>
            have := Hgk.out
            exact ⟨j + 1, by omega, by go_num, by omega, HB3, Lib.hid (by rw [take_next Hx.out, List.all_append, Hall.out]; simp [Hn.out])⟩
        · have hq : ((n : Int) != ii) = false := by simpa using hq
          have Hn := Lib.hid (Hc2.out.trans hq)
          clear Hc Hc2
          go_wp2_with fail
          rw [← HX1.out]
          rw [← HX1.out] at e0 e1 e2 hc'
          (with_reducible refine HOn.out.mono ?_)
          rintro e w5 ⟨rfl, rfl⟩
          go_wp2_with fail
          (with_reducible refine HOf.out.mono ?_)
          rintro e w6 ⟨rfl, rfl⟩
          go_wp2
          go_ret
          have hf : r.pre.all (R.cond w hs) = false := by rw [List.all_eq_false]; exact ⟨_, List.mem_of_getElem? Hx.out, by rw [Hn.out]; simp⟩
          exact ⟨ret_bool (by rw [hf]), Hb1.out.trans (HB3.out.mono Hb1.out.size)⟩
    · obtain rfl : j = np := by omega
      have Ht := Lib.hid (show r.pre.all (R.cond w hs) = true from by
        have := Hall.out
        rw [List.take_of_length_le (by rw [Hl.out]; exact Nat.le_refl _)] at this
        exact this)
      go_wp2
      go_ret
      exact ⟨ret_bool Ht.out.symm, Hb1.out.trans (Hbw.out.mono Hb1.out.size)⟩
end Go.Proofs.YtmebpgggfppmhaaDoor
end
