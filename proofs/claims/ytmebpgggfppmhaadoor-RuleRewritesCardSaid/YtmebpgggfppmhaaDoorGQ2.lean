/- Rules: the reference's Of, Trailing, Ones. -/
import Derived.Test.YtmebpgggfppmhaaDoorGQ1
import Derived.Deep.DeepCutAuto
set_option linter.unusedVariables false
set_option linter.unusedSimpArgs false
section
namespace Go.Proofs.YtmebpgggfppmhaaDoor
open Go.RowKit
set_option linter.unusedVariables false
set_option linter.unusedSimpArgs false

namespace B
theorem div_two (x i : Nat) : x / 2 / 2 ^ i = x / 2 ^ (i + 1) := by rw [Nat.div_div_eq_div_mul, Nat.pow_succ, Nat.mul_comm]
theorem ctzFrom_ge : ∀ (k f x : Nat), k ≤ f → (∀ i, i < k → x / 2 ^ i % 2 = 0) → k ≤ Lib.ctzFrom f x := by
  intro k
  induction k with
  | zero => intro f x _ _; omega
  | succ k ih =>
    intro f x hf h
    obtain ⟨f, rfl⟩ : ∃ g, f = g + 1 := ⟨f - 1, by omega⟩
    have h0 := h 0 (by omega)
    simp at h0
    unfold Lib.ctzFrom
    rw [if_neg (by omega)]
    have := ih f (x / 2) (by omega) (fun i hi => by rw [div_two]; exact h (i + 1) (by omega))
    omega
theorem ctzFrom_le : ∀ (k f x : Nat), x / 2 ^ k % 2 = 1 → Lib.ctzFrom f x ≤ k := by
  intro k
  induction k with
  | zero =>
    intro f x h
    simp at h
    cases f with
    | zero => simp [Lib.ctzFrom]
    | succ f => unfold Lib.ctzFrom; rw [if_pos h]; omega
  | succ k ih =>
    intro f x h
    cases f with
    | zero => simp [Lib.ctzFrom]
    | succ f =>
      unfold Lib.ctzFrom
      split
      · omega
      · have := ih f (x / 2) (by rw [div_two]; exact h)
        omega
theorem trl_of {w x k : Nat} (hw : w ≤ 32) (hk : k ≤ w) (h1 : ∀ i, i < k → x / 2 ^ i % 2 = 0) (h2 : k = w ∨ x / 2 ^ k % 2 = 1) : trl (w : Int) (x : Int) = (k : Int) := by
  unfold trl
  simp only [Int.toNat_natCast]
  have hge : k ≤ Lib.ctz 32 x := by
    unfold Lib.ctz
    split
    · omega
    · exact ctzFrom_ge k 32 x (by omega) h1
  rcases h2 with h2 | h2
  · omega
  · have hle : Lib.ctz 32 x ≤ k := by
      unfold Lib.ctz
      split
      · rename_i e; subst e; simp at h2
      · exact ctzFrom_le k 32 x h2
    omega
theorem onesN_snoc : ∀ (i n : Nat), onesN (i + 1) n = onesN i n + n / 2 ^ i % 2 := by
  intro i
  induction i with
  | zero => intro n; simp [onesN]
  | succ i ih =>
    intro n
    have h1 : onesN (i + 1 + 1) n = n % 2 + onesN (i + 1) (n / 2) := rfl
    have h2 : onesN (i + 1) n = n % 2 + onesN i (n / 2) := rfl
    rw [h1, h2, ih, div_two]
    omega
theorem onesN_z0 : ∀ (i : Nat), onesN i 0 = 0 := by
  intro i
  induction i with
  | zero => rfl
  | succ i ih => show 0 % 2 + onesN i (0 / 2) = 0; simp [ih]
theorem onesN_wide {w x : Nat} (hw : w ≤ 32) (hx : x < 2 ^ w) : onesN 32 x = onesN w x := by
  have h := onesN_add w (32 - w) x
  rw [show w + (32 - w) = 32 by omega, Nat.mod_eq_of_lt hx, Nat.div_eq_of_lt hx, onesN_z0] at h
  omega
theorem onesN_lei : ∀ (i n : Nat), onesN i n ≤ i := by
  intro i
  induction i with
  | zero => intro n; exact Nat.le_refl _
  | succ i ih => intro n; show n % 2 + onesN i (n / 2) ≤ i + 1; have := ih (n / 2); omega
theorem pw_natk (k : Nat) : pw (k : Int) = ((2 ^ k : Nat) : Int) := by unfold pw; simp
end B

theorem rOf_any (n x : Int) (W : World) (h : B.isWd n = true) (h2 : -9223372036854775808 ≤ x) (h3 : x ≤ 9223372036854775807) : Calls Tryd.prog 76 #[.int .i64 n, .int .i64 x] W fun e w' => e = .returned (.tuple #[.int .u32 (x % B.pw n), .int .i64 0]) ∧ W = w' := by
  have hb := B.isWd_iff.1 h
  have HW := Lib.hid (risWidth_any n W)
  have HR := Lib.hid (wrap_any n x W (by omega) (by omega) h2 h3)
  rw [h] at HW
  generalize x % B.pw n = r at HR ⊢
  clear h hb h2 h3
  go_enter Tryd.func76, Tryd.ntmps76
  go_wp2_with fail
  (with_reducible refine HW.out.mono ?_)
  rintro e w' ⟨rfl, rfl⟩
  go_wp2_with fail
  (with_reducible refine HR.out.mono ?_)
  rintro e w' ⟨rfl, rfl⟩
  go_wp2
  go_ret2
  exact ⟨rfl, rfl⟩

set_option maxRecDepth 100000 in
theorem rTrailing_any (n x : Nat) (W : World) (h : B.isW (n : Int) (x : Int) = true) (hx : x < 4294967296) : Calls Tryd.prog 77 #[.int .i64 (n : Int), .int .u32 (x : Int)] W fun e w' => e = .returned (.tuple #[.int .i64 (B.trl n x), .int .i64 0]) ∧ W = w' := by
  have hb := B.isW_iff.1 h
  have HW := Lib.hid (isWord_any n x W (by omega) (by omega))
  rw [h] at HW
  have hn : n ≤ 32 := by omega
  obtain ⟨r, hr⟩ : ∃ r, B.trl n x = r := ⟨_, rfl⟩
  have Hr := Lib.hid hr
  rw [hr]
  clear h hb hr
  go_enter Tryd.func77, Tryd.ntmps77
  go_wp2_with fail
  (with_reducible refine HW.out.mono ?_)
  rintro e w' ⟨rfl, rfl⟩
  go_wp2
  go_loop [6] (fun i => ∃ k : Nat, k ≤ n ∧ i = .int .i64 (k : Int) ∧ Hid (∀ i, i < k → x / 2 ^ i % 2 = 0)) (fun i => n - (intOf i).toNat)
  case atStart => exact ⟨0, Nat.zero_le _, rfl, Lib.hid (fun i hi => by omega)⟩
  case round =>
    obtain ⟨k, hk, rfl, Hk⟩ := hrel
    by_cases hlt : k < n
    · have hpw := B.pw_natk k
      have hp0 : 0 < 2 ^ k := Nat.pow_pos (by omega)
      have hp1 : 2 ^ k ≤ 2 ^ 32 := Nat.pow_le_pow_right (by omega) (by omega)
      have HS := Lib.hid (rsize_any (k : Int) W (by omega) (by omega))
      rw [hpw] at HS
      obtain ⟨p, hp⟩ : ∃ p, 2 ^ k = p := ⟨_, rfl⟩
      rw [hp] at HS hp0 hp1
      have Hp := Lib.hid hp
      have hq0 : 0 ≤ (x : Int) / (p : Int) := Int.ediv_nonneg (by omega) (by omega)
      have hq1 : (x : Int) / (p : Int) ≤ 4294967296 := by
        have := Nat.div_le_self x p
        have e : (x : Int) / (p : Int) = ((x / p : Nat) : Int) := by simp
        omega
      have hp2 : (p : Int) ≤ 4294967296 := by omega
      have hp3 : 1 ≤ (p : Int) := by omega
      have e : (x : Int) / (p : Int) % 2 = ((x / p % 2 : Nat) : Int) := by simp
      have E := Lib.hid e
      clear hpw hp hp0 hp1 e
      by_cases hz : x / p % 2 = 0
      · have q : ((x : Int) / (p : Int) % 2 == 0) = true := by rw [E.out, hz]; rfl
        have Ht := Lib.hid (show ∀ i, i < k + 1 → x / 2 ^ i % 2 = 0 from fun i hi => by
          rcases Nat.lt_or_ge i k with h | h
          · exact Hk.out i h
          · obtain rfl : i = k := by omega
            rw [Hp.out]; exact hz)
        clear hz
        go_wp2_with fail
        (with_reducible refine HS.out.mono ?_)
        rintro e w' ⟨rfl, rfl⟩
        go_wp2
        go_round
        case rel => exact ⟨k + 1, by omega, by go_num, Ht⟩
        case measure => simp [intOf]; omega
      · have q : ((x : Int) / (p : Int) % 2 == 0) = false := by rw [E.out]; simp; omega
        have Ht := Lib.hid (show r = (k : Int) from by rw [← Hr.out]; exact B.trl_of hn hk Hk.out (.inr (by rw [Hp.out]; omega)))
        clear hz
        go_wp2_with fail
        (with_reducible refine HS.out.mono ?_)
        rintro e w' ⟨rfl, rfl⟩
        go_wp2
        go_ret2
        exact ⟨by rw [Ht.out]; rfl, rfl⟩
    · obtain rfl : k = n := by omega
      have Ht := Lib.hid (show r = (k : Int) from by rw [← Hr.out]; exact B.trl_of hn hk Hk.out (.inl rfl))
      go_wp2
      go_ret2
      exact ⟨by rw [Ht.out]; rfl, rfl⟩

set_option maxRecDepth 100000 in
theorem rOnes_any (n x : Nat) (W : World) (h : B.isW (n : Int) (x : Int) = true) (hx : x < 4294967296) : Calls Tryd.prog 93 #[.int .i64 (n : Int), .int .u32 (x : Int)] W fun e w' => e = .returned (.tuple #[.int .i64 (B.onesN n x : Int), .int .i64 0]) ∧ W = w' := by
  have hb := B.isW_iff.1 h
  have HW := Lib.hid (isWord_any n x W (by omega) (by omega))
  rw [h] at HW
  have hn : n ≤ 32 := by omega
  obtain ⟨r, hr⟩ : ∃ r, B.onesN n x = r := ⟨_, rfl⟩
  have Hr := Lib.hid hr
  rw [hr]
  clear h hb hr
  go_enter Tryd.func93, Tryd.ntmps93
  go_wp2_with fail
  (with_reducible refine HW.out.mono ?_)
  rintro e w' ⟨rfl, rfl⟩
  go_wp2
  go_loop [6, 7] (fun s i => ∃ k m : Nat, k ≤ n ∧ i = .int .i64 (k : Int) ∧ s = .int .i64 (m : Int) ∧ m ≤ k ∧ Hid (m = B.onesN k x)) (fun _ i => n - (intOf i).toNat)
  case atStart => exact ⟨0, 0, Nat.zero_le _, rfl, rfl, Nat.le_refl _, Lib.hid rfl⟩
  case round =>
    obtain ⟨k, m, hk, rfl, rfl, hm, Hm⟩ := hrel
    by_cases hlt : k < n
    · have hpw := B.pw_natk k
      have hp0 : 0 < 2 ^ k := Nat.pow_pos (by omega)
      have hp1 : 2 ^ k ≤ 2 ^ 32 := Nat.pow_le_pow_right (by omega) (by omega)
      have HS := Lib.hid (rsize_any (k : Int) W (by omega) (by omega))
      rw [hpw] at HS
      have Ht := Lib.hid (B.onesN_snoc k x)
      obtain ⟨p, hp⟩ : ∃ p, 2 ^ k = p := ⟨_, rfl⟩
      rw [hp] at HS hp0 hp1 Ht
      have hq0 : 0 ≤ (x : Int) / (p : Int) := Int.ediv_nonneg (by omega) (by omega)
      have hq1 : (x : Int) / (p : Int) ≤ 4294967296 := by
        have := Nat.div_le_self x p
        have e : (x : Int) / (p : Int) = ((x / p : Nat) : Int) := by simp
        omega
      have hp2 : (p : Int) ≤ 4294967296 := by omega
      have hp3 : 1 ≤ (p : Int) := by omega
      have e : (x : Int) / (p : Int) % 2 = ((x / p % 2 : Nat) : Int) := by simp
      have E := Lib.hid e
      have hb2 : x / p % 2 ≤ 1 := by omega
      have Hb2 := Lib.hid hb2
      clear hpw hp hp0 hp1 e hb2
      have hr2 : 0 ≤ (x : Int) / (p : Int) % 2 ∧ (x : Int) / (p : Int) % 2 ≤ 1 := by omega
      go_wp2_with fail
      (with_reducible refine HS.out.mono ?_)
      rintro e w' ⟨rfl, rfl⟩
      go_wp2
      go_round
      case rel =>
        refine ⟨k + 1, m + x / p % 2, by omega, by go_num, ?_, by have := Hb2.out; omega, Lib.hid (by rw [Ht.out, ← Hm.out])⟩
        rw [E.out]
        congr 1
      case measure => simp [intOf]; omega
    · obtain rfl : k = n := by omega
      have Ht := Lib.hid (show r = m from by rw [← Hr.out, Hm.out])
      go_wp2
      go_ret2
      exact ⟨by rw [Ht.out]; rfl, rfl⟩
end Go.Proofs.YtmebpgggfppmhaaDoor
end
section
namespace Go.Proofs.YtmebpgggfppmhaaDoor
open Go.RowKit
set_option linter.unusedVariables false
set_option linter.unusedSimpArgs false

/-- a precondition's test, told of numbers -/
def R.condN (kd n w ii : Int) (ones : Int) : Bool := if kd = 0 then (n != 0) else if kd = 1 then (ones == 1) else if kd = 2 then decide (n < w) else if kd = 3 then (n % 2 == 1) else (n != ii)

set_option maxRecDepth 100000 in
set_option maxHeartbeats 4000000 in
theorem rmeets_any {r : R.Rl} {w : Nat} {hs : List Int} {nl cl nr cr np cp ch : Nat} {AL AR AP Ah : Option Addr} {W : World} (hP : StAt 3 CdR W AP np r.pre) (hH : SlAt (IntR .u32) W Ah 2 hs) (hp : r.pre.all R.cdOk = true) (hw : B.isWd w = true) (hh : R.HsOk w hs) :
    Calls Tryd.prog 69 #[.agg #[.slice AL nl cl, .slice AR nr cr, .slice AP np cp], .int .i64 (w : Int), .slice Ah 2 ch] W fun e W' => e = .returned (.bool (r.pre.all (R.cond w hs))) ∧ Below W.heap.size W W' := by
  have hl := hP.len
  have hle := hP.le
  obtain ⟨W1, hW1⟩ : ∃ W1, W1 = W.alloc (.cells #[.slice AL nl cl, .slice AR nr cr, .slice AP np cp] 25) := ⟨_, rfl⟩
  have hb1 : Below W.heap.size W W1 := by rw [hW1]; exact (Below.refl _ _).alloc (Nat.le_refl _) _
  have hr1 : W1.heap[W.heap.size]? = some (.cells #[.slice AL nl cl, .slice AR nr cr, .slice AP np cp] 25 (0, 0)) := by rw [hW1]; exact heap_alloc_new W _
  have Hr1 := Lib.hid (fun (X : World) (h : Below W1.heap.size W1 X) => (h.block _ (Array.getElem?_eq_some_iff.1 hr1).1).trans hr1)
  have hwd := B.isWd_iff.1 hw
  have HP := Lib.hid (hP.below monoCd hb1)
  have HH := Lib.hid (hH.below (monoInt _) hb1)
  have Hp := Lib.hid hp
  have Hw := Lib.hid hw
  have Hh := Lib.hid hh
  have Hl := Lib.hid hl
  have Hb1 := Lib.hid hb1
  have HW1 := Lib.hid hW1
  clear hP hH hp hw hh hl hb1 hr1 hW1
  go_enter Tryd.func69, Tryd.ntmps69
  go_wp2
  rw [← HW1.out]
  go_loopg [7] (np + 1) (fun gg i wr => ∃ (j : Nat), j ≤ np ∧ i = .int .i64 (j : Int) ∧ gg + j = np + 1 ∧ Hid (Below W1.heap.size W1 wr) ∧ Hid ((r.pre.take j).all (R.cond w hs) = true))
  case atStart => exact ⟨0, Nat.zero_le _, rfl, rfl, Lib.hid (Below.refl _ _), Lib.hid rfl⟩
  case round =>
    obtain ⟨j, hj, rfl, hgk, Hbw, Hall⟩ := hrel
    have Hgk := Lib.hid hgk; clear hgk
    obtain ⟨_, _, y2, _⟩ := rl_cells (Hr1.out _ Hbw.out)
    by_cases hjn : j < np
    · obtain ⟨x, b, off, hx, rfl, hb, d0, d1, d2, i0, i1⟩ := cd_cells (HP.out.below monoCd Hbw.out) hjn
      have hok : R.cdOk x = true := List.all_eq_true.1 Hp.out x (List.mem_of_getElem? hx)
      unfold R.cdOk at hok
      simp only [Bool.and_eq_true, decide_eq_true_eq] at hok
      obtain ⟨⟨⟨⟨o1, o2⟩, o3⟩, o4⟩, _⟩ := hok
      obtain ⟨hn, hhn⟩ : ∃ hn : Nat, x.hole = hn := ⟨x.hole.toNat, by omega⟩
      have hh2 : hn < 2 := by omega
      obtain ⟨nI, bh, offh, u, hnx, rfl, hbh, hc, rfl⟩ := (HH.out.below (monoInt _) Hbw.out).at_ hh2
      have hnw := Hh.out.2 nI (List.mem_of_getElem? hnx)
      obtain ⟨n, rfl⟩ : ∃ n : Nat, nI = n := ⟨nI.toNat, by omega⟩
      have hn32 : n < 4294967296 := by
        have h1 := (isW_u32 hnw.2 hnw.1).2
        omega
      obtain ⟨X1, hX1⟩ : ∃ X1, X1 = wr.alloc (.cells #[.int .i64 x.kind, .int .i64 x.hole, .int .u32 x.imm] 85) := ⟨_, rfl⟩
      have hbX : Below wr.heap.size wr X1 := by rw [hX1]; exact (Below.refl _ _).alloc (Nat.le_refl _) _
      have hrX : X1.heap[wr.heap.size]? = some (.cells #[.int .i64 x.kind, .int .i64 x.hole, .int .u32 x.imm] 85 (0, 0)) := by rw [hX1]; exact heap_alloc_new wr _
      obtain ⟨e0, e1, e2, _⟩ := rl_cells hrX
      have HB3 := Lib.hid (Hbw.out.trans (hbX.mono Hbw.out.size))
      have hc' := (hbX.cell (p := ⟨bh, offh + hn, none⟩) hbh).trans hc
      have HOn := Lib.hid (rOnes_any w n X1 hnw.2 hn32)
      have HOf := Lib.hid (rOf_any w x.imm X1 Hw.out (by omega) (by omega))
      have Hc := Lib.hid (show R.cond w hs x = R.condN x.kind n w (x.imm % B.pw w) (B.onesN w n : Int) from by
        have hg : hs.getD x.hole.toNat 0 = (n : Int) := by rw [hhn, Int.toNat_natCast, List.getD_eq_getElem?_getD, hnx]; rfl
        have hn2 : n < 2 ^ w := by
          have := (B.isW_iff.1 hnw.2).2.2
          rw [B.pw_natk] at this
          omega
        have ho : B.onesN 32 n = B.onesN w n := B.onesN_wide (by omega) hn2
        unfold R.cond R.condN
        rw [hg, Int.toNat_natCast, ho])
      have Hx := Lib.hid hx
      obtain ⟨kd, hi, im⟩ := x
      dsimp only at *
      have Hb := Lib.hid (show R.cond w hs ⟨kd, hi, im⟩ = R.cond w hs ⟨kd, hi, im⟩ from rfl)
      obtain ⟨ii, hii⟩ : ∃ ii, im % B.pw w = ii := ⟨_, rfl⟩
      rw [hii] at HOf Hc
      obtain ⟨on, hon⟩ : ∃ on, B.onesN w n = on := ⟨_, rfl⟩
      have HO1 := Lib.hid (show (B.onesN w n : Int) = (on : Int) from by rw [hon])
      have hi64 : wrap64 im = im := by unfold wrap64; omega
      subst hhn
      have HX1 := Lib.hid hX1
      rw [hX1] at e0 e1 e2 hc'
      clear hx hb hnx hbh hnw hX1 hbX hrX hii hon
      rcases (show kd = 0 ∨ kd = 1 ∨ kd = 2 ∨ kd = 3 ∨ kd = 4 by omega) with rfl | rfl | rfl | rfl | rfl
      · have Hc2 := Lib.hid (show R.cond w hs ⟨0, (hn : Int), im⟩ = ((n : Int) != 0) from by rw [Hc.out]; unfold R.condN; rfl)
        by_cases hq : ((n : Int) != 0) = true
        · have Hn := Lib.hid (Hc2.out.trans hq)
          clear Hc Hc2
          go_wp2_with fail
          rw [← HX1.out]
          rw [← HX1.out] at e0 e1 e2 hc'
          (with_reducible refine HOn.out.mono ?_)
          rintro e w5 ⟨rfl, rfl⟩
          go_wp2_with fail
          (with_reducible refine HOf.out.mono ?_)
          rintro e w6 ⟨rfl, rfl⟩
          go_wp2
          go_roundg (gk - 1)
          case measure => have := Hgk.out; omega
          case rel =>
            have := Hgk.out
            exact ⟨j + 1, by omega, by go_num, by omega, HB3, Lib.hid (by rw [take_next Hx.out, List.all_append, Hall.out]; simp [Hn.out])⟩
        · have hq : ((n : Int) != 0) = false := by simpa using hq
          have Hn := Lib.hid (Hc2.out.trans hq)
          clear Hc Hc2
          go_wp2_with fail
          rw [← HX1.out]
          rw [← HX1.out] at e0 e1 e2 hc'
          (with_reducible refine HOn.out.mono ?_)
          rintro e w5 ⟨rfl, rfl⟩
          go_wp2_with fail
          (with_reducible refine HOf.out.mono ?_)
          rintro e w6 ⟨rfl, rfl⟩
          go_wp2
          go_ret
          have hf : r.pre.all (R.cond w hs) = false := by rw [List.all_eq_false]; exact ⟨_, List.mem_of_getElem? Hx.out, by rw [Hn.out]; simp⟩
          exact ⟨ret_bool (by rw [hf]), Hb1.out.trans (HB3.out.mono Hb1.out.size)⟩
      · have Hc2 := Lib.hid (show R.cond w hs ⟨1, (hn : Int), im⟩ = ((B.onesN w n : Int) == 1) from by rw [Hc.out]; unfold R.condN; rfl)
        by_cases hq : ((B.onesN w n : Int) == 1) = true
        · have Hn := Lib.hid (Hc2.out.trans hq)
          clear Hc Hc2
          go_wp2_with fail
          rw [← HX1.out]
          rw [← HX1.out] at e0 e1 e2 hc'
          (with_reducible refine HOn.out.mono ?_)
          rintro e w5 ⟨rfl, rfl⟩
          go_wp2_with fail
          (with_reducible refine HOf.out.mono ?_)
          rintro e w6 ⟨rfl, rfl⟩
          go_wp2
          go_roundg (gk - 1)
          case measure => have := Hgk.out; omega
          case rel =>
            have := Hgk.out
            exact ⟨j + 1, by omega, by go_num, by omega, HB3, Lib.hid (by rw [take_next Hx.out, List.all_append, Hall.out]; simp [Hn.out])⟩
        · have hq : ((B.onesN w n : Int) == 1) = false := by simpa using hq
          have Hn := Lib.hid (Hc2.out.trans hq)
          clear Hc Hc2
          go_wp2_with fail
          rw [← HX1.out]
          rw [← HX1.out] at e0 e1 e2 hc'
          (with_reducible refine HOn.out.mono ?_)
          rintro e w5 ⟨rfl, rfl⟩
          go_wp2_with fail
          (with_reducible refine HOf.out.mono ?_)
          rintro e w6 ⟨rfl, rfl⟩
          go_wp2
          go_ret
          have hf : r.pre.all (R.cond w hs) = false := by rw [List.all_eq_false]; exact ⟨_, List.mem_of_getElem? Hx.out, by rw [Hn.out]; simp⟩
          exact ⟨ret_bool (by rw [hf]), Hb1.out.trans (HB3.out.mono Hb1.out.size)⟩
      · have Hc2 := Lib.hid (show R.cond w hs ⟨2, (hn : Int), im⟩ = decide ((n : Int) < (w : Int)) from by rw [Hc.out]; unfold R.condN; rfl)
        by_cases hq : decide ((n : Int) < (w : Int)) = true
        · have Hn := Lib.hid (Hc2.out.trans hq)
          have hq2 : decide (n < w) = true := by have := hq; simp at this ⊢; omega
          clear Hc Hc2
          go_wp2_with fail
          rw [← HX1.out]
          rw [← HX1.out] at e0 e1 e2 hc'
          (with_reducible refine HOn.out.mono ?_)
          rintro e w5 ⟨rfl, rfl⟩
          go_wp2_with fail
          (with_reducible refine HOf.out.mono ?_)
          rintro e w6 ⟨rfl, rfl⟩
          go_wp2
          go_roundg (gk - 1)
          case measure => have := Hgk.out; omega
          case rel =>
            have := Hgk.out
            exact ⟨j + 1, by omega, by go_num, by omega, HB3, Lib.hid (by rw [take_next Hx.out, List.all_append, Hall.out]; simp [Hn.out])⟩
        · have hq : decide ((n : Int) < (w : Int)) = false := by simpa using hq
          have Hn := Lib.hid (Hc2.out.trans hq)
          have hq2 : decide (n < w) = false := by have := hq; simp at this ⊢; omega
          clear Hc Hc2
          go_wp2_with fail
          rw [← HX1.out]
          rw [← HX1.out] at e0 e1 e2 hc'
          (with_reducible refine HOn.out.mono ?_)
          rintro e w5 ⟨rfl, rfl⟩
          go_wp2_with fail
          (with_reducible refine HOf.out.mono ?_)
          rintro e w6 ⟨rfl, rfl⟩
          go_wp2
          go_ret
          have hf : r.pre.all (R.cond w hs) = false := by rw [List.all_eq_false]; exact ⟨_, List.mem_of_getElem? Hx.out, by rw [Hn.out]; simp⟩
          exact ⟨ret_bool (by rw [hf]), Hb1.out.trans (HB3.out.mono Hb1.out.size)⟩
      · have Hc2 := Lib.hid (show R.cond w hs ⟨3, (hn : Int), im⟩ = ((n : Int) % 2 == 1) from by rw [Hc.out]; unfold R.condN; rfl)
        by_cases hq : ((n : Int) % 2 == 1) = true
        · have Hn := Lib.hid (Hc2.out.trans hq)
          clear Hc Hc2
          go_wp2_with fail
          rw [← HX1.out]
          rw [← HX1.out] at e0 e1 e2 hc'
          (with_reducible refine HOn.out.mono ?_)
          rintro e w5 ⟨rfl, rfl⟩
          go_wp2_with fail
          (with_reducible refine HOf.out.mono ?_)
          rintro e w6 ⟨rfl, rfl⟩
          go_wp2
          go_roundg (gk - 1)
          case measure => have := Hgk.out; omega
          case rel =>
            have := Hgk.out
            exact ⟨j + 1, by omega, by go_num, by omega, HB3, Lib.hid (by rw [take_next Hx.out, List.all_append, Hall.out]; simp [Hn.out])⟩
        · have hq : ((n : Int) % 2 == 1) = false := by simpa using hq
          have Hn := Lib.hid (Hc2.out.trans hq)
          clear Hc Hc2
          go_wp2_with fail
          rw [← HX1.out]
          rw [← HX1.out] at e0 e1 e2 hc'
          (with_reducible refine HOn.out.mono ?_)
          rintro e w5 ⟨rfl, rfl⟩
          go_wp2_with fail
          (with_reducible refine HOf.out.mono ?_)
          rintro e w6 ⟨rfl, rfl⟩
          go_wp2
          go_ret
          have hf : r.pre.all (R.cond w hs) = false := by rw [List.all_eq_false]; exact ⟨_, List.mem_of_getElem? Hx.out, by rw [Hn.out]; simp⟩
          exact ⟨ret_bool (by rw [hf]), Hb1.out.trans (HB3.out.mono Hb1.out.size)⟩
      · have Hc2 := Lib.hid (show R.cond w hs ⟨4, (hn : Int), im⟩ = ((n : Int) != ii) from by rw [Hc.out]; unfold R.condN; rfl)
        by_cases hq : ((n : Int) != ii) = true
        · have Hn := Lib.hid (Hc2.out.trans hq)
          clear Hc Hc2
          go_wp2_with fail
          rw [← HX1.out]
          rw [← HX1.out] at e0 e1 e2 hc'
          (with_reducible refine HOn.out.mono ?_)
          rintro e w5 ⟨rfl, rfl⟩
          go_wp2_with fail
          (with_reducible refine HOf.out.mono ?_)
          rintro e w6 ⟨rfl, rfl⟩
          go_wp2
          go_roundg (gk - 1)
          case measure => have := Hgk.out; omega
          case rel =>
            have := Hgk.out
            exact ⟨j + 1, by omega, by go_num, by omega, HB3, Lib.hid (by rw [take_next Hx.out, List.all_append, Hall.out]; simp [Hn.out])⟩
        · have hq : ((n : Int) != ii) = false := by simpa using hq
          have Hn := Lib.hid (Hc2.out.trans hq)
          clear Hc Hc2
          go_wp2_with fail
          rw [← HX1.out]
          rw [← HX1.out] at e0 e1 e2 hc'
          (with_reducible refine HOn.out.mono ?_)
          rintro e w5 ⟨rfl, rfl⟩
          go_wp2_with fail
          (with_reducible refine HOf.out.mono ?_)
          rintro e w6 ⟨rfl, rfl⟩
          go_wp2
          go_ret
          have hf : r.pre.all (R.cond w hs) = false := by rw [List.all_eq_false]; exact ⟨_, List.mem_of_getElem? Hx.out, by rw [Hn.out]; simp⟩
          exact ⟨ret_bool (by rw [hf]), Hb1.out.trans (HB3.out.mono Hb1.out.size)⟩
    · obtain rfl : j = np := by omega
      have Ht := Lib.hid (show r.pre.all (R.cond w hs) = true from by
        have := Hall.out
        rw [List.take_of_length_le (by rw [Hl.out]; exact Nat.le_refl _)] at this
        exact this)
      go_wp2
      go_ret
      exact ⟨ret_bool Ht.out.symm, Hb1.out.trans (Hbw.out.mono Hb1.out.size)⟩
end Go.Proofs.YtmebpgggfppmhaaDoor
end
section
namespace Go.Proofs.YtmebpgggfppmhaaDoor
open Go.RowKit
set_option linter.unusedVariables false
set_option linter.unusedSimpArgs false

/-- a node whose operands lie in memory of the call's own, apart from some blocks -/
def NdX (B : Nat) (Ex : Nat → Prop) (w : World) (us : List Value) (x : T.Nd) : Prop :=
  ∃ A c, us = ndC x A c ∧ OwnAt w 3 1 (.slice A x.args.length c) x.args.length (x.args.map (Value.int .i64)) ∧ 0 ≤ x.imm ∧ x.imm < 4294967296 ∧ ∀ g, (Value.slice A x.args.length c).ownBlock = some g → B ≤ g ∧ ¬ Ex g

theorem NdX.ndF {B : Nat} {Ex : Nat → Prop} {w : World} {us : List Value} {x : T.Nd} (h : NdX B Ex w us x) : NdF B w us x := by
  obtain ⟨A, c, h1, h2, h3, h4, h5⟩ := h
  exact ⟨A, c, h1, h2, h3, h4, fun g hg => (h5 g hg).1⟩
theorem NdX.re {B : Nat} {Ex Ex' : Nat → Prop} {w : World} {us : List Value} {x : T.Nd} (h : NdX B Ex w us x) (hE : ∀ i, i < w.heap.size → Ex' i → Ex i) : NdX B Ex' w us x := by
  obtain ⟨A, c, h1, h2, h3, h4, h5⟩ := h
  exact ⟨A, c, h1, h2, h3, h4, fun g hg => ⟨(h5 g hg).1, fun he => (h5 g hg).2 (hE g (h2.lt g hg) he)⟩⟩
theorem ndX_rel (B : Nat) (Ex : Nat → Prop) : NdRel B (NdX B Ex) := by
  constructor
  · intro w us x h
    exact (ndF_rel B).form h.ndF
  · intro w w' us x h hb
    obtain ⟨A, c, h1, h2, h3, h4, h5⟩ := h
    exact ⟨A, c, h1, h2.below hb h2.lt, h3, h4, h5⟩
  · intro w w' us x row h hg hr
    obtain ⟨A, c, h1, h2, h3, h4, h5⟩ := h
    refine ⟨A, c, h1, h2.same fun g hg' => ?_, h3, h4, h5⟩
    rcases h2.2 with ⟨e, _⟩ | ⟨g', off, cap, cur, e, hcur, _⟩
    · rw [e] at hg'; simp [Value.ownBlock] at hg'
    · rw [e] at hg'
      simp [Value.ownBlock] at hg'
      subst hg'
      refine hg.block _ (Array.getElem?_eq_some_iff.1 hcur).1 (fun e => ?_)
      obtain ⟨_, cur', fr, hc'⟩ := hr _ e.symm
      rw [hcur] at hc'
      injection hc' with hc'
      injection hc' with _ hc' _
      revert hc'
      decide

theorem OwnR.toF {B : Nat} {Ex : Nat → Prop} {w : World} {v : Value} {nds : List T.Nd} (h : OwnR (NdX B Ex) B w v nds) : OwnR (NdF B) B w v nds := by
  obtain ⟨cells, h1, h2, h3⟩ := h
  exact ⟨cells, h1, fun k x hx => (h2 k x hx).ndF, h3⟩
theorem OwnR.re {B : Nat} {Ex Ex' : Nat → Prop} {w : World} {v : Value} {nds : List T.Nd} (h : OwnR (NdX B Ex) B w v nds) (hE : ∀ i, i < w.heap.size → Ex' i → Ex i) : OwnR (NdX B Ex') B w v nds := by
  obtain ⟨cells, h1, h2, h3⟩ := h
  exact ⟨cells, h1, fun k x hx => (h2 k x hx).re hE, h3⟩
/-- an excepted block of numbers turns -/
theorem OwnR.ex {B : Nat} {Ex : Nat → Prop} {w w' : World} {v : Value} {nds : List T.Nd} {row : Option Nat} (h : OwnR (NdX B Ex) B w v nds) (hg : w.grownBy w' row) (hr : ∀ g, row = some g → Ex g ∧ ∃ cur fr, w.heap[g]? = some (.cells cur 3 fr)) : OwnR (NdX B Ex) B w' v nds := by
  obtain ⟨cells, h1, h2, h3⟩ := h
  refine ⟨cells, h1.same fun g hg' => ?_, fun k x hx => ?_, h3⟩
  · rcases h1.2 with ⟨rfl, _⟩ | ⟨g', off, cap, cur, rfl, hcur, _⟩
    · simp [Value.ownBlock] at hg'
    · simp [Value.ownBlock] at hg'
      subst hg'
      refine hg.block _ (Array.getElem?_eq_some_iff.1 hcur).1 (fun e => ?_)
      obtain ⟨_, cur', fr, hc'⟩ := hr _ e.symm
      rw [hcur] at hc'
      injection hc' with hc'
      injection hc' with _ hc' _
      revert hc'
      decide
  · obtain ⟨A, c, q1, q2, q3, q4, q5⟩ := h2 k x hx
    exact ⟨A, c, q1, q2.same fun g hg' => hg.block g (q2.lt g hg') (fun e => (q5 g hg').2 (hr g e.symm).1), q3, q4, q5⟩

/-- the last element is taken off -/
theorem OwnAt.pop {w : World} {e : TypeId} {A : Option Addr} {n c : Nat} {xs : List Value} (h : OwnAt w e 1 (.slice A (n + 1) c) (n + 1) xs) : OwnAt w e 1 (.slice A n c) n (xs.take n) := by
  have hl := h.1
  refine ⟨by rw [List.length_take]; omega, ?_⟩
  rcases h.2 with ⟨_, h2⟩ | ⟨g, off, cap, cur, e1, hg, q1, q2, q3, q4⟩
  · omega
  · cases e1
    exact .inr ⟨g, off, c, cur, rfl, hg, by omega, q2, q3, fun j u hu => by
      rw [List.getElem?_take] at hu
      split at hu
      · exact q4 j u hu
      · cases hu⟩

/-- the state of the sharing -/
structure ShSt (W : World) (t : List T.Nd) (ga : Nat) (res : List T.Nd) (wr : World) (v5 v8 : Value) (tab : List Int) (S : List Nat) (out : List T.Nd) : Prop where
  bel : Below W.heap.size W wr
  inv : T.ShI t tab S out res
  ga0 : W.heap.size ≤ ga
  row : wr.heap[ga]? = some (.cells (tab.map (Value.int .i64)).toArray 3 (0, 0))
  stk : OwnAt wr 3 1 v8 S.length (S.reverse.map fun k : Nat => Value.int .i64 (k : Int))
  stb : ∀ g, v8.ownBlock = some g → W.heap.size ≤ g ∧ g ≠ ga
  own : OwnR (NdX W.heap.size (fun i => i = ga ∨ v8.ownBlock = some i)) W.heap.size wr v5 out

def shMes (t : List T.Nd) (tab : List Int) (S : List Nat) : Nat := T.untold tab * (t.length + 2) + (t.length + 1 - S.length)

section
variable {W : World} {t : List T.Nd} {ga : Nat} {res : List T.Nd} {wr w' : World} {v5 v8 : Value} {tab : List Int} {S : List Nat} {out : List T.Nd}

theorem ShSt.below (h : ShSt W t ga res wr v5 v8 tab S out) (hb : Below wr.heap.size wr w') : ShSt W t ga res w' v5 v8 tab S out :=
  ⟨h.bel.trans (hb.mono h.bel.size), h.inv, h.ga0, (hb.block _ (Array.getElem?_eq_some_iff.1 h.row).1).trans h.row, h.stk.below hb h.stk.lt, h.stb, h.own.below (ndX_rel _ _) hb⟩

/-- a cell of the table -/
theorem ShSt.tab_ (h : ShSt W t ga res wr v5 v8 tab S out) {k : Nat} {v : Int} (hv : tab[k]? = some v) : wr.cell? ⟨ga, k, none⟩ = some (.int .i64 v) := by
  rw [cell_of_row _ _ _ _ _ (0, 0) h.row]
  simp [hv]
/-- the top of the stack -/
theorem ShSt.top {A : Option Addr} {c m : Nat} {n : Nat} (h : ShSt W t ga res wr v5 (.slice A (m + 1) c) tab (n :: S) out) (hm : S.length = m) : ∃ b off, A = some ⟨b, off, none⟩ ∧ wr.cell? ⟨b, off + m, none⟩ = some (.int .i64 (n : Int)) ∧ b < wr.heap.size := by
  have h1 := h.stk
  have hl : (n :: S).length = m + 1 := by simp [hm]
  rw [hl] at h1
  rcases h1.2 with ⟨_, h2⟩ | ⟨g, off, cap, cur, e1, hg, q1, q2, q3, q4⟩
  · omega
  · cases e1
    refine ⟨g, off, rfl, ?_, (Array.getElem?_eq_some_iff.1 hg).1⟩
    rw [cell_of_row _ _ _ _ _ (0, 0) hg]
    refine q4 m _ ?_
    rw [List.getElem?_map, List.reverse_cons, List.getElem?_append_right (by simp [hm]), List.length_reverse, hm]
    simp

/-- a push -/
theorem ShSt.push {n : Nat} {x : T.Nd} {v' : Value} {E : TypeId} (h : ShSt W t ga res wr v5 v8 tab (n :: S) out) (ho : T.Ord t) (hx : t[n]? = some x) (hm : 0 ≤ T.miss tab x.args)
    (hown : OwnAt w' 3 1 v' (S.length + 1 + 1) (((n :: S).reverse.map fun k : Nat => Value.int .i64 (k : Int)) ++ [.int .i64 (T.miss tab x.args)])) (hgr : (wr.alloc (.cells #[.int .i64 (T.miss tab x.args)] E)).grownBy w' v8.ownBlock) (hat : v'.ownBlock = v8.ownBlock ∨ v'.ownBlock = some (wr.heap.size + 1)) :
    ShSt W t ga res w' v5 v' tab ((T.miss tab x.args).toNat :: n :: S) out ∧ shMes t tab ((T.miss tab x.args).toNat :: n :: S) < shMes t tab (n :: S) := by
  have hba : Below wr.heap.size wr (wr.alloc (.cells #[.int .i64 (T.miss tab x.args)] E)) := (Below.refl _ _).alloc (Nat.le_refl _) _
  have h2 := h.below hba
  have hgl := (Array.getElem?_eq_some_iff.1 h.row).1
  have hp := h.inv.push ho hx hm
  have hgrow : ∀ g, v8.ownBlock = some g → ∃ cur fr, (wr.alloc (.cells #[.int .i64 (T.miss tab x.args)] E)).heap[g]? = some (.cells cur 3 fr) := fun g hg => by
    rcases h2.stk.2 with ⟨rfl, _⟩ | ⟨g', off, cap, cur, rfl, hcur, _⟩
    · simp [Value.ownBlock] at hg
    · simp [Value.ownBlock] at hg
      subst hg
      exact ⟨cur, _, hcur⟩
  refine ⟨⟨h2.bel.grown hgr h2.bel.size (fun g hg => (h.stb g hg).1), hp.1, h.ga0, ?_, ?_, fun g hg => ?_, ?_⟩, ?_⟩
  · rw [hgr.block ga (by simp; omega) (fun e => (h.stb ga e.symm).2 rfl)]
    exact h2.row
  · have e : ((((T.miss tab x.args).toNat :: n :: S).reverse.map fun k : Nat => Value.int .i64 (k : Int))) = ((n :: S).reverse.map fun k : Nat => Value.int .i64 (k : Int)) ++ [.int .i64 (T.miss tab x.args)] := by
      have : ((T.miss tab x.args).toNat :: n :: S).reverse = (n :: S).reverse ++ [(T.miss tab x.args).toNat] := by simp
      rw [this, List.map_append]
      simp [Int.toNat_of_nonneg hm]
    rw [e]
    exact hown
  · rcases hat with e | e
    · rw [e] at hg; exact h.stb g hg
    · rw [e] at hg
      injection hg with hg
      have := h.bel.size
      omega
  · have h3 := h2.own.ex hgr (fun g hg => ⟨.inr hg, hgrow g hg⟩)
    rcases hat with e | e
    · rw [e]; exact h3
    · have h4 := (h2.own.re (Ex' := fun i => i = ga ∨ v8.ownBlock = some i ∨ i = wr.heap.size + 1) (fun i hi h => by
        rcases h with h | h | h
        · exact .inl h
        · exact .inr h
        · simp at hi; omega)).ex hgr (fun g hg => ⟨.inr (.inl hg), hgrow g hg⟩)
      refine h4.re fun i _ h => ?_
      rcases h with h | h
      · exact .inl h
      · rw [e] at h
        injection h with h
        exact .inr (.inr h.symm)
  · have h1 := T.asc_len hp.1.asc hp.1.lt
    unfold shMes
    simp only [List.length_cons] at h1 ⊢
    omega

/-- 'append(out, x)' of one node: the translation lays x in a new block first -/
theorem wpList_append_nodeR2 {R : World → List Value → T.Nd → Prop} {B : Nat} (hR : NdRel B R) {w : World} {ops : Array Oper} {rest : List Oper} {o : Oper} {a : Act} {Q : Exit → Act → World → Prop} (hgd : o.guard = none) (sx x : Operand)
    (ho : o.op = .call { callee := .builtin .append, args := #[sx, x], argTypes := #[22, 22] })
    (v : Value) (nds : List T.Nd) (hs : a.eval sx = v) (hown : OwnR R B w v nds) (us : List Value) (nd : T.Nd) (hnd : R w us nd) (p : Nat) (hp : p = w.heap.size)
    (hx : a.eval x = .slice (some ⟨p, 0, none⟩) 1 1) (hn : nds.length ≤ 900000) (hB : B ≤ w.heap.size)
    (h : ∀ v' w', OwnR R B w' v' (nds ++ [nd]) → (w.alloc (.cells us.toArray 41)).grownBy w' v.ownBlock → wpList Tryd.prog ops Q rest (a.put o.dst v') w') :
    wpList Tryd.prog ops Q (o :: rest) a (w.alloc (.cells us.toArray 41)) := by
  subst hp
  have hl : us.length = 5 := by obtain ⟨A, c, rfl, _⟩ := hR.form hnd; rfl
  have h1' : ∀ u ∈ us, u.oneCell' = true := by obtain ⟨A, c, rfl, _⟩ := hR.form hnd; exact ndC_one _ _ _
  have hba : Below w.heap.size w (w.alloc (.cells us.toArray 41)) := (Below.refl _ _).alloc (Nat.le_refl _) _
  obtain ⟨cells, h1, h2, h3⟩ := id hown
  have hrow := (hown.below hR hba).row
  have hcl := h1.1
  refine wpList_append_src _ hgd sx x 22 ho 41 _ 5 56 Tryd.underlying22 infoNode rfl (by decide) v nds.length cells hs (h1.below hba h1.lt) _ 1 1 us hx (by rw [hl]) (src_new w us 41) h1' (by omega) (by decide) ?_
  intro v' w' hown' hgr hat
  refine h v' w' ⟨cells ++ us, by rw [List.length_append]; exact hown', ?_, ?_⟩ hgr
  · intro k y hy
    rcases Nat.lt_or_ge k nds.length with hk | hk
    · rw [List.getElem?_append_left hk] at hy
      have e : ((cells ++ us).drop (k * 5)).take 5 = (cells.drop (k * 5)).take 5 := by
        rw [List.drop_append_of_le_length (by omega), List.take_append_of_le_length (by rw [List.length_drop]; omega)]
      rw [e]
      exact hR.grown (hR.below (h2 k y hy) hba) hgr hrow
    · rw [List.getElem?_append_right hk] at hy
      have hk0 : k = nds.length := by
        rcases Nat.eq_zero_or_pos (k - nds.length) with e | e
        · omega
        · rw [List.getElem?_eq_none (by simp; omega)] at hy; cases hy
      subst hk0
      simp at hy
      subst hy
      have e : ((cells ++ us).drop (nds.length * 5)).take 5 = us := by
        rw [← hcl, List.drop_left, List.take_of_length_le (by omega)]
      rw [e]
      exact hR.grown (hR.below hnd hba) hgr hrow
  · intro g hg
    rcases hat with e | e
    · exact h3 g (by rw [← e]; exact hg)
    · rw [e] at hg
      simp at hg
      omega

theorem own_pop (A : Option Addr) (n m c : Nat) : (Value.slice A n c).ownBlock = (Value.slice A m c).ownBlock := by cases A <;> rfl

theorem setCell_grown (w : World) (g k : Nat) (u : Value) : w.grownBy (w.setCell ⟨g, k, none⟩ u) (some g) :=
  ⟨rfl, rfl, rfl, by simp, fun i _ hn => heap_setCell_other _ _ _ _ (fun e => hn (by rw [e]))⟩

theorem tab_set (tab : List Int) (n : Nat) (v : Int) : ((tab.map (Value.int .i64)).toArray.setIfInBounds n (.int .i64 v)) = ((tab.set n v).map (Value.int .i64)).toArray := by
  rw [List.setIfInBounds_toArray, List.map_set]

/-- what is told of a node -/
def toldNd (tab : List Int) (x : T.Nd) : T.Nd := ⟨x.op, x.w, x.fl, x.args.map fun a => tab.getD a.toNat 0, x.imm⟩

/-- the popped state, before the table is set -/
theorem ShSt.set (h : ShSt W t ga res wr v5 v8 tab S out) (k : Nat) (u : Value) : OwnR (NdX W.heap.size (fun i => i = ga ∨ v8.ownBlock = some i)) W.heap.size (wr.setCell ⟨ga, k, none⟩ u) v5 out ∧ Below W.heap.size W (wr.setCell ⟨ga, k, none⟩ u) ∧ (wr.setCell ⟨ga, k, none⟩ u).heap[ga]? = some (.cells ((tab.map (Value.int .i64)).toArray.setIfInBounds k u) 3 (0, 0)) ∧ OwnAt (wr.setCell ⟨ga, k, none⟩ u) 3 1 v8 S.length (S.reverse.map fun k : Nat => Value.int .i64 (k : Int)) := by
  refine ⟨h.own.ex (setCell_grown wr ga k u) (fun g hg => ?_), h.bel.setCell (p := ⟨ga, k, none⟩) h.ga0 _, heap_setCell_same _ _ _ _ _ _ h.row, h.stk.setCell (p := ⟨ga, k, none⟩) (fun e => (h.stb ga e).2 rfl) _⟩
  injection hg with hg
  subst hg
  exact ⟨.inl rfl, _, _, h.row⟩

theorem ShSt.mes {n : Nat} (h : ShSt W t ga res wr v5 v8 tab (n :: S) out) {tab' : List Int} (hc : T.untold tab' + 1 = T.untold tab) : shMes t tab' S < shMes t tab (n :: S) := by
  unfold shMes
  rw [← hc, Nat.add_mul]
  simp only [List.length_cons]
  omega

theorem ShSt.found {A : Option Addr} {c m n : Nat} {x : T.Nd} (h : ShSt W t ga res wr v5 (.slice A (m + 1) c) tab (n :: S) out) (hm : S.length = m) (ho : T.Ord t) (hx : t[n]? = some x) (ht : ∀ a ∈ x.args, 0 ≤ tab.getD a.toNat 0) (hy : toldNd tab x ∈ out) :
    ShSt W t ga res (wr.setCell ⟨ga, n, none⟩ (.int .i64 (out.idxOf (toldNd tab x) : Int))) v5 (.slice A m c) (tab.set n (out.idxOf (toldNd tab x) : Int)) S out ∧ shMes t (tab.set n (out.idxOf (toldNd tab x) : Int)) S < shMes t tab (n :: S) := by
  obtain ⟨p1, p2⟩ := h.inv.pop ho hx ht
  have e : T.addN out (toldNd tab x) = (out, (out.idxOf (toldNd tab x) : Int)) := by unfold T.addN; rw [if_pos hy]
  rw [show (⟨x.op, x.w, x.fl, x.args.map fun a => tab.getD a.toNat 0, x.imm⟩ : T.Nd) = toldNd tab x from rfl, e] at p1 p2
  obtain ⟨s1, s2, s3, s4⟩ := h.set n (.int .i64 (out.idxOf (toldNd tab x) : Int))
  refine ⟨⟨s2, p1, h.ga0, ?_, ?_, fun g hg => h.stb g (by rw [own_pop A (m + 1) m]; exact hg), ?_⟩, h.mes p2⟩
  · rw [s3, tab_set]
  · have hl : (n :: S).length = m + 1 := by simp [hm]
    rw [hl] at s4
    have := s4.pop
    rw [hm]
    have e2 : (((n :: S).reverse.map fun k : Nat => Value.int .i64 (k : Int)).take m) = S.reverse.map fun k : Nat => Value.int .i64 (k : Int) := by
      rw [List.reverse_cons, List.map_append, List.take_append_of_le_length (by simp [hm]), List.take_of_length_le (by simp [hm])]
    rw [e2] at this
    exact this
  · rw [own_pop A m (m + 1)]; exact s1

theorem ShSt.fresh {A A2 : Option Addr} {c c2 m n : Nat} {x : T.Nd} {v' : Value} (h : ShSt W t ga res wr v5 (.slice A (m + 1) c) tab (n :: S) out) (hm : S.length = m) (ho : T.Ord t) (hx : t[n]? = some x) (ht : ∀ a ∈ x.args, 0 ≤ tab.getD a.toNat 0) (hy : toldNd tab x ∉ out)
    (hown : OwnR (NdX W.heap.size (fun i => i = ga ∨ (Value.slice A (m + 1) c).ownBlock = some i)) W.heap.size w' v' (out ++ [toldNd tab x])) (hgr : ((wr.setCell ⟨ga, n, none⟩ (.int .i64 (out.length : Int))).alloc (.cells (ndC (toldNd tab x) A2 c2).toArray 41)).grownBy w' v5.ownBlock) :
    ShSt W t ga res w' v' (.slice A m c) (tab.set n (out.length : Int)) S (out ++ [toldNd tab x]) ∧ shMes t (tab.set n (out.length : Int)) S < shMes t tab (n :: S) := by
  obtain ⟨p1, p2⟩ := h.inv.pop ho hx ht
  have e : T.addN out (toldNd tab x) = (out ++ [toldNd tab x], (out.length : Int)) := by
    unfold T.addN
    rw [if_neg hy, List.idxOf_eq_length hy]
  rw [show (⟨x.op, x.w, x.fl, x.args.map fun a => tab.getD a.toNat 0, x.imm⟩ : T.Nd) = toldNd tab x from rfl, e] at p1 p2
  obtain ⟨s1, s2, s3, s4⟩ := h.set n (.int .i64 (out.length : Int))
  generalize wr.setCell ⟨ga, n, none⟩ (.int .i64 (out.length : Int)) = Y at *
  have hba : Below Y.heap.size Y (Y.alloc (.cells (ndC (toldNd tab x) A2 c2).toArray 41)) := (Below.refl _ _).alloc (Nat.le_refl _) _
  have hrow5 := (s1.below (ndX_rel _ _) hba).row
  have hne : ∀ g cur, (Y.alloc (.cells (ndC (toldNd tab x) A2 c2).toArray 41)).heap[g]? = some (.cells cur 3 (0, 0)) → v5.ownBlock ≠ some g := fun g cur hc e => by
    obtain ⟨_, cur', fr, hc'⟩ := hrow5 g e
    rw [hc] at hc'
    injection hc' with hc'
    injection hc' with _ hc' _
    revert hc'
    decide
  have hga := (hba.block _ (Array.getElem?_eq_some_iff.1 s3).1).trans s3
  refine ⟨⟨(s2.trans (hba.mono s2.size)).grown hgr (Nat.le_trans s2.size hba.size) (fun g hg => (hrow5 g hg).1), p1, h.ga0, ?_, ?_, fun g hg => h.stb g (by rw [own_pop A (m + 1) m]; exact hg), ?_⟩, h.mes p2⟩
  · rw [hgr.block ga (Array.getElem?_eq_some_iff.1 hga).1 (fun e => hne ga _ hga e.symm), hga, tab_set]
  · have hl : (n :: S).length = m + 1 := by simp [hm]
    rw [hl] at s4
    have hp := (s4.below hba s4.lt)
    have hp2 := hp.same (w' := w') (fun g hg => hgr.block g (hp.lt g hg) (fun e => by
      rcases hp.2 with ⟨_, h2⟩ | ⟨g', off, cap, cur, e1, hcur, _⟩
      · omega
      · rw [e1] at hg
        simp [Value.ownBlock] at hg
        subst hg
        exact hne g' _ hcur e.symm))
    have := hp2.pop
    rw [hm]
    have e2 : (((n :: S).reverse.map fun k : Nat => Value.int .i64 (k : Int)).take m) = S.reverse.map fun k : Nat => Value.int .i64 (k : Int) := by
      rw [List.reverse_cons, List.map_append, List.take_append_of_le_length (by simp [hm]), List.take_of_length_le (by simp [hm])]
    rw [e2] at this
    exact this
  · rw [own_pop A m (m + 1)]; exact hown
end
end Go.Proofs.YtmebpgggfppmhaaDoor
end
section
namespace Go.Proofs.YtmebpgggfppmhaaDoor
open Go.RowKit
set_option linter.unusedVariables false
set_option linter.unusedSimpArgs false

set_option maxRecDepth 100000 in
set_option maxHeartbeats 16000000 in
theorem Shared_any {t : List T.Nd} {n ct k : Nat} {At : Option Addr} {W : World} (hT : StAt 5 NdR W At n t) (ho : T.Ord t) (hn : n ≤ 100000) (ha : ∀ x ∈ t, x.args.length ≤ 100000) (hk : k < n) (f : T.F) (hf : T.Rep t [(k : Int)] f) :
    Calls Tryd.prog 33 #[.slice At n ct, .int .i64 (k : Int)] W fun e W' => ∃ v, e = .returned v ∧ OwnR (NdF W.heap.size) W.heap.size W' v (T.canon f) ∧ Below W.heap.size W W' := by
  have HT := Lib.hid hT
  have Ho := Lib.hid ho
  have Ha := Lib.hid ha
  have Hlen := Lib.hid hT.len
  have Hst := Lib.hid (T.ShI.start (by rw [hT.len]; exact hk) hf)
  rw [hT.len] at Hst
  have hmk := fun (W' : World) => run_make_n (P := Tryd.prog) 38 3 (.int .i64 0) 8 Tryd.underlying38 infoI rfl .i64 .i64 n (n : Int) rfl (by omega) (by omega) W'
  obtain ⟨W1, hW1⟩ : ∃ W1, W1 = W.alloc (.cells (Array.replicate n (Value.int .i64 0)) 3) := ⟨_, rfl⟩
  have Hb1 := Lib.hid (show Below W.heap.size W W1 from by rw [hW1]; exact (Below.refl _ _).alloc (Nat.le_refl _) _)
  have Hr1 := Lib.hid (show W1.heap[W.heap.size]? = some (.cells ((List.replicate 0 (-1 : Int) ++ List.replicate (n - 0) 0).map (Value.int .i64)).toArray 3 (0, 0)) from by
    rw [hW1]
    have e : ((List.replicate 0 (-1 : Int) ++ List.replicate (n - 0) 0).map (Value.int .i64)).toArray = Array.replicate n (Value.int .i64 0) := by simp
    rw [e]
    exact heap_alloc_new W _)
  have HW1 := Lib.hid hW1
  clear hT ho ha hf hW1
  go_enter Tryd.func33, Tryd.ntmps33
  go_wp2
  rw [← HW1.out]
  clear hmk
  go_loopg [7] (n + 1) (fun gg i wr => ∃ (j : Nat), j ≤ n ∧ i = .int .i64 (j : Int) ∧ gg + j = n + 1 ∧ Hid (Below W.heap.size W wr) ∧ Hid (wr.heap[W.heap.size]? = some (.cells ((List.replicate j (-1 : Int) ++ List.replicate (n - j) 0).map (Value.int .i64)).toArray 3 (0, 0))))
  case atStart => exact ⟨0, Nat.zero_le _, rfl, rfl, Hb1, Hr1⟩
  case round =>
    obtain ⟨j, hj, rfl, hgk, Hbw, Hrow⟩ := hrel
    have Hgk := Lib.hid hgk; clear hgk
    by_cases hjn : j < n
    · have hr := Hrow.out
      have c0 : wr.cell? ⟨W.heap.size, j, none⟩ = some (.int .i64 0) := by
        rw [cell_of_row _ _ _ _ _ (0, 0) hr, List.getElem?_toArray, List.getElem?_map, List.getElem?_append_right (by simp), List.getElem?_replicate, if_pos (by simp; omega)]
        rfl
      have f0 := frozen_row hr j
      have Hr2 := Lib.hid (show (wr.setCell ⟨W.heap.size, j, none⟩ (.int .i64 (-1))).heap[W.heap.size]? = some (.cells ((List.replicate (j + 1) (-1 : Int) ++ List.replicate (n - (j + 1)) 0).map (Value.int .i64)).toArray 3 (0, 0)) from by
        rw [heap_setCell_same _ _ _ _ _ _ hr, tab_set]
        congr 4
        apply List.ext_getElem?
        intro i
        rw [List.getElem?_set]
        by_cases h1 : j = i
        · subst h1
          rw [if_pos rfl, if_pos (by simp; omega), List.getElem?_append_left (by simp), List.getElem?_replicate, if_pos (by omega)]
        · rw [if_neg h1]
          by_cases h2 : i < j
          · rw [List.getElem?_append_left (by simpa using h2), List.getElem?_append_left (by simp; omega), List.getElem?_replicate, List.getElem?_replicate, if_pos h2, if_pos (by omega)]
          · rw [List.getElem?_append_right (by simp; omega), List.getElem?_append_right (by simp; omega), List.getElem?_replicate, List.getElem?_replicate]
            simp only [List.length_replicate]
            by_cases h3 : i < n
            · rw [if_pos (by omega), if_pos (by omega)]
            · rw [if_neg (by omega), if_neg (by omega)])
      have Hb2 := Lib.hid (Hbw.out.setCell (p := ⟨W.heap.size, j, none⟩) (Nat.le_refl _) (.int .i64 (-1)))
      clear hr
      go_wp2
      go_roundg (gk - 1)
      case measure => have := Hgk.out; omega
      case rel =>
        have := Hgk.out
        exact ⟨j + 1, by omega, by go_num, by omega, Hb2, Hr2⟩
    · obtain rfl : j = n := by omega
      have Hrw := Lib.hid (show wr.heap[W.heap.size]? = some (.cells ((List.replicate j (-1 : Int)).map (Value.int .i64)).toArray 3 (0, 0)) from by
        have := Hrow.out
        rw [Nat.sub_self, List.replicate_zero, List.append_nil] at this
        exact this)
      have hg1 := (Array.getElem?_eq_some_iff.1 Hrw.out).1
      obtain ⟨W2, hW2⟩ : ∃ W2, W2 = wr.alloc (.cells #[.int .i64 (k : Int)] 3) := ⟨_, rfl⟩
      have hb2 : Below wr.heap.size wr W2 := by rw [hW2]; exact (Below.refl _ _).alloc (Nat.le_refl _) _
      have HSt := Lib.hid (show ShSt W t W.heap.size (T.canon f) W2 (.slice none 0 0) (.slice (some ⟨wr.heap.size, 0, none⟩) 1 1) (List.replicate j (-1)) [k] [] from by
        refine ⟨Hbw.out.trans (hb2.mono Hbw.out.size), Hst.out, Nat.le_refl _, (hb2.block _ hg1).trans Hrw.out, ?_, fun g hg => ?_, OwnR.nil_ _ _ _⟩
        · rw [hW2]
          exact OwnAt.of_new wr #[.int .i64 (k : Int)] 1 rfl (by simp [maxLen])
        · simp [Value.ownBlock] at hg
          omega)
      have HW2 := Lib.hid hW2
      clear hb2 hW2
      go_wp2
      rw [← HW2.out]
      clear hg1
      go_loopg [5, 8] (shMes t (List.replicate j (-1)) [k]) (fun gg s5 s8 wr2 => ∃ (tab : List Int) (S : List Nat) (out : List T.Nd), gg = shMes t tab S ∧ Hid (ShSt W t W.heap.size (T.canon f) wr2 s5 s8 tab S out))
      case atStart => exact ⟨_, _, _, rfl, HSt⟩
      case round =>
        obtain ⟨tab, S, out, hgk, HSS⟩ := hrel
        obtain ⟨gO, rfl⟩ : ∃ gO, gO = gk := ⟨_, rfl⟩
        have HgO := Lib.hid hgk
        obtain ⟨wr2, rfl⟩ : ∃ w, w = wr := ⟨_, rfl⟩
        clear hgk
        cases S with
        | nil =>
          obtain ⟨A8, c8, h8⟩ := HSS.out.stk.form
          have h8 : u8 = .slice A8 0 c8 := h8
          subst h8
          go_wp2
          go_ret
          have h := HSS.out.own.toF
          rw [HSS.out.inv.end_] at h
          exact ⟨_, rfl, h, HSS.out.bel⟩
        | cons nn S =>
          obtain ⟨A8, c8, h8⟩ := HSS.out.stk.form
          have h8 : u8 = .slice A8 (S.length + 1) c8 := h8
          subst h8
          obtain ⟨b8, off8, hA8, htop, hb8⟩ := HSS.out.top rfl
          subst hA8
          have hnn : nn < j := by have := HSS.out.inv.lt nn (by simp); rw [Hlen.out] at this; exact this
          have hmj : S.length + 1 ≤ j := by
            have := T.asc_len HSS.out.inv.asc HSS.out.inv.lt
            simp only [List.length_cons, Hlen.out] at this
            exact this
          obtain ⟨x, bx, offx, Ax, cx, hx, hAt, hbx, h0, h1, h2, h3, h4, hs, i0, i1⟩ := nd_cells (HT.out.below monoNd HSS.out.bel) hnn
          subst hAt
          have Hx := Lib.hid hx
          have Hs := Lib.hid hs
          have Hi := Lib.hid (show 0 ≤ x.imm ∧ x.imm < 4294967296 from ⟨i0, i1⟩)
          have Hord := Lib.hid (Ho.out nn x hx)
          have Hal := Lib.hid (Ha.out x (List.mem_of_getElem? hx))
          obtain ⟨L, hL⟩ : ∃ L, x.args.length = L := ⟨_, rfl⟩
          have HL := Lib.hid hL
          rw [hL] at h3 hs
          have em : (S.length : Int) + 1 - 1 = (S.length : Int) := by omega
          have hL5 : L ≤ 100000 := by rw [← hL]; exact Hal.out
          obtain ⟨X1, hX1⟩ : ∃ X1, X1 = wr2.alloc (.cells #[.int .i64 x.op, .int .i64 x.w, .int .i64 x.fl, .slice Ax L cx, .int .u32 x.imm] 41) := ⟨_, rfl⟩
          have hb1 : Below wr2.heap.size wr2 X1 := by rw [hX1]; exact (Below.refl _ _).alloc (Nat.le_refl _) _
          have hrX : X1.heap[wr2.heap.size]? = some (.cells #[.int .i64 x.op, .int .i64 x.w, .int .i64 x.fl, .slice Ax L cx, .int .u32 x.imm] 41 (0, 0)) := by rw [hX1]; exact heap_alloc_new wr2 _
          have HrX := Lib.hid hrX
          have Hb1' := Lib.hid hb1
          have HS1 := Lib.hid (HSS.out.below hb1)
          have Hsx := Lib.hid (hs.below (monoInt _) hb1)
          have HX1 := Lib.hid hX1
          have HszX := Lib.hid (show X1.heap.size = wr2.heap.size + 1 from by rw [hX1]; simp)
          clear hx hs i0 i1 hL hX1 hb1 hrX hbx hb8
          go_upto_region 11 with (fail)
          rw [← HX1.out]
          obtain ⟨x0, x1, x2, x3, x4⟩ := nd5_cells HrX.out
          clear htop h0 h1 h2 h3 h4 x0 x1 x2 x4
          go_wp2
          clear em
          have Htl := Lib.hid (show tab.length = j from by rw [HS1.out.inv.len, Hlen.out])
          go_loop [11, 12] (fun mm i => ∃ q : Nat, q ≤ L ∧ i = .int .i64 ((q : Int) - 1) ∧ mm = .int .i64 (T.miss tab (x.args.drop q))) (fun _ i => (intOf i + 1).toNat)
          case atStart => exact ⟨L, Nat.le_refl _, rfl, by rw [← HL.out, List.drop_length]; rfl⟩
          case round =>
            obtain ⟨q, hq, rfl, rfl⟩ := hrel
            by_cases hq0 : 0 < q
            · obtain ⟨p, rfl⟩ : ∃ p, q = p + 1 := ⟨q - 1, by omega⟩
              have ep : ((p + 1 : Nat) : Int) - 1 = (p : Int) := by omega
              obtain ⟨aI, ba, offa, ua, hai, rfl, hba, hca, rfl⟩ := Hsx.out.at_ (show p < L by omega)
              have hao := Hord.out aI (List.mem_of_getElem? hai)
              obtain ⟨a, rfl⟩ : ∃ a : Nat, aI = a := ⟨aI.toNat, by omega⟩
              have haj : a < j := by omega
              have Hms := Lib.hid (show T.miss tab (x.args.drop p) = if tab.getD a 0 < 0 then (a : Int) else T.miss tab (x.args.drop (p + 1)) from by
                rw [drop_at hai]
                show (if tab.getD ((a : Int)).toNat 0 < 0 then (a : Int) else _) = _
                rw [Int.toNat_natCast])
              have hta := HS1.out.tab_ (T.getD_some (d := 0) (show a < tab.length by rw [Htl.out]; exact haj))
              obtain ⟨tv, htv⟩ : ∃ tv, tab.getD a 0 = tv := ⟨_, rfl⟩
              rw [htv] at hta Hms
              rw [ep]
              clear hai hba hao htv ep hq0
              by_cases ht0 : tv < 0
              · have q1 : decide (tv < 0) = true := by simpa using ht0
                have He := Lib.hid (show T.miss tab (x.args.drop p) = (a : Int) from by rw [Hms.out, if_pos ht0])
                clear ht0
                go_wp2
                go_round
                case rel => exact ⟨p, by omega, rfl, by rw [He.out]⟩
                case measure => simp [intOf]
              · have q1 : decide (tv < 0) = false := by simpa using ht0
                have He := Lib.hid (show T.miss tab (x.args.drop p) = T.miss tab (x.args.drop (p + 1)) from by rw [Hms.out, if_neg ht0])
                clear ht0
                go_wp2
                go_round
                case rel => exact ⟨p, by omega, rfl, by rw [He.out]⟩
                case measure => simp [intOf]
            · obtain rfl : q = 0 := by omega
              rw [List.drop_zero]
              obtain ⟨ms, hms⟩ : ∃ ms, T.miss tab x.args = ms := ⟨_, rfl⟩
              have Hms := Lib.hid hms
              rw [hms]
              clear hq0 hms
              by_cases hm0 : 0 ≤ ms
              · have q1 : decide (0 ≤ ms) = true := by simpa using hm0
                have Hm0 := Lib.hid hm0
                have hst := HS1.out.stk
                simp only [List.length_cons] at hst
                have Hstk := Lib.hid hst
                have hSb : S.length + 1 ≤ 1000000000 := by omega
                clear hm0 hst
                go_wp2_with (at_builtin; refine wpList_append_one' rfl (.tmp 67) (.tmp 69) 38 rfl 3 (.int .i64 0) 8 Tryd.underlying38 infoI rfl _ (S.length + 1) _ rfl Hstk.out (.int .i64 ms) rfl 3 X1.heap.size rfl rfl hSb (by omega) ?_; intro v' w3 hown' hgr hat; have Hown' := Lib.hid hown'; have Hgr := Lib.hid hgr; have Hat := Lib.hid hat; clear hown' hgr hat)
                have hp := ShSt.push HS1.out Ho.out Hx.out (by rw [Hms.out]; exact Hm0.out) (by rw [Hms.out]; exact Hown'.out) (by rw [Hms.out]; exact Hgr.out) Hat.out
                rw [Hms.out] at hp
                have Hp := Lib.hid hp
                clear hp
                go_roundg (shMes t tab (ms.toNat :: nn :: S))
                case measure => rw [HgO.out]; exact Hp.out.2
                case rel => exact ⟨tab, _, out, rfl, Lib.hid Hp.out.1⟩
              · have q1 : decide (0 ≤ ms) = false := by simpa using hm0
                have Htold := Lib.hid (T.miss_none (tab := tab) (l := x.args) (fun a ha => (Hord.out a ha).1) (by rw [Hms.out]; omega))
                clear hm0
                have hcap : S.length + 1 ≤ c8 := by
                  rcases HS1.out.stk.2 with ⟨e, _⟩ | ⟨g, off, cap, cur, e, _, h1, _⟩
                  · cases e
                  · cases e; exact h1
                have hcapi : (S.length : Int) ≤ (c8 : Int) := by omega
                have em : (S.length : Int) + 1 - 1 = (S.length : Int) := by omega
                obtain ⟨x0, x1, x2, _, x4⟩ := nd5_cells HrX.out
                go_upto_region 21 with (fail)
                obtain ⟨Y1, hY1⟩ : ∃ Y1, Y1 = X1.alloc (.cells #[.int .i64 x.op, .int .i64 x.w, .int .i64 x.fl, .slice none 0 0, .int .u32 x.imm] 41) := ⟨_, rfl⟩
                have Hb1y := Lib.hid (show Below X1.heap.size X1 Y1 from by rw [hY1]; exact (Below.refl _ _).alloc (Nat.le_refl _) _)
                have HrY := Lib.hid (show Y1.heap[X1.heap.size]? = some (.cells #[.int .i64 x.op, .int .i64 x.w, .int .i64 x.fl, .slice none 0 0, .int .u32 x.imm] 41 (0, 0)) from by rw [hY1]; exact heap_alloc_new X1 _)
                rw [← hY1]
                clear hY1 em hcapi x0 x1 x2 x4
                go_wp2
                go_loopg [14] (L + 1) (fun gg i w4 => ∃ (jj : Nat) (Ay : Option Addr) (cy : Nat), jj ≤ L ∧ i = .int .i64 (jj : Int) ∧ gg + jj = L + 1 ∧ Hid (Below X1.heap.size X1 w4) ∧ Hid (w4.heap[X1.heap.size]? = some (.cells #[.int .i64 x.op, .int .i64 x.w, .int .i64 x.fl, .slice Ay jj cy, .int .u32 x.imm] 41 (0, 0))) ∧ Hid (OwnAt w4 3 1 (.slice Ay jj cy) jj (((x.args.take jj).map fun a => tab.getD a.toNat 0).map (Value.int .i64))) ∧ Hid (∀ g, (Value.slice Ay jj cy).ownBlock = some g → X1.heap.size + 1 ≤ g))
                case atStart => exact ⟨0, none, 0, Nat.zero_le _, rfl, rfl, Hb1y, HrY, Lib.hid (OwnAt.nil_ _ _ _), Lib.hid (fun g hg => by simp [Value.ownBlock] at hg)⟩
                case round =>
                  obtain ⟨jj, Ay, cy, hjj, rfl, hgk, Hbw4, HrY4, Hya, Hyb⟩ := hrel
                  have Hgk4 := Lib.hid hgk; clear hgk
                  obtain ⟨w4, rfl⟩ : ∃ w, w = wr := ⟨_, rfl⟩
                  by_cases hjl : jj < L
                  · have HrX4 := Lib.hid ((Hbw4.out.block _ (Array.getElem?_eq_some_iff.1 HrX.out).1).trans HrX.out)
                    have HS4 := Lib.hid (HS1.out.below Hbw4.out)
                    obtain ⟨_, _, _, z3, _⟩ := nd5_cells HrX4.out
                    obtain ⟨aI, ba, offa, ua, hai, rfl, hba, hca, rfl⟩ := (Hsx.out.below (monoInt _) Hbw4.out).at_ hjl
                    have hao := Hord.out aI (List.mem_of_getElem? hai)
                    obtain ⟨a, rfl⟩ : ∃ a : Nat, aI = a := ⟨aI.toNat, by omega⟩
                    have haj : a < j := by omega
                    have hta := HS4.out.tab_ (T.getD_some (d := 0) (show a < tab.length by rw [Htl.out]; exact haj))
                    obtain ⟨tv, htv⟩ : ∃ tv, tab.getD a 0 = tv := ⟨_, rfl⟩
                    rw [htv] at hta
                    have Htk := Lib.hid (show ((x.args.take (jj + 1)).map fun a => tab.getD a.toNat 0).map (Value.int .i64) = (((x.args.take jj).map fun a => tab.getD a.toNat 0).map (Value.int .i64)) ++ [.int .i64 tv] from by
                      rw [take_next hai, List.map_append, List.map_append]
                      simp
                      rw [← List.getD_eq_getElem?_getD]
                      exact htv)
                    obtain ⟨_, _, _, y3, _⟩ := nd5_cells HrY4.out
                    have Hszy := Lib.hid (show X1.heap.size < w4.heap.size from (Array.getElem?_eq_some_iff.1 HrY4.out).1)
                    have hl1 : wr2.heap.size < X1.heap.size + 1 := by have := HszX.out; omega
                    have hl2 : ba < X1.heap.size + 1 := by
                      obtain ⟨_, ba', _, _, _, eba, hba', _⟩ := Hsx.out.at_ hjl
                      injection eba with eba
                      injection eba with eba _ _
                      omega
                    have hl3 : W.heap.size < X1.heap.size + 1 := by have := (Array.getElem?_eq_some_iff.1 HS1.out.row).1; omega
                    have HS := Lib.hid (show ∀ Y, Below (X1.heap.size + 1) w4 Y → Y.cell? ⟨X1.heap.size, 3, none⟩ = some (.slice Ay jj cy) ∧ Y.cell? ⟨wr2.heap.size, 3, none⟩ = some (.slice (some ⟨ba, offa, none⟩) L cx) ∧ Y.cell? ⟨ba, offa + jj, none⟩ = some (.int .i64 (a : Int)) ∧ Y.cell? ⟨W.heap.size, a, none⟩ = some (.int .i64 tv) from fun Y hY => ⟨(hY.cell (p := ⟨X1.heap.size, 3, none⟩) (Nat.lt_succ_self _)).trans y3, (hY.cell (p := ⟨wr2.heap.size, 3, none⟩) hl1).trans z3, (hY.cell (p := ⟨ba, offa + jj, none⟩) hl2).trans hca, (hY.cell (p := ⟨W.heap.size, a, none⟩) hl3).trans hta⟩)
                    have HF4 := Lib.hid (show ∀ Y, Below (X1.heap.size + 1) w4 Y → Y.heap[X1.heap.size]? = some (.cells #[.int .i64 x.op, .int .i64 x.w, .int .i64 x.fl, .slice Ay jj cy, .int .u32 x.imm] 41 (0, 0)) from fun Y hY => (hY.block _ (Nat.lt_succ_self _)).trans HrY4.out)
                    have hjb : jj + 1 ≤ 1000000000 := by omega
                    clear hai hba hao htv y3 hca hta hl1 hl2 hl3
                    go_wp2_with fail
                    clear z3
                    refine wp_region_split 13 (by kernel_rfl) (by kernel_rfl) ?_
                    simp only [List.take_succ_cons, List.take_zero]
                    refine wpAny_of_held (S := fun Y => Y.cell? ⟨X1.heap.size, 3, none⟩ = some (.slice Ay jj cy) ∧ Y.cell? ⟨wr2.heap.size, 3, none⟩ = some (.slice (some ⟨ba, offa, none⟩) L cx) ∧ Y.cell? ⟨ba, offa + jj, none⟩ = some (.int .i64 (a : Int)) ∧ Y.cell? ⟨W.heap.size, a, none⟩ = some (.int .i64 tv)) _ _ _ _ ?_
                    have hHeld := HS.out w4.drew (Below.refl _ _).drew
                    refine wpAnyH_take (i := 0) (oi := _) (v := ?_) rfl (by kernel_rfl) (by kernel_rfl) (by kernel_rfl) (fun _ _ _ h => h) (Or.inl ⟨by rfl, fun Y hY => ?_⟩) hHeld ?_
                    rotate_left
                    · (go_simp) <;> with_reducible rfl
                    try simp only [Act.put, List.setIfInBounds_toArray, List.set_cons_zero, List.set_cons_succ, List.getElem_toArray, List.getElem_cons_succ, List.getElem_cons_zero]
                    refine wpAnyH_take (i := 1) (oi := _) (v := ?_) rfl (by kernel_rfl) (by kernel_rfl) (by kernel_rfl) (fun _ _ _ h => h) (Or.inl ⟨by rfl, fun Y hY => ?_⟩) hHeld ?_
                    rotate_left
                    · obtain ⟨y0, y1, y2, y3⟩ := hY
                      (go_simp) <;> with_reducible rfl
                    try simp only [Act.put, List.setIfInBounds_toArray, List.set_cons_zero, List.set_cons_succ, List.getElem_toArray, List.getElem_cons_succ, List.getElem_cons_zero]
                    refine wpAnyH_take (i := 2) (oi := _) (v := ?_) rfl (by kernel_rfl) (by kernel_rfl) (by kernel_rfl) (fun _ _ _ h => h) (Or.inl ⟨by rfl, fun Y hY => ?_⟩) hHeld ?_
                    rotate_left
                    · (go_simp) <;> with_reducible rfl
                    try simp only [Act.put, List.setIfInBounds_toArray, List.set_cons_zero, List.set_cons_succ, List.getElem_toArray, List.getElem_cons_succ, List.getElem_cons_zero]
                    refine wpAnyH_take (i := 3) (oi := _) (v := ?_) rfl (by kernel_rfl) (by kernel_rfl) (by kernel_rfl) (fun _ _ _ h => h) (Or.inl ⟨by rfl, fun Y hY => ?_⟩) hHeld ?_
                    rotate_left
                    · (go_simp) <;> with_reducible rfl
                    try simp only [Act.put, List.setIfInBounds_toArray, List.set_cons_zero, List.set_cons_succ, List.getElem_toArray, List.getElem_cons_succ, List.getElem_cons_zero]
                    refine wpAnyH_take (i := 4) (oi := _) (v := ?_) rfl (by kernel_rfl) (by kernel_rfl) (by kernel_rfl) (fun _ _ _ h => h) (Or.inl ⟨by rfl, fun Y hY => ?_⟩) hHeld ?_
                    rotate_left
                    · obtain ⟨y0, y1, y2, y3⟩ := hY
                      (go_simp) <;> with_reducible rfl
                    try simp only [Act.put, List.setIfInBounds_toArray, List.set_cons_zero, List.set_cons_succ, List.getElem_toArray, List.getElem_cons_succ, List.getElem_cons_zero]
                    refine wpAnyH_take (i := 5) (oi := _) (v := ?_) rfl (by kernel_rfl) (by kernel_rfl) (by kernel_rfl) (fun _ _ _ h => h) (Or.inl ⟨by rfl, fun Y hY => ?_⟩) hHeld ?_
                    rotate_left
                    · (go_simp) <;> with_reducible rfl
                    try simp only [Act.put, List.setIfInBounds_toArray, List.set_cons_zero, List.set_cons_succ, List.getElem_toArray, List.getElem_cons_succ, List.getElem_cons_zero]
                    refine wpAnyH_take (i := 6) (oi := _) (v := ?_) rfl (by kernel_rfl) (by kernel_rfl) (by kernel_rfl) (fun _ _ _ h => h) (Or.inl ⟨by rfl, fun Y hY => ?_⟩) hHeld ?_
                    rotate_left
                    · (go_simp) <;> with_reducible rfl
                    try simp only [Act.put, List.setIfInBounds_toArray, List.set_cons_zero, List.set_cons_succ, List.getElem_toArray, List.getElem_cons_succ, List.getElem_cons_zero]
                    refine wpAnyH_take (i := 7) (oi := _) (v := ?_) rfl (by kernel_rfl) (by kernel_rfl) (by kernel_rfl) (fun _ _ _ h => h) (Or.inl ⟨by rfl, fun Y hY => ?_⟩) hHeld ?_
                    rotate_left
                    · obtain ⟨y0, y1, y2, y3⟩ := hY
                      (go_simp) <;> with_reducible rfl
                    try simp only [Act.put, List.setIfInBounds_toArray, List.set_cons_zero, List.set_cons_succ, List.getElem_toArray, List.getElem_cons_succ, List.getElem_cons_zero]
                    refine wpAnyH_take (i := 8) (oi := _) (v := ?_) rfl (by kernel_rfl) (by kernel_rfl) (by kernel_rfl) (fun _ _ _ h => h) (Or.inl ⟨by rfl, fun Y hY => ?_⟩) hHeld ?_
                    rotate_left
                    · (go_simp) <;> with_reducible rfl
                    try simp only [Act.put, List.setIfInBounds_toArray, List.set_cons_zero, List.set_cons_succ, List.getElem_toArray, List.getElem_cons_succ, List.getElem_cons_zero]
                    refine wpAnyH_take (i := 9) (oi := _) (v := ?_) rfl (by kernel_rfl) (by kernel_rfl) (by kernel_rfl) (fun _ _ _ h => h) (Or.inl ⟨by rfl, fun Y hY => ?_⟩) hHeld ?_
                    rotate_left
                    · obtain ⟨y0, y1, y2, y3⟩ := hY
                      (go_simp) <;> with_reducible rfl
                    try simp only [Act.put, List.setIfInBounds_toArray, List.set_cons_zero, List.set_cons_succ, List.getElem_toArray, List.getElem_cons_succ, List.getElem_cons_zero]
                    refine wpAnyH_ready (rs := [10]) (by kernel_rfl) (by simp) ?_
                    refine AllReadyH.cons (o := _) rfl (fun KK hKK => ?_) AllReadyH.nil
                    clear hHeld
                    go_simp
                    obtain ⟨X5, hX5⟩ : ∃ X5, X5 = (w4.alloc (.cells #[.int .i64 tv] 3)).drew := ⟨_, rfl⟩
                    rw [← hX5]
                    have hb5 : Below w4.heap.size w4 X5 := by rw [hX5]; exact ((Below.refl _ _).alloc (Nat.le_refl _) _).drew
                    have Hsz5 := Lib.hid (show X5.heap.size = w4.heap.size + 1 from by rw [hX5]; simp)
                    have Hsrc := Lib.hid (show ∀ q u, [Value.int .i64 tv][q]? = some u → ∃ ad : Addr, (some (⟨w4.heap.size, 0, none⟩ : Addr)) = some ad ∧ X5.cell? (ad.add q) = some u from by rw [hX5]; exact fun q u hq => ⟨_, rfl, cell_one_new w4 _ _ q u hq⟩)
                    have Hb5 := Lib.hid (show Below (X1.heap.size + 1) w4 X5 from hb5.mono (by have := Hszy.out; omega))
                    have Hown5 := Lib.hid (Hya.out.below hb5 Hya.out.lt)
                    clear hX5 hb5
                    refine hKK.out _ _ (HS.out X5 Hb5.out) (fun hHeld => ?_)
                    clear hKK KK
                    try simp only [Act.put, List.setIfInBounds_toArray, List.set_cons_zero, List.set_cons_succ, List.getElem_toArray, List.getElem_cons_succ, List.getElem_cons_zero]
                    refine wpAnyH_ready (rs := [11]) (by kernel_rfl) (by simp) ?_
                    refine AllReadyH.cons (o := _) rfl (fun KK hKK => ?_) AllReadyH.nil
                    clear hHeld
                    refine step_append_src X5 rfl (.tmp 93) (.tmp 102) 38 rfl 3 (.int .i64 0) 1 8 Tryd.underlying38 infoI rfl (by decide) (.slice Ay jj cy) jj _ rfl Hown5.out (some ⟨w4.heap.size, 0, none⟩) 1 1 [.int .i64 tv] rfl rfl Hsrc.out (by simp; rfl) hjb (by decide) ?_
                    intro v6 w6 hown6 hgr6 hat6
                    have Hb6 := Lib.hid (Hb5.out.grown hgr6 (by have := Hsz5.out; have := Hszy.out; omega) Hyb.out)
                    refine hKK.out _ _ (HS.out w6 Hb6.out) (fun hHeld => ?_)
                    clear hKK KK
                    try simp only [Act.put, List.setIfInBounds_toArray, List.set_cons_zero, List.set_cons_succ, List.getElem_toArray, List.getElem_cons_succ, List.getElem_cons_zero]
                    obtain ⟨A6, c6, rfl⟩ := hown6.form
                    have hr6 := HF4.out w6 Hb6.out
                    obtain ⟨_, _, _, n3, _⟩ := nd5_cells hr6
                    have nf : w6.frozen? ⟨X1.heap.size, 3, none⟩ = false := frozen_row hr6 _
                    have Hvb := Lib.hid (show ∀ g, (Value.slice A6 (jj + 1) c6).ownBlock = some g → X1.heap.size + 1 ≤ g from fun g hg => by
                      rcases hat6 with e | e
                      · rw [e] at hg; exact Hyb.out g hg
                      · rw [e] at hg; injection hg with hg; have := Hsz5.out; have := Hszy.out; omega)
                    have Hr7 := Lib.hid (heap_setCell_same w6 X1.heap.size 3 _ _ (.slice A6 (jj + 1) c6) hr6)
                    have Hown7 := Lib.hid (hown6.setCell (p := ⟨X1.heap.size, 3, none⟩) (fun e => by have := Hvb.out _ e; simp only at this; omega) (.slice A6 (jj + 1) c6))
                    have Hb7 := Lib.hid ((Hbw4.out.trans (Hb6.out.mono (Nat.le_succ _))).setCell (p := ⟨X1.heap.size, 3, none⟩) (Nat.le_refl _) (.slice A6 (jj + 1) c6))
                    rw [← Htk.out] at Hown7
                    clear hr6 hat6 hown6 hgr6
                    refine wpAnyH_take (i := 12) (oi := _) (v := ?_) rfl (by kernel_rfl) (by kernel_rfl) (by kernel_rfl) (fun _ _ _ h => h) (Or.inl ⟨by rfl, fun Y hY => ?_⟩) hHeld ?_
                    rotate_left
                    · (go_simp) <;> with_reducible rfl
                    try simp only [Act.put, List.setIfInBounds_toArray, List.set_cons_zero, List.set_cons_succ, List.getElem_toArray, List.getElem_cons_succ, List.getElem_cons_zero]
                    refine wpAnyH_done (by kernel_rfl) ?_ _
                    clear hHeld
                    go_wp2
                    go_roundg (gk - 1)
                    case measure => have := Hgk4.out; omega
                    case rel =>
                      have := Hgk4.out
                      exact ⟨jj + 1, A6, c6, by omega, by go_num, by omega, Hb7, Hr7, Hown7, Hvb⟩
                  · obtain rfl : jj = L := by omega
                    have HS4 := Lib.hid (HS1.out.below Hbw4.out)
                    obtain ⟨A5, c5, h5⟩ := HS4.out.own.form
                    subst h5
                    have hyl : (toldNd tab x).args.length = jj := by show (x.args.map _).length = jj; rw [List.length_map, HL.out]
                    have Hyl := Lib.hid hyl
                    have hya := Hya.out
                    rw [List.take_of_length_le (by rw [HL.out]; exact Nat.le_refl _)] at hya
                    have HYa := Lib.hid (show OwnAt w4 3 1 (.slice Ay jj cy) jj ((toldNd tab x).args.map (Value.int .i64)) from hya)
                    have HySl := Lib.hid (show SlAt (IntR .i64) w4 Ay (toldNd tab x).args.length (toldNd tab x).args from by rw [hyl]; exact HYa.out.slInts)
                    have HSame := Lib.hid (show ∀ (z : T.Nd) (Az : Option Addr) (cz : Nat) (u : World), Below w4.heap.size w4 u → SlAt (IntR .i64) u Az z.args.length z.args → Calls Tryd.prog 47 #[.agg #[.int .i64 z.op, .int .i64 z.w, .int .i64 z.fl, .slice Az z.args.length cz, .int .u32 z.imm], .agg #[.int .i64 x.op, .int .i64 x.w, .int .i64 x.fl, .slice Ay jj cy, .int .u32 x.imm]] u fun e w' => e = .returned (.bool (decide (z = toldNd tab x))) ∧ Below u.heap.size u w' from fun z Az cz u hu hz => by
                      have := rsameNode_any (c := cz) (c' := cy) hz (HySl.out.below (monoInt _) hu)
                      unfold ndV at this
                      rw [hyl] at this
                      exact this)
                    have Hlo := Lib.hid (show out.length ≤ 100000 from by have := HS4.out.inv.sz; rw [Hlen.out] at this; omega)
                    obtain ⟨tn, htn, htn0⟩ := HS4.out.inv.unt nn (by simp)
                    have Htn := Lib.hid htn
                    have q0 : decide (tn < 0) = true := by simpa using htn0
                    have hlo : out.length ≤ 100000 := Hlo.out
                    obtain ⟨_, _, _, z3, _⟩ := nd5_cells ((Hbw4.out.block _ (Array.getElem?_eq_some_iff.1 HrX.out).1).trans HrX.out)
                    clear hyl hya htn htn0
                    by_cases hyo : toldNd tab x ∈ out
                    · have hix := List.idxOf_lt_length_of_mem hyo
                      obtain ⟨ix, hixe⟩ : ∃ ix, out.idxOf (toldNd tab x) = ix := ⟨_, rfl⟩
                      rw [hixe] at hix
                      have Hix := Lib.hid hixe
                      have Hyo := Lib.hid hyo
                      have Hfnd := Lib.hid (show ∀ u, Below w4.heap.size w4 u → ShSt W t W.heap.size (T.canon f) (u.setCell ⟨W.heap.size, nn, none⟩ (.int .i64 (ix : Int))) (.slice A5 out.length c5) (.slice (some ⟨b8, off8, none⟩) S.length c8) (tab.set nn (ix : Int)) S out ∧ shMes t (tab.set nn (ix : Int)) S < shMes t tab (nn :: S) from fun u hu => by
                        have := (HS4.out.below hu).found rfl Ho.out Hx.out Htold.out Hyo.out
                        rw [Hix.out] at this
                        exact this)
                      clear hyo hixe
                      go_wp2
                      clear z3
                      go_loopg [15] (out.length + 2) (fun gg i w5 => ∃ q : Nat, i = .int .i64 (q : Int) ∧ gg + q = out.length + 2 ∧ ((q ≤ ix ∧ Hid (Below w4.heap.size w4 w5)) ∨ (q = ix + 1 ∧ Hid (∃ u, Below w4.heap.size w4 u ∧ w5 = u.setCell ⟨W.heap.size, nn, none⟩ (.int .i64 (ix : Int))))))
                      case atStart => exact ⟨0, rfl, rfl, .inl ⟨Nat.zero_le _, Lib.hid (Below.refl _ _)⟩⟩
                      case round =>
                        obtain ⟨q, rfl, hgk, hcase⟩ := hrel
                        have Hgk5 := Lib.hid hgk; clear hgk
                        obtain ⟨w5, rfl⟩ : ∃ w, w = wr := ⟨_, rfl⟩
                        rcases hcase with ⟨hqi, Hbw5⟩ | ⟨rfl, Hu⟩
                        · have HS5 := Lib.hid (HS4.out.below Hbw5.out)
                          have hql : q < out.length := by omega
                          have htc := HS5.out.tab_ Htn.out
                          obtain ⟨z, bz, offz, Az, cz, hz, hA5, hbz, d0, d1, d2, d3, d4, hsz, j0, j1⟩ := nd_cells (HS5.out.own.stAt (ndX_rel _ _) rfl) hql
                          subst hA5
                          have hr5 := (Hbw5.out.block _ (Array.getElem?_eq_some_iff.1 HrY4.out).1).trans HrY4.out
                          obtain ⟨e0, e1, e2, e3, e4⟩ := nd5_cells hr5
                          have Hsz := Lib.hid hsz
                          have Hz := Lib.hid hz
                          obtain ⟨rr, hrr⟩ : ∃ rr, decide (z = toldNd tab x) = rr := ⟨_, rfl⟩
                          have Hrr := Lib.hid hrr
                          obtain ⟨ov⟩ := ov_ex w5
                          have HQ := Lib.hid (fun u => calls_over (ov := ov) (HSame.out z Az cz (ov.f u) (Hbw5.out.trans ((ov.below u).mono Hbw5.out.size)) (Hsz.out.below (monoInt _) (ov.below u))))
                          rw [hrr] at HQ
                          have o0 := ov.cell d0
                          have o1 := ov.cell d1
                          have o2 := ov.cell d2
                          have o3 := ov.cell d3
                          have o4 := ov.cell d4
                          have p0 := ov.cell e0
                          have p1 := ov.cell e1
                          have p2 := ov.cell e2
                          have p3 := ov.cell e3
                          have p4 := ov.cell e4
                          clear hz hbz hsz j0 j1 hr5 hrr d0 d1 d2 d3 d4 e0 e1 e2 e3 e4
                          by_cases hqx : q = ix
                          · have hrt : rr = true := by
                              rw [← Hrr.out, decide_eq_true_eq]
                              have h1 := Hz.out
                              rw [hqx, ← Hix.out, List.getElem?_eq_getElem (by rw [Hix.out]; exact hix)] at h1
                              simpa using h1.symm
                            subst hrt
                            subst hqx
                            go_wp2
                            refine wp_region_ovq ov (by kernel_rfl) (by kernel_rfl) ?_
                            repeat (go_big_quiet_step ((go_at_call 47; with_reducible exact HQ.out _)))
                            refine wpQuiet_nil ?_
                            rintro _ ⟨u, rfl⟩
                            have Hb6 := Lib.hid (Hbw5.out.trans ((ov.below u).mono Hbw5.out.size))
                            clear o0 o1 o2 o3 o4 p0 p1 p2 p3 p4 htc
                            generalize ov.f u = w6 at *
                            have hs6 := HS4.out.below Hb6.out
                            have htc := hs6.tab_ Htn.out
                            have htf : w6.frozen? ⟨W.heap.size, nn, none⟩ = false := frozen_row hs6.row _
                            clear hs6
                            go_wp2
                            go_roundg (gk - 1)
                            case measure => have := Hgk5.out; omega
                            case rel =>
                              have := Hgk5.out
                              exact ⟨q + 1, by go_num, by omega, .inr ⟨rfl, Lib.hid ⟨w6, Hb6.out, rfl⟩⟩⟩
                          · have hrf : rr = false := by
                              rw [← Hrr.out, decide_eq_false_iff_not]
                              intro e
                              have h1 := Hz.out
                              rw [e] at h1
                              have h2 := List.idxOf_lt_length_of_mem Hyo.out
                              have h3 : out.idxOf (toldNd tab x) = q := T.idx_at HS4.out.inv.nd h1 |>.2
                              rw [Hix.out] at h3
                              exact hqx h3.symm
                            subst hrf
                            go_wp2
                            refine wp_region_ovq ov (by kernel_rfl) (by kernel_rfl) ?_
                            repeat (go_big_quiet_step ((go_at_call 47; with_reducible exact HQ.out _)))
                            refine wpQuiet_nil ?_
                            rintro _ ⟨u, rfl⟩
                            have Hb6 := Lib.hid (Hbw5.out.trans ((ov.below u).mono Hbw5.out.size))
                            clear o0 o1 o2 o3 o4 p0 p1 p2 p3 p4 htc
                            generalize ov.f u = w6 at *
                            go_wp2
                            go_roundg (gk - 1)
                            case measure => have := Hgk5.out; omega
                            case rel =>
                              have := Hgk5.out
                              exact ⟨q + 1, by go_num, by omega, .inl ⟨by omega, Hb6⟩⟩
                        · obtain ⟨u, hu, rfl⟩ := Hu.out
                          have hfs := Hfnd.out u hu
                          have Hfs := Lib.hid hfs
                          have htc := hfs.1.tab_ (k := nn) (v := (ix : Int)) (by
                            have hnt : nn < tab.length := by rw [Htl.out]; exact hnn
                            rw [List.getElem?_set, if_pos rfl, if_pos hnt])
                          have q1 : decide ((ix : Int) < 0) = false := by simp
                          clear hfs hu
                          by_cases hlast : ix + 1 < out.length
                          · have q2 : decide ((ix : Int) + 1 < (out.length : Int)) = true := by simp; omega
                            have q3 : decide (ix + 1 < out.length) = true := by simp; omega
                            clear hlast
                            go_wp2
                            go_roundg (shMes t (tab.set nn (ix : Int)) S)
                            case measure => rw [HgO.out]; exact Hfs.out.2
                            case rel => exact ⟨_, S, out, rfl, Lib.hid Hfs.out.1⟩
                          · have q2 : decide ((ix : Int) + 1 < (out.length : Int)) = false := by simp; omega
                            have q3 : decide (ix + 1 < out.length) = false := by simp; omega
                            clear hlast
                            go_wp2
                            go_roundg (shMes t (tab.set nn (ix : Int)) S)
                            case measure => rw [HgO.out]; exact Hfs.out.2
                            case rel => exact ⟨_, S, out, rfl, Lib.hid Hfs.out.1⟩
                    · have Hyo := Lib.hid hyo
                      clear hyo
                      go_wp2
                      clear z3
                      go_loopg [15] (out.length + 1) (fun gg i w5 => ∃ q : Nat, q ≤ out.length ∧ i = .int .i64 (q : Int) ∧ gg + q = out.length + 1 ∧ Hid (Below w4.heap.size w4 w5))
                      case atStart => exact ⟨0, Nat.zero_le _, rfl, rfl, Lib.hid (Below.refl _ _)⟩
                      case round =>
                        obtain ⟨q, hq, rfl, hgk, Hbw5⟩ := hrel
                        have Hgk5 := Lib.hid hgk; clear hgk
                        obtain ⟨w5, rfl⟩ : ∃ w, w = wr := ⟨_, rfl⟩
                        have HS5 := Lib.hid (HS4.out.below Hbw5.out)
                        have htc := HS5.out.tab_ Htn.out
                        by_cases hql : q < out.length
                        · obtain ⟨z, bz, offz, Az, cz, hz, hA5, hbz, d0, d1, d2, d3, d4, hsz, j0, j1⟩ := nd_cells (HS5.out.own.stAt (ndX_rel _ _) rfl) hql
                          subst hA5
                          have hr5 := (Hbw5.out.block _ (Array.getElem?_eq_some_iff.1 HrY4.out).1).trans HrY4.out
                          obtain ⟨e0, e1, e2, e3, e4⟩ := nd5_cells hr5
                          have Hsz := Lib.hid hsz
                          have hrr : decide (z = toldNd tab x) = false := by
                            rw [decide_eq_false_iff_not]
                            intro e
                            rw [e] at hz
                            exact Hyo.out (List.mem_of_getElem? hz)
                          obtain ⟨ov⟩ := ov_ex w5
                          have HQ := Lib.hid (fun u => calls_over (ov := ov) (HSame.out z Az cz (ov.f u) (Hbw5.out.trans ((ov.below u).mono Hbw5.out.size)) (Hsz.out.below (monoInt _) (ov.below u))))
                          rw [hrr] at HQ
                          have o0 := ov.cell d0
                          have o1 := ov.cell d1
                          have o2 := ov.cell d2
                          have o3 := ov.cell d3
                          have o4 := ov.cell d4
                          have p0 := ov.cell e0
                          have p1 := ov.cell e1
                          have p2 := ov.cell e2
                          have p3 := ov.cell e3
                          have p4 := ov.cell e4
                          clear hz hbz hsz j0 j1 hr5 hrr d0 d1 d2 d3 d4 e0 e1 e2 e3 e4
                          go_wp2
                          refine wp_region_ovq ov (by kernel_rfl) (by kernel_rfl) ?_
                          repeat (go_big_quiet_step ((go_at_call 47; with_reducible exact HQ.out _)))
                          refine wpQuiet_nil ?_
                          rintro _ ⟨u, rfl⟩
                          have Hb6 := Lib.hid (Hbw5.out.trans ((ov.below u).mono Hbw5.out.size))
                          clear o0 o1 o2 o3 o4 p0 p1 p2 p3 p4 htc
                          generalize ov.f u = w6 at *
                          go_wp2
                          go_roundg (gk - 1)
                          case measure => have := Hgk5.out; omega
                          case rel =>
                            have := Hgk5.out
                            exact ⟨q + 1, by omega, by go_num, by omega, Hb6⟩
                        · obtain rfl : q = out.length := by omega
                          have htf : w5.frozen? ⟨W.heap.size, nn, none⟩ = false := frozen_row HS5.out.row _
                          obtain ⟨s1, s2, s3, s4⟩ := HS5.out.set nn (.int .i64 (out.length : Int))
                          obtain ⟨Z5, hZ5⟩ : ∃ Z5, Z5 = w5.setCell ⟨W.heap.size, nn, none⟩ (.int .i64 (out.length : Int)) := ⟨_, rfl⟩
                          rw [← hZ5] at s1 s2 s3 s4
                          have hxg : X1.heap.size ≠ W.heap.size := by have := (Array.getElem?_eq_some_iff.1 HS1.out.row).1; omega
                          have hrz : Z5.heap[X1.heap.size]? = some (.cells #[.int .i64 x.op, .int .i64 x.w, .int .i64 x.fl, .slice Ay jj cy, .int .u32 x.imm] 41 (0, 0)) := by
                            rw [hZ5, heap_setCell_other _ _ _ _ hxg]
                            exact (Hbw5.out.block _ (Array.getElem?_eq_some_iff.1 HrY4.out).1).trans HrY4.out
                          obtain ⟨e0, e1, e2, e3, e4⟩ := nd5_cells hrz
                          have Hs1 := Lib.hid s1
                          have hyn := HYa.out.below Hbw5.out HYa.out.lt
                          have Hnd := Lib.hid (show NdX W.heap.size (fun i => i = W.heap.size ∨ (Value.slice (some ⟨b8, off8, none⟩) (S.length + 1) c8).ownBlock = some i) Z5 (ndC (toldNd tab x) Ay cy) (toldNd tab x) from by
                            refine ⟨Ay, cy, rfl, ?_, Hi.out.1, Hi.out.2, fun g hg => ?_⟩
                            · rw [Hyl.out, hZ5]
                              refine hyn.setCell (p := ⟨W.heap.size, nn, none⟩) (fun e => ?_) _
                              have := Hyb.out _ e
                              have h2 := (Array.getElem?_eq_some_iff.1 HS1.out.row).1
                              simp only at this
                              omega
                            · rw [own_pop Ay _ jj] at hg
                              have h1 := Hyb.out g hg
                              have h2 := (Array.getElem?_eq_some_iff.1 HS1.out.row).1
                              have h3 : b8 < X1.heap.size := HS1.out.stk.lt b8 rfl
                              refine ⟨by omega, fun h => ?_⟩
                              rcases h with h | h
                              · omega
                              · simp [Value.ownBlock] at h
                                omega)
                          have Hzs := Lib.hid (show W.heap.size ≤ Z5.heap.size from s2.size)
                          have Hus := Lib.hid (show (ndC (toldNd tab x) Ay cy).toArray = #[.int .i64 x.op, .int .i64 x.w, .int .i64 x.fl, .slice Ay jj cy, .int .u32 x.imm] from by
                            show (#[.int .i64 x.op, .int .i64 x.w, .int .i64 x.fl, .slice Ay (toldNd tab x).args.length cy, .int .u32 x.imm] : Array Value) = _
                            rw [Hyl.out])
                          have Hfr := Lib.hid (show ∀ v' w', OwnR (NdX W.heap.size (fun i => i = W.heap.size ∨ (Value.slice (some ⟨b8, off8, none⟩) (S.length + 1) c8).ownBlock = some i)) W.heap.size w' v' (out ++ [toldNd tab x]) → (Z5.alloc (.cells (ndC (toldNd tab x) Ay cy).toArray 41)).grownBy w' (Value.slice A5 out.length c5).ownBlock → ShSt W t W.heap.size (T.canon f) w' v' (.slice (some ⟨b8, off8, none⟩) S.length c8) (tab.set nn (out.length : Int)) S (out ++ [toldNd tab x]) ∧ shMes t (tab.set nn (out.length : Int)) S < shMes t tab (nn :: S) from fun v' w' h1 h2 => by
                            rw [hZ5] at h2
                            exact HS5.out.fresh rfl Ho.out Hx.out Htold.out Hyo.out h1 h2)
                          rw [hZ5] at e0 e1 e2 e3 e4
                          have HZ5 := Lib.hid hZ5
                          have Hps := Lib.hid (show w5.heap.size = Z5.heap.size from by rw [hZ5]; simp)
                          have q3 : decide ((out.length : Int) < (out.length : Int)) = false := by simp
                          clear s1 s2 s3 s4 hrz hyn hZ5 hxg
                          go_wp2_with (at_builtin; rw [← HZ5.out, ← Hus.out]; refine wpList_append_nodeR2 (ndX_rel W.heap.size _) rfl (.tmp 138) (.tmp 140) rfl _ out rfl Hs1.out (ndC (toldNd tab x) Ay cy) (toldNd tab x) Hnd.out w5.heap.size Hps.out rfl (by omega) Hzs.out ?_; intro v' w7 hown' hgr; have Hfin := Lib.hid (Hfr.out v' w7 hown' hgr); clear hown' hgr)
                          go_roundg (shMes t (tab.set nn (out.length : Int)) S)
                          case measure => rw [HgO.out]; exact Hfin.out.2
                          case rel => exact ⟨_, S, _, rfl, Lib.hid Hfin.out.1⟩
end Go.Proofs.YtmebpgggfppmhaaDoor
end
section
namespace Go.Proofs.YtmebpgggfppmhaaDoor
open Go.RowKit
set_option linter.unusedVariables false
set_option linter.unusedSimpArgs false

theorem R.okTyped_false {r : R.Rl} (h : r.left.all (T.typed r.left) = false ∨ r.right.all (T.typed r.right) = false ∨ ¬ R.rootW r.left ≤ 1 ∨ R.rootW r.right ≠ R.rootW r.left) : R.okTyped r = false := by
  unfold R.okTyped
  rcases h with h | h | h | h
  · rw [h]; simp
  · rw [h]; simp
  · rw [decide_eq_false h]; simp
  · rw [decide_eq_false h]; simp

set_option maxRecDepth 100000 in
set_option maxHeartbeats 16000000 in
theorem rValidate_rule {r : R.Rl} {nl cl nr cr np cp : Nat} {AL AR AP : Option Addr} {W : World} (hR : RlAt W r nl nr np AL AR AP) :
    Calls Tryd.prog 23 #[.agg #[.slice AL nl cl, .slice AR nr cr, .slice AP np cp]] W fun e W' => e = .returned (.int .i64 (R.rvalid r)) ∧ Below W.heap.size W W' := by
  have hlL := hR.sl.le
  have hlR := hR.sr.le
  have hlP := hR.sp.le
  have HlL := Lib.hid hR.sl.len
  have HlR := Lib.hid hR.sr.len
  have HlP := Lib.hid hR.sp.len
  obtain ⟨sA, hsA⟩ : ∃ sA : Nat → Option Addr, sA = fun k => if k = 0 then AL else AR := ⟨_, rfl⟩
  obtain ⟨sN, hsN⟩ : ∃ sN : Nat → Nat, sN = fun k => if k = 0 then nl else nr := ⟨_, rfl⟩
  obtain ⟨sC, hsC⟩ : ∃ sC : Nat → Nat, sC = fun k => if k = 0 then cl else cr := ⟨_, rfl⟩
  obtain ⟨W2, hW2⟩ : ∃ W2, W2 = (W.alloc (.cells #[.slice AL nl cl, .slice AR nr cr, .slice AP np cp] 25)).alloc (.cells #[.slice AL nl cl, .slice AR nr cr] 22) := ⟨_, rfl⟩
  have hb2 : Below W.heap.size W W2 := by rw [hW2]; exact ((Below.refl _ _).alloc (Nat.le_refl _) _).alloc (by simp) _
  have hr0 : W2.heap[W.heap.size]? = some (.cells #[.slice AL nl cl, .slice AR nr cr, .slice AP np cp] 25 (0, 0)) := by rw [hW2]; exact row_alloc (heap_alloc_new W _) _
  have hr1 : W2.heap[W.heap.size + 1]? = some (.cells #[.slice AL nl cl, .slice AR nr cr] 22 (0, 0)) := by rw [hW2]; exact new_two W _ _
  have HR2 := Lib.hid (hR.below hb2)
  have Hc := Lib.hid (show ∀ X, Below W2.heap.size W2 X → X.cell? ⟨W.heap.size, 0, none⟩ = some (.slice AL nl cl) ∧ X.cell? ⟨W.heap.size, 1, none⟩ = some (.slice AR nr cr) ∧ X.cell? ⟨W.heap.size, 2, none⟩ = some (.slice AP np cp) from fun X hX => by
    obtain ⟨h0, h1, h2, _⟩ := rl_cells ((hX.block _ (Array.getElem?_eq_some_iff.1 hr0).1).trans hr0)
    exact ⟨h0, h1, h2⟩)
  have Hd := Lib.hid (show ∀ X, Below W2.heap.size W2 X → ∀ s, s < 2 → X.cell? ⟨W.heap.size + 1, s, none⟩ = some (.slice (sA s) (sN s) (sC s)) from fun X hX s hs => by
    have h := (hX.block _ (Array.getElem?_eq_some_iff.1 hr1).1).trans hr1
    rw [cell_of_row _ _ _ _ _ (0, 0) h, hsA, hsN, hsC]
    rcases (show s = 0 ∨ s = 1 by omega) with rfl | rfl <;> rfl)
  have HSt := Lib.hid (show ∀ X, Below W2.heap.size W2 X → ∀ s, s < 2 → StAt 5 NdR X (sA s) (sN s) (R.side r s) from fun X hX s hs => by
    have h := HR2.out.below hX
    rw [hsA, hsN]
    rcases (show s = 0 ∨ s = 1 by omega) with rfl | rfl
    · exact h.sl
    · exact h.sr)
  have HsN := Lib.hid (show sN 0 = nl ∧ sN 1 = nr from by rw [hsN]; exact ⟨rfl, rfl⟩)
  have Hb2 := Lib.hid hb2
  have HW2 := Lib.hid hW2
  have HsL := Lib.hid (show ∀ s, s < 2 → sN s ≤ 9223372036854775807 from fun s hs => (HSt.out W2 (Below.refl _ _) s hs).le)
  have HsE := Lib.hid (show ∀ s, s < 2 → (R.side r s).length = sN s from fun s hs => (HSt.out W2 (Below.refl _ _) s hs).len)
  obtain ⟨e, he⟩ : ∃ e, R.rvalid r = e := ⟨_, rfl⟩
  rw [he]
  have He := Lib.hid he
  obtain ⟨z0, z1, z2⟩ := Hc.out W2 (Below.refl _ _)
  have y0 := Hd.out W2 (Below.refl _ _) 0 (by omega)
  rw [hW2] at z0 z1 z2
  clear hR hb2 hr0 hr1 hW2 hsA hsN hsC he y0
  go_enter Tryd.func23, Tryd.ntmps23
  go_wp2
  rw [← HW2.out]
  clear z0 z1 z2
  go_loop [4] (fun i => ∃ s : Nat, s ≤ 2 ∧ i = .int .i64 (s : Int) ∧ Hid (∀ k, k < s → 1 ≤ sN k ∧ sN k ≤ 12)) (fun i => 2 - (intOf i).toNat)
  case atStart => exact ⟨0, by omega, rfl, Lib.hid (fun k hk => by omega)⟩
  case round =>
    obtain ⟨s, hs, rfl, Hall⟩ := hrel
    by_cases hs2 : s < 2
    · have y := Hd.out W2 (Below.refl _ _) s hs2
      have hsl := HsL.out s hs2
      by_cases h1 : sN s < 1
      · have q1 : decide ((sN s : Int) < 1) = true := by simp; omega
        have Hr := Lib.hid (show e = 3 from by
          rw [← He.out]
          refine R.rvalid_len ?_
          have := HsN.out
          rw [HlL.out, HlR.out, HlP.out]
          rcases (show s = 0 ∨ s = 1 by omega) with rfl | rfl <;> omega)
        clear h1
        go_wp2
        go_ret
        exact ⟨ret_int Hr.out.symm, Hb2.out⟩
      have q1 : decide ((sN s : Int) < 1) = false := by simp; omega
      by_cases h2 : 12 < sN s
      · have q2 : decide (12 < (sN s : Int)) = true := by simp; omega
        have Hr := Lib.hid (show e = 3 from by
          rw [← He.out]
          refine R.rvalid_len ?_
          have := HsN.out
          rw [HlL.out, HlR.out, HlP.out]
          rcases (show s = 0 ∨ s = 1 by omega) with rfl | rfl <;> omega)
        clear h1 h2
        go_wp2
        go_ret
        exact ⟨ret_int Hr.out.symm, Hb2.out⟩
      have q2 : decide (12 < (sN s : Int)) = false := by simp; omega
      have Ht := Lib.hid (show ∀ k, k < s + 1 → 1 ≤ sN k ∧ sN k ≤ 12 from fun k hk => by
        rcases Nat.lt_or_ge k s with h | h
        · exact Hall.out k h
        · obtain rfl : k = s := by omega
          omega)
      clear h1 h2
      go_wp2
      go_round
      case rel => exact ⟨s + 1, by omega, by go_num, Ht⟩
      case measure => simp [intOf]; omega
    obtain rfl : s = 2 := by omega
    have Hln := Hall
    obtain ⟨_, _, c2⟩ := Hc.out W2 (Below.refl _ _)
    clear hs2
    by_cases hp4 : 4 < np
    · have q2 : decide (4 < (np : Int)) = true := by simp; omega
      have Hr := Lib.hid (show e = 3 from by
        rw [← He.out]
        refine R.rvalid_len ?_
        rw [HlL.out, HlR.out, HlP.out]
        omega)
      clear hp4
      go_wp2
      go_ret
      exact ⟨ret_int Hr.out.symm, Hb2.out⟩
    have q2 : decide (4 < (np : Int)) = false := by simp; omega
    have Hnext := Lib.hid (show e = if (R.okSide r 0 && R.okSide r 1) = false then 1 else if (r.pre.all R.cdOk) = false then 1 else if R.okTyped r = false then 6 else if ((r.right.all fun x => (!decide (x.op = 33 ∨ x.op = 34)) || R.occ r.left x.op x.imm) && (r.pre.all fun c => R.occ r.left 34 c.hole)) = false then 7 else 0 from by
      rw [← He.out]
      refine R.rvalid_next ?_
      have h0 := Hln.out 0 (by omega)
      have h1 := Hln.out 1 (by omega)
      have := HsN.out
      rw [HlL.out, HlR.out, HlP.out]
      omega)
    have hnp4 : np ≤ 4 := by omega
    clear hp4 He
    go_wp2
    clear c2 q2
    go_loopg [5] 3 (fun gg i wr => ∃ s : Nat, s ≤ 2 ∧ i = .int .i64 (s : Int) ∧ gg + s = 3 ∧ Hid (Below W2.heap.size W2 wr) ∧ Hid (∀ k, k < s → R.okSide r k = true))
    case atStart => exact ⟨0, by omega, rfl, rfl, Lib.hid (Below.refl _ _), Lib.hid (fun k hk => by omega)⟩
    case round =>
      obtain ⟨s, hs, rfl, hgk, Hbw, Hok⟩ := hrel
      obtain ⟨gO, rfl⟩ : ∃ g, g = gk := ⟨_, rfl⟩
      obtain ⟨w3, rfl⟩ : ∃ w, w = wr := ⟨_, rfl⟩
      have HgO := Lib.hid hgk; clear hgk
      by_cases hs2 : s < 2
      · have hsl := HsL.out s hs2
        have qs : decide ((s : Int) < 2) = true := by simp; omega
        go_wp2
        clear qs
        go_loopg [6] (sN s + 1) (fun gg i w4 => ∃ j : Nat, j ≤ sN s ∧ i = .int .i64 (j : Int) ∧ gg + j = sN s + 1 ∧ Hid (Below W2.heap.size W2 w4) ∧ Hid (∀ i x, i < j → (R.side r s)[i]? = some x → R.pnode (R.side r s) ((s : Int) == 1) i x = true))
        case atStart => exact ⟨0, Nat.zero_le _, rfl, rfl, Hbw, Lib.hid (fun i x hi => by omega)⟩
        case round =>
          obtain ⟨j, hj, rfl, hgk, Hbw4, Hpn⟩ := hrel
          obtain ⟨w4, rfl⟩ : ∃ w, w = wr := ⟨_, rfl⟩
          have Hgk := Lib.hid hgk; clear hgk
          have y := Hd.out w4 Hbw4.out s hs2
          by_cases hjn : j < sN s
          · obtain ⟨x, hx⟩ : ∃ x, (R.side r s)[j]? = some x := ⟨_, List.getElem?_eq_getElem (by rw [HsE.out s hs2]; exact hjn)⟩
            have Hcall := Lib.hid (rargument_pat (cp := sC s) (left := ((s : Int) == 0)) (HSt.out w4 Hbw4.out s hs2) hjn x hx)
            have eb : (!((s : Int) == 0)) = ((s : Int) == 1) := by rcases (show s = 0 ∨ s = 1 by omega) with rfl | rfl <;> rfl
            rw [eb] at Hcall
            have Hx := Lib.hid hx
            obtain ⟨b, hb⟩ : ∃ b, R.pnode (R.side r s) ((s : Int) == 1) j x = b := ⟨_, rfl⟩
            rw [hb] at Hcall
            have Hb := Lib.hid hb
            clear hx hb eb
            cases b with
            | false =>
              have Hr := Lib.hid (show e = 1 from by
                have hf : R.okSide r s = false := R.okSide_bad Hx.out Hb.out
                rw [Hnext.out, if_pos]
                rcases (show s = 0 ∨ s = 1 by omega) with rfl | rfl
                · rw [hf]; rfl
                · rw [hf]; simp)
              go_wp2_with fail
              (with_reducible refine Hcall.out.mono ?_)
              rintro e w5 ⟨rfl, hb5⟩
              have Hb5 := Lib.hid (Hb2.out.trans ((Hbw4.out.trans (hb5.mono Hbw4.out.size)).mono Hb2.out.size))
              clear hb5 y
              go_wp2
              go_ret
              exact ⟨ret_int Hr.out.symm, Hb5.out⟩
            | true =>
              have Ht := Lib.hid (show ∀ i x, i < j + 1 → (R.side r s)[i]? = some x → R.pnode (R.side r s) ((s : Int) == 1) i x = true from fun i z hi hz => by
                rcases Nat.lt_or_ge i j with h | h
                · exact Hpn.out i z h hz
                · obtain rfl : i = j := by omega
                  rw [Hx.out] at hz
                  cases hz
                  exact Hb.out)
              go_wp2_with fail
              (with_reducible refine Hcall.out.mono ?_)
              rintro e w5 ⟨rfl, hb5⟩
              have Hb5 := Lib.hid (Hbw4.out.trans (hb5.mono Hbw4.out.size))
              clear hb5 y
              go_wp2
              go_roundg (gk - 1)
              case measure => have := Hgk.out; omega
              case rel =>
                have := Hgk.out
                exact ⟨j + 1, by omega, by go_num, by omega, Hb5, Ht⟩
          · obtain rfl : j = sN s := by omega
            have Ht := Lib.hid (show ∀ k, k < s + 1 → R.okSide r k = true from fun k hk => by
              rcases Nat.lt_or_ge k s with h | h
              · exact Hok.out k h
              · obtain rfl : k = s := by omega
                exact R.okSide_iff.2 fun i x hx => Hpn.out i x (by have := (List.getElem?_eq_some_iff.1 hx).1; rw [HsE.out k hs2] at this; exact this) hx)
            go_wp2
            go_roundg (gO - 1)
            case measure => have := HgO.out; omega
            case rel =>
              have := HgO.out
              exact ⟨s + 1, by omega, by go_num, by omega, Hbw4, Ht⟩
      obtain rfl : s = 2 := by omega
      have Hn2 := Lib.hid (show e = if (r.pre.all R.cdOk) = false then 1 else if R.okTyped r = false then 6 else if ((r.right.all fun x => (!decide (x.op = 33 ∨ x.op = 34)) || R.occ r.left x.op x.imm) && (r.pre.all fun c => R.occ r.left 34 c.hole)) = false then 7 else 0 from by
        rw [Hnext.out, if_neg]
        rw [Hok.out 0 (by omega), Hok.out 1 (by omega)]
        simp)
      have HokL := Lib.hid (show ∀ i x, r.left[i]? = some x → R.pnode r.left false i x = true from R.okSide_iff.1 (Hok.out 0 (by omega)))
      have HokR := Lib.hid (show ∀ i x, r.right[i]? = some x → R.pnode r.right true i x = true from R.okSide_iff.1 (Hok.out 1 (by omega)))
      clear hs2
      go_wp2
      go_loopg [7] (np + 1) (fun gg i wr => ∃ j : Nat, j ≤ np ∧ i = .int .i64 (j : Int) ∧ gg + j = np + 1 ∧ Hid (Below W2.heap.size W2 wr) ∧ Hid ((r.pre.take j).all R.cdOk = true))
      case atStart => exact ⟨0, Nat.zero_le _, rfl, rfl, Hbw, Lib.hid rfl⟩
      case round =>
        obtain ⟨j, hj, rfl, hgk, Hbw4, Hcd⟩ := hrel
        obtain ⟨w4, rfl⟩ : ∃ w, w = wr := ⟨_, rfl⟩
        have Hgk := Lib.hid hgk; clear hgk
        obtain ⟨_, _, y2⟩ := Hc.out w4 Hbw4.out
        by_cases hjn : j < np
        · obtain ⟨x, b, off, hx, hA, hb, d0, d1, d2, i0, i1⟩ := cd_cells ((HR2.out.below Hbw4.out).sp) hjn
          subst hA
          have Hcall := Lib.hid (rcond_any x w4)
          have Hx := Lib.hid hx
          obtain ⟨bb, hbb⟩ : ∃ bb, R.cdOk x = bb := ⟨_, rfl⟩
          rw [hbb] at Hcall
          have Hbb := Lib.hid hbb
          clear hx hb i0 i1 hbb
          cases bb with
          | false =>
            have Hr := Lib.hid (show e = 1 from by
              rw [Hn2.out, if_pos]
              rw [List.all_eq_false]
              exact ⟨x, List.mem_of_getElem? Hx.out, by rw [Hbb.out]; simp⟩)
            go_wp2_with fail
            (with_reducible refine Hcall.out.mono ?_)
            rintro e w5 ⟨rfl, hb5⟩
            have Hb5 := Lib.hid (Hb2.out.trans ((Hbw4.out.trans (hb5.mono Hbw4.out.size)).mono Hb2.out.size))
            clear hb5 y2 d0 d1 d2
            go_wp2
            go_ret
            exact ⟨ret_int Hr.out.symm, Hb5.out⟩
          | true =>
            have Ht := Lib.hid (show (r.pre.take (j + 1)).all R.cdOk = true from by rw [take_next Hx.out, List.all_append, Hcd.out]; simp [Hbb.out])
            go_wp2_with fail
            (with_reducible refine Hcall.out.mono ?_)
            rintro e w5 ⟨rfl, hb5⟩
            have Hb5 := Lib.hid (Hbw4.out.trans (hb5.mono Hbw4.out.size))
            clear hb5 y2 d0 d1 d2
            go_wp2
            go_roundg (gk - 1)
            case measure => have := Hgk.out; omega
            case rel =>
              have := Hgk.out
              exact ⟨j + 1, by omega, by go_num, by omega, Hb5, Ht⟩
        obtain rfl : j = np := by omega
        have Hcds := Lib.hid (show r.pre.all R.cdOk = true from by
          have := Hcd.out
          rw [List.take_of_length_le (by rw [HlP.out]; exact Nat.le_refl _)] at this
          exact this)
        have Hn3 := Lib.hid (show e = if R.okTyped r = false then 6 else if ((r.right.all fun x => (!decide (x.op = 33 ∨ x.op = 34)) || R.occ r.left x.op x.imm) && (r.pre.all fun c => R.occ r.left 34 c.hole)) = false then 7 else 0 from by rw [Hn2.out, if_neg (by rw [Hcds.out]; simp)])
        have Hpn := Lib.hid (show ∀ s, s < 2 → ∃ right, ∀ i x, (R.side r s)[i]? = some x → R.pnode (R.side r s) right i x = true from fun s hs => by
          rcases (show s = 0 ∨ s = 1 by omega) with rfl | rfl
          · exact ⟨false, HokL.out⟩
          · exact ⟨true, HokR.out⟩)
        clear hjn Hcd
        go_wp2
        clear y2
        go_loopg [8] 3 (fun gg i wr => ∃ s : Nat, s ≤ 2 ∧ i = .int .i64 (s : Int) ∧ gg + s = 3 ∧ Hid (Below W2.heap.size W2 wr) ∧ Hid (∀ k, k < s → (R.side r k).all (T.typed (R.side r k)) = true))
        case atStart => exact ⟨0, by omega, rfl, rfl, Hbw4, Lib.hid (fun k hk => by omega)⟩
        case round =>
          obtain ⟨s, hs, rfl, hgk, Hbw, Htp⟩ := hrel
          obtain ⟨gO, rfl⟩ : ∃ g, g = gk := ⟨_, rfl⟩
          obtain ⟨w6, rfl⟩ : ∃ w, w = wr := ⟨_, rfl⟩
          have HgO := Lib.hid hgk; clear hgk
          by_cases hs2 : s < 2
          · have hsl := HsL.out s hs2
            have qs : decide ((s : Int) < 2) = true := by simp; omega
            go_wp2
            clear qs
            go_loopg [9] (sN s + 1) (fun gg i w4 => ∃ j : Nat, j ≤ sN s ∧ i = .int .i64 (j : Int) ∧ gg + j = sN s + 1 ∧ Hid (Below W2.heap.size W2 w4) ∧ Hid (((R.side r s).take j).all (T.typed (R.side r s)) = true))
            case atStart => exact ⟨0, Nat.zero_le _, rfl, rfl, Hbw, Lib.hid rfl⟩
            case round =>
              obtain ⟨q, hq, rfl, hgk, Hbw7, Hty⟩ := hrel
              obtain ⟨w7, rfl⟩ : ∃ w, w = wr := ⟨_, rfl⟩
              have Hgk7 := Lib.hid hgk; clear hgk
              have y := Hd.out w7 Hbw7.out s hs2
              by_cases hqn : q < sN s
              · have hSs := HSt.out w7 Hbw7.out s hs2
                obtain ⟨x, b, off, A, c, hx, hA, hb, d0, d1, d2, d3, d4, hsx, i0, i1⟩ := nd_cells hSs hqn
                have HSs := Lib.hid hSs
                have Hx := Lib.hid hx
                have Hsx := Lib.hid hsx
                obtain ⟨ov⟩ := ov_ex w7
                obtain ⟨bb, hbb⟩ : ∃ bb, T.typed (R.side r s) x = bb := ⟨_, rfl⟩
                have Hbb := Lib.hid hbb
                have HQ := Lib.hid (show ∀ u, Calls Tryd.prog 60 #[.slice (sA s) (sN s) (sC s), .agg #[.int .i64 x.op, .int .i64 x.w, .int .i64 x.fl, .slice A x.args.length c, .int .u32 x.imm]] (ov.f u) (fun e w' => e = .returned (.bool bb) ∧ ∃ m, w' = ov.f m) from fun u => by
                  obtain ⟨right, hp⟩ := Hpn.out s hs2
                  have hpx := hp q x Hx.out
                  have hl := R.pnode_len hpx
                  have := rtyped_any (R.side r s) x (sN s) (sC s) (sA s) A c (ov.f u) (HSs.out.below monoNd (ov.below u)) (Hsx.out.below (monoInt _) (ov.below u)) hl.1 hl.2 (fun a ha => by have := R.pnode_args hpx a ha; omega)
                  rw [hbb] at this
                  exact calls_over this)
                have o0 := ov.cell y
                have p0 := ov.cell d0
                have p1 := ov.cell d1
                have p2 := ov.cell d2
                have p3 := ov.cell d3
                have p4 := ov.cell d4
                rw [hA] at o0 y HQ
                clear hx hb hsx i0 i1 hbb d0 d1 d2 d3 d4 hSs
                cases bb with
                | false =>
                  have Hr := Lib.hid (show e = 6 from by
                    have hf : (R.side r s).all (T.typed (R.side r s)) = false := by
                      rw [List.all_eq_false]
                      exact ⟨x, List.mem_of_getElem? Hx.out, by rw [Hbb.out]; simp⟩
                    rw [Hn3.out, if_pos]
                    rcases (show s = 0 ∨ s = 1 by omega) with rfl | rfl
                    · exact R.okTyped_false (.inl hf)
                    · exact R.okTyped_false (.inr (.inl hf)))
                  go_wp2
                  refine wp_region_ovq ov (by kernel_rfl) (by kernel_rfl) ?_
                  repeat (go_big_quiet_step ((go_at_call 60; with_reducible exact HQ.out _)))
                  refine wpQuiet_nil ?_
                  rintro _ ⟨u, rfl⟩
                  have Hb8 := Lib.hid (Hb2.out.trans ((Hbw7.out.trans ((ov.below u).mono Hbw7.out.size)).mono Hb2.out.size))
                  clear o0 p0 p1 p2 p3 p4 y
                  generalize ov.f u = w8 at *
                  go_wp2
                  go_ret
                  exact ⟨ret_int Hr.out.symm, Hb8.out⟩
                | true =>
                  have Ht := Lib.hid (show ((R.side r s).take (q + 1)).all (T.typed (R.side r s)) = true from by rw [take_next Hx.out, List.all_append, Hty.out]; simp [Hbb.out])
                  go_wp2
                  refine wp_region_ovq ov (by kernel_rfl) (by kernel_rfl) ?_
                  repeat (go_big_quiet_step ((go_at_call 60; with_reducible exact HQ.out _)))
                  refine wpQuiet_nil ?_
                  rintro _ ⟨u, rfl⟩
                  have Hb8 := Lib.hid (Hbw7.out.trans ((ov.below u).mono Hbw7.out.size))
                  clear o0 p0 p1 p2 p3 p4 y
                  generalize ov.f u = w8 at *
                  go_wp2
                  go_roundg (gk - 1)
                  case measure => have := Hgk7.out; omega
                  case rel =>
                    have := Hgk7.out
                    exact ⟨q + 1, by omega, by go_num, by omega, Hb8, Ht⟩
              · obtain rfl : q = sN s := by omega
                have Ht := Lib.hid (show ∀ k, k < s + 1 → (R.side r k).all (T.typed (R.side r k)) = true from fun k hk => by
                  rcases Nat.lt_or_ge k s with h | h
                  · exact Htp.out k h
                  · obtain rfl : k = s := by omega
                    have := Hty.out
                    rw [List.take_of_length_le (by rw [HsE.out k hs2]; exact Nat.le_refl _)] at this
                    exact this)
                go_wp2
                go_roundg (gO - 1)
                case measure => have := HgO.out; omega
                case rel =>
                  have := HgO.out
                  exact ⟨s + 1, by omega, by go_num, by omega, Hbw7, Ht⟩
          obtain rfl : s = 2 := by omega
          have Ht0 := Lib.hid (show r.left.all (T.typed r.left) = true from Htp.out 0 (by omega))
          have Ht1 := Lib.hid (show r.right.all (T.typed r.right) = true from Htp.out 1 (by omega))
          obtain ⟨ml, hml⟩ : ∃ m, nl = m + 1 := ⟨nl - 1, by have := (Hln.out 0 (by omega)).1; have := HsN.out; omega⟩
          obtain ⟨mr, hmr⟩ : ∃ m, nr = m + 1 := ⟨nr - 1, by have := (Hln.out 1 (by omega)).1; have := HsN.out; omega⟩
          have hml12 : ml ≤ 11 := by have := (Hln.out 0 (by omega)).2; have := HsN.out; omega
          have hmr12 : mr ≤ 11 := by have := (Hln.out 1 (by omega)).2; have := HsN.out; omega
          subst hml
          subst hmr
          have hR6 := HR2.out.below Hbw.out
          obtain ⟨xl, bl, offl, Al, cxl, hxl, hAL, hbl, l0, l1, l2, l3, l4, _, _, _⟩ := nd_cells hR6.sl (j := ml) (by omega)
          obtain ⟨xr, br, offr, Ar, cxr, hxr, hAR, hbr, r0, r1, r2, r3, r4, _, _, _⟩ := nd_cells hR6.sr (j := mr) (by omega)
          obtain ⟨y0, y1, y2⟩ := Hc.out w6 Hbw.out
          rw [hAL] at y0
          rw [hAR] at y1
          have hrl : R.rootW r.left = xl.w := by unfold R.rootW; rw [HlL.out, List.getD_eq_getElem?_getD, show ml + 1 - 1 = ml by omega, hxl]; rfl
          have hrr : R.rootW r.right = xr.w := by unfold R.rootW; rw [HlR.out, List.getD_eq_getElem?_getD, show mr + 1 - 1 = mr by omega, hxr]; rfl
          have Hty := Lib.hid (show R.okTyped r = (decide (xl.w ≤ 1) && decide (xr.w = xl.w)) from by unfold R.okTyped; rw [Ht0.out, Ht1.out, hrl, hrr]; rfl)
          have HAL := Lib.hid hAL
          have HAR := Lib.hid hAR
          have eml : (ml : Int) + 1 - 1 = (ml : Int) := by omega
          have emr : (mr : Int) + 1 - 1 = (mr : Int) := by omega
          clear hs2 hR6 hxl hxr hbl hbr hrl hrr l0 l2 l3 l4 r0 r2 r3 r4 y2 hAL hAR
          go_wp2
          go_quiet (fail)
          generalize hW8 : w6.drewN _ = w8
          have Hb8 := Lib.hid (Hbw.out.dr ⟨_, hW8.symm⟩)
          clear hW8 y0 y1 l1 r1
          by_cases hww : xl.w = xr.w
          rotate_left
          · have q1 : (xl.w != xr.w) = true := by simpa using hww
            have Hr := Lib.hid (show e = 6 from by rw [Hn3.out, if_pos]; rw [Hty.out, decide_eq_false (show ¬ xr.w = xl.w from fun h => hww h.symm)]; simp)
            clear hww
            go_wp2
            go_ret
            exact ⟨ret_int Hr.out.symm, Hb2.out.trans (Hb8.out.mono Hb2.out.size)⟩
          have q1 : (xl.w != xr.w) = false := by simpa using hww
          by_cases hw1 : 1 < xl.w
          · have q2 : decide (1 < xl.w) = true := by simpa using hw1
            have Hr := Lib.hid (show e = 6 from by rw [Hn3.out, if_pos]; rw [Hty.out, decide_eq_false (show ¬ xl.w ≤ 1 by omega)]; rfl)
            clear hww hw1
            go_wp2
            go_ret
            exact ⟨ret_int Hr.out.symm, Hb2.out.trans (Hb8.out.mono Hb2.out.size)⟩
          have q2 : decide (1 < xl.w) = false := by simpa using hw1
          have Hn4 := Lib.hid (show e = if ((r.right.all fun x => (!decide (x.op = 33 ∨ x.op = 34)) || R.occ r.left x.op x.imm) && (r.pre.all fun c => R.occ r.left 34 c.hole)) = false then 7 else 0 from by
            rw [Hn3.out, if_neg]
            rw [Hty.out, decide_eq_true (show xl.w ≤ 1 by omega), decide_eq_true hww.symm]
            simp)
          have hord := R.pnode_ord HokL.out
          have hpos : 1 ≤ r.left.length := by rw [HlL.out]; omega
          have hroot := T.root_rep hord hpos
          have Hocc := Lib.hid (show ∀ o i, R.occ r.left o i = R.names (T.canon (T.root r.left)) o i from fun o i => R.occ_canon hord (by omega) hroot o i)
          rw [HlL.out, show ((ml + 1 : Nat) : Int) - 1 = (ml : Int) by omega] at hroot
          have Hsh := Lib.hid (Shared_any (ct := cl) ((HR2.out.below Hb8.out).sl) hord (by omega) (fun x hx => by
            obtain ⟨k, hk⟩ := List.mem_iff_getElem?.1 hx
            have := R.pnode_small (HokL.out k x hk); omega) (show ml < ml + 1 by omega) (T.root r.left) hroot)
          obtain ⟨y0, y1, y2⟩ := Hc.out w8 Hb8.out
          clear hww hw1 hord hpos hroot
          go_wp2_with fail
          (with_reducible refine Hsh.out.mono ?_)
          rintro e w9 ⟨v9, rfl, hown9, hb9⟩
          obtain ⟨A9, c9, rfl⟩ := hown9.form
          have Hb9 := Lib.hid (Hb8.out.trans (hb9.mono Hb8.out.size))
          have HS9 := Lib.hid (hown9.stAt (ndF_rel _) rfl)
          obtain ⟨nc, hnc⟩ : ∃ nc, (T.canon (T.root r.left)).length = nc := ⟨_, rfl⟩
          rw [hnc] at HS9 ⊢
          clear hown9 hb9 y0 y1 y2 hnc
          have Hnm := Lib.hid (show ∀ X, Below w9.heap.size w9 X → ∀ o i, Calls Tryd.prog 61 #[.slice A9 nc c9, .int .i64 o, .int .u32 i] X fun e W' => e = .returned (.bool (R.occ r.left o i)) ∧ X = W' from fun X hX o i => by
            have := rnames_any (T.canon (T.root r.left)) nc c9 A9 o i X (HS9.out.below monoNd hX)
            rw [← Hocc.out] at this
            exact this)
          obtain ⟨y0, y1, y2⟩ := Hc.out w9 Hb9.out
          go_wp2
          clear y0 y1 y2
          go_loopg [13] (mr + 2) (fun gg i wr => ∃ j : Nat, j ≤ mr + 1 ∧ i = .int .i64 (j : Int) ∧ gg + j = mr + 2 ∧ Hid (Below w9.heap.size w9 wr) ∧ Hid ((r.right.take j).all (fun x => (!decide (x.op = 33 ∨ x.op = 34)) || R.occ r.left x.op x.imm) = true))
          case atStart => exact ⟨0, by omega, rfl, rfl, Lib.hid (Below.refl _ _), Lib.hid rfl⟩
          case round =>
            obtain ⟨q, hq, rfl, hgk, Hbwq, Hoq⟩ := hrel
            obtain ⟨wq, rfl⟩ : ∃ w, w = wr := ⟨_, rfl⟩
            have Hgkq := Lib.hid hgk; clear hgk
            have Hbq := Lib.hid (Hb9.out.trans (Hbwq.out.mono Hb9.out.size))
            obtain ⟨y0, y1, y2⟩ := Hc.out wq Hbq.out
            by_cases hqn : q < mr + 1
            · obtain ⟨x, b, off, A, c, hx, hA, hb, d0, d1, d2, d3, d4, hsx, i0, i1⟩ := nd_cells ((HR2.out.below Hbq.out).sr) hqn
              subst hA
              obtain ⟨X1, hX1⟩ : ∃ X1, X1 = wq.alloc (.cells #[.int .i64 x.op, .int .i64 x.w, .int .i64 x.fl, .slice A x.args.length c, .int .u32 x.imm] 41) := ⟨_, rfl⟩
              have hbX : Below wq.heap.size wq X1 := by rw [hX1]; exact (Below.refl _ _).alloc (Nat.le_refl _) _
              have hrX : X1.heap[wq.heap.size]? = some (.cells #[.int .i64 x.op, .int .i64 x.w, .int .i64 x.fl, .slice A x.args.length c, .int .u32 x.imm] 41 (0, 0)) := by rw [hX1]; exact heap_alloc_new wq _
              obtain ⟨x0, x1, x2, x3, x4⟩ := nd5_cells hrX
              have HbX := Lib.hid (Hbwq.out.trans (hbX.mono Hbwq.out.size))
              have Hx := Lib.hid hx
              have HX1 := Lib.hid hX1
              have Hca := Lib.hid (Hnm.out X1 HbX.out x.op x.imm)
              rw [hX1] at x0 x1 x2 x3 x4
              clear hx hb hsx i0 i1 hX1 hbX hrX
              by_cases ho : x.op = 33 ∨ x.op = 34
              · obtain ⟨bb, hbb⟩ : ∃ bb, R.occ r.left x.op x.imm = bb := ⟨_, rfl⟩
                rw [hbb] at Hca
                have Hbb := Lib.hid hbb
                have Ho := Lib.hid ho
                clear hbb
                cases bb with
                | true =>
                  have Ht := Lib.hid (show (r.right.take (q + 1)).all (fun x => (!decide (x.op = 33 ∨ x.op = 34)) || R.occ r.left x.op x.imm) = true from by rw [take_next Hx.out, List.all_append, Hoq.out]; simp [Hbb.out])
                  by_cases h33 : x.op = 33
                  · have p1 : (x.op == 33) = true := by simpa using h33
                    clear ho h33
                    go_wp2_with fail
                    rw [← HX1.out]
                    (with_reducible refine Hca.out.mono ?_)
                    rintro e w10 ⟨rfl, rfl⟩
                    clear x0 x1 x2 x3 x4 d0 d1 d2 d3 d4 y0 y1 y2
                    go_wp2
                    go_roundg (gk - 1)
                    case measure => have := Hgkq.out; omega
                    case rel =>
                      have := Hgkq.out
                      exact ⟨q + 1, by omega, by go_num, by omega, HbX, Ht⟩
                  · have p1 : (x.op == 33) = false := by simpa using h33
                    have p2 : (x.op == 34) = true := by simp; omega
                    clear ho h33
                    go_wp2_with fail
                    rw [← HX1.out]
                    (with_reducible refine Hca.out.mono ?_)
                    rintro e w10 ⟨rfl, rfl⟩
                    clear x0 x1 x2 x3 x4 d0 d1 d2 d3 d4 y0 y1 y2
                    go_wp2
                    go_roundg (gk - 1)
                    case measure => have := Hgkq.out; omega
                    case rel =>
                      have := Hgkq.out
                      exact ⟨q + 1, by omega, by go_num, by omega, HbX, Ht⟩
                | false =>
                  have Hr := Lib.hid (show e = 7 from by
                    have hf : (r.right.all fun x => (!decide (x.op = 33 ∨ x.op = 34)) || R.occ r.left x.op x.imm) = false := by
                      rw [List.all_eq_false]
                      exact ⟨x, List.mem_of_getElem? Hx.out, by rw [Hbb.out, decide_eq_true Ho.out]; simp⟩
                    rw [Hn4.out, if_pos]
                    rw [hf]; rfl)
                  by_cases h33 : x.op = 33
                  · have p1 : (x.op == 33) = true := by simpa using h33
                    clear ho h33
                    go_wp2_with fail
                    rw [← HX1.out]
                    (with_reducible refine Hca.out.mono ?_)
                    rintro e w10 ⟨rfl, rfl⟩
                    clear x0 x1 x2 x3 x4 d0 d1 d2 d3 d4 y0 y1 y2
                    go_wp2
                    go_ret
                    exact ⟨ret_int Hr.out.symm, Hb2.out.trans ((Hb9.out.trans (HbX.out.mono Hb9.out.size)).mono Hb2.out.size)⟩
                  · have p1 : (x.op == 33) = false := by simpa using h33
                    have p2 : (x.op == 34) = true := by simp; omega
                    clear ho h33
                    go_wp2_with fail
                    rw [← HX1.out]
                    (with_reducible refine Hca.out.mono ?_)
                    rintro e w10 ⟨rfl, rfl⟩
                    clear x0 x1 x2 x3 x4 d0 d1 d2 d3 d4 y0 y1 y2
                    go_wp2
                    go_ret
                    exact ⟨ret_int Hr.out.symm, Hb2.out.trans ((Hb9.out.trans (HbX.out.mono Hb9.out.size)).mono Hb2.out.size)⟩
              · have p1 : (x.op == 33) = false := by simp; omega
                have p2 : (x.op == 34) = false := by simp; omega
                have Ht := Lib.hid (show (r.right.take (q + 1)).all (fun x => (!decide (x.op = 33 ∨ x.op = 34)) || R.occ r.left x.op x.imm) = true from by rw [take_next Hx.out, List.all_append, Hoq.out]; simp only [List.all_cons, List.all_nil, decide_eq_false ho, Bool.not_false, Bool.true_or, Bool.true_and, Bool.and_true])
                clear ho
                go_wp2
                rw [← HX1.out]
                clear x0 x1 x2 x3 x4 d0 d1 d2 d3 d4 y0 y1 y2
                go_roundg (gk - 1)
                case measure => have := Hgkq.out; omega
                case rel =>
                  have := Hgkq.out
                  exact ⟨q + 1, by omega, by go_num, by omega, HbX, Ht⟩
            obtain rfl : q = mr + 1 := by omega
            have Hall := Lib.hid (show (r.right.all fun x => (!decide (x.op = 33 ∨ x.op = 34)) || R.occ r.left x.op x.imm) = true from by
              have := Hoq.out
              rw [List.take_of_length_le (by rw [HlR.out]; exact Nat.le_refl _)] at this
              exact this)
            have Hn5 := Lib.hid (show e = if (r.pre.all fun c => R.occ r.left 34 c.hole) = false then 7 else 0 from by rw [Hn4.out, Hall.out, Bool.true_and])
            clear hqn Hoq
            go_wp2
            clear y0 y1 y2
            go_loopg [15] (j + 1) (fun gg i wr => ∃ q : Nat, q ≤ j ∧ i = .int .i64 (q : Int) ∧ gg + q = j + 1 ∧ Hid (Below w9.heap.size w9 wr) ∧ Hid ((r.pre.take q).all (fun c => R.occ r.left 34 c.hole) = true))
            case atStart => exact ⟨0, Nat.zero_le _, rfl, rfl, Hbwq, Lib.hid rfl⟩
            case round =>
              obtain ⟨q, hq, rfl, hgk, Hbwq, Hoq⟩ := hrel
              obtain ⟨wq, rfl⟩ : ∃ w, w = wr := ⟨_, rfl⟩
              have Hgk15 := Lib.hid hgk; clear hgk
              have Hbq := Lib.hid (Hb9.out.trans (Hbwq.out.mono Hb9.out.size))
              obtain ⟨y0, y1, y2⟩ := Hc.out wq Hbq.out
              by_cases hqn : q < j
              · obtain ⟨x, b, off, hx, hA, hb, d0, d1, d2, i0, i1⟩ := cd_cells ((HR2.out.below Hbq.out).sp) hqn
                subst hA
                have hok : R.cdOk x = true := List.all_eq_true.1 Hcds.out x (List.mem_of_getElem? hx)
                unfold R.cdOk at hok
                simp only [Bool.and_eq_true, decide_eq_true_eq] at hok
                obtain ⟨⟨⟨⟨o1, o2⟩, o3⟩, o4⟩, _⟩ := hok
                have Hca := Lib.hid (Hnm.out wq Hbwq.out 34 x.hole)
                have Hx := Lib.hid hx
                obtain ⟨bb, hbb⟩ : ∃ bb, R.occ r.left 34 x.hole = bb := ⟨_, rfl⟩
                rw [hbb] at Hca
                have Hbb := Lib.hid hbb
                clear hx hb i0 i1 hbb
                cases bb with
                | true =>
                  have Ht := Lib.hid (show (r.pre.take (q + 1)).all (fun c => R.occ r.left 34 c.hole) = true from by rw [take_next Hx.out, List.all_append, Hoq.out]; simp [Hbb.out])
                  go_wp2_with fail
                  (with_reducible refine Hca.out.mono ?_)
                  rintro e w10 ⟨rfl, rfl⟩
                  go_wp2
                  go_roundg (gk - 1)
                  case measure => have := Hgk15.out; omega
                  case rel =>
                    have := Hgk15.out
                    exact ⟨q + 1, by omega, by go_num, by omega, Hbwq, Ht⟩
                | false =>
                  have Hr := Lib.hid (show e = 7 from by
                    rw [Hn5.out, if_pos]
                    rw [List.all_eq_false]
                    exact ⟨x, List.mem_of_getElem? Hx.out, by rw [Hbb.out]; simp⟩)
                  go_wp2_with fail
                  (with_reducible refine Hca.out.mono ?_)
                  rintro e w10 ⟨rfl, rfl⟩
                  go_wp2
                  go_ret
                  exact ⟨ret_int Hr.out.symm, Hb2.out.trans (Hbq.out.mono Hb2.out.size)⟩
              · obtain rfl : q = j := by omega
                have Hr := Lib.hid (show e = 0 from by
                  have := Hoq.out
                  rw [List.take_of_length_le (by rw [HlP.out]; exact Nat.le_refl _)] at this
                  rw [Hn5.out, if_neg (by rw [this]; simp)])
                go_wp2
                go_ret
                exact ⟨ret_int Hr.out.symm, Hb2.out.trans (Hbq.out.mono Hb2.out.size)⟩
end Go.Proofs.YtmebpgggfppmhaaDoor
end
