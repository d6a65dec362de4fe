/- Walks of the reference's layer of bits: Total. -/
import Derived.Test.YtableoihgkmbjaaR5
namespace Go.Proofs.Ytableoihgkmbjaa
open Go.RowKit
set_option linter.unusedVariables false
set_option linter.unusedSimpArgs false

set_option maxRecDepth 100000 in
set_option maxHeartbeats 8000000 in
theorem rtotal_none (op n a b : Int) (w : World) (h : B.Wds n a b) (ho : op = 4 ∨ op = 5 ∨ op = 6 ∨ op = 7 ∨ op = 11 ∨ op = 12 ∨ op = 13) (hx : B.do_ op n a b = none) : Calls Try.prog 48 #[.int .i64 op, .int .i64 n, .int .u32 a, .int .u32 b] w fun e w' =>
    e = .returned (.tuple #[.int .u32 (B.els op n a b), .int .i64 0]) ∧ Dr w w' := by
  have h1 : 1 ≤ op ∧ op ≤ 13 := by omega
  have ht := two_yes op n a b w h h1.1 h1.2
  have hd := rdo_any op n a b w h h1.1 h1.2
  rw [hx, show B.has op n a b = false by rw [B.has, hx]; rfl] at hd
  obtain ⟨n0, n1, a0, a1, b0, b1⟩ := h
  have hl := B.pw_le n1
  have hg := B.pw_ge2 n0
  have a2 : a < 4294967296 := by omega
  have b2 : b < 4294967296 := by omega
  have HT := Lib.hid ht
  have HD := Lib.hid hd
  have HZ := Lib.hid (fun W => rsize_any n W (by omega) n1)
  have HS := Lib.hid (fun W => rsign_any n a W n0 n1 a0 a2)
  clear ht hd hx h1 a1 b1
  have hels : ∀ z s : Int, z = B.pw n → s = B.sg n a → B.els op n a b = (if op = 4 then z - 1 else if op = 5 then a else if op = 6 then (if b ≠ 0 then a else if s < 0 then 1 else z - 1) else if op = 7 then (if b ≠ 0 then 0 else a) else if op = 13 then (if s < 0 then z - 1 else 0) else 0) := by
    rintro z s rfl rfl; rfl
  obtain ⟨z, hz⟩ : ∃ z, z = B.pw n := ⟨_, rfl⟩
  obtain ⟨s, hs⟩ : ∃ s, s = B.sg n a := ⟨_, rfl⟩
  rw [← hz] at HZ hl hg
  rw [← hs] at HS
  rw [hels z s hz hs]
  clear hels hz hs
  by_cases hb : b = 0
  · have hb0 : (b != 0) = false := by simpa using hb
    have Hb := Lib.hid hb; clear hb
    by_cases hsn : s < 0
    all_goals
      rcases ho with rfl | rfl | rfl | rfl | rfl | rfl | rfl
      all_goals
        go_enter Try.func48, Try.ntmps48
        go_wp2_with fail
        refine HT.out.mono ?_
        rintro e w' ⟨rfl, rfl⟩
        go_wp2_with fail
        refine HD.out.mono ?_
        rintro e w2 ⟨rfl, hdr⟩
        go_wp2_with fail
        refine (HZ.out _).mono ?_
        rintro e w' ⟨rfl, rfl⟩
        go_wp2_with fail
        refine (HS.out _).mono ?_
        rintro e w' ⟨rfl, rfl⟩
        go_wp2
        go_ret2
        exact ⟨ret_we (by have hb := Hb.out; simp [hb, hsn] <;> omega) rfl, hdr⟩
  · have hb0 : (b != 0) = true := by simpa using hb
    have Hb := Lib.hid hb; clear hb
    by_cases hsn : s < 0
    all_goals
      rcases ho with rfl | rfl | rfl | rfl | rfl | rfl | rfl
      all_goals
        go_enter Try.func48, Try.ntmps48
        go_wp2_with fail
        refine HT.out.mono ?_
        rintro e w' ⟨rfl, rfl⟩
        go_wp2_with fail
        refine HD.out.mono ?_
        rintro e w2 ⟨rfl, hdr⟩
        go_wp2_with fail
        refine (HZ.out _).mono ?_
        rintro e w' ⟨rfl, rfl⟩
        go_wp2_with fail
        refine (HS.out _).mono ?_
        rintro e w' ⟨rfl, rfl⟩
        go_wp2
        go_ret2
        exact ⟨ret_we (by have hb := Hb.out; simp [hb, hsn] <;> omega) rfl, hdr⟩

theorem rtotal_any (op n a b : Int) (w : World) (ha : 0 ≤ a) (ha' : a < 4294967296) (hb : 0 ≤ b) (hb' : b < 4294967296) : Calls Try.prog 48 #[.int .i64 op, .int .i64 n, .int .u32 a, .int .u32 b] w fun e w' =>
    e = .returned (.tuple #[.int .u32 (B.total op n a b).1, .int .i64 (B.total op n a b).2]) ∧ Dr w w' := by
  cases hok : B.okOp op n a b
  · have HT := Lib.hid (two_no op n a b w ha ha' hb hb' hok)
    have e : B.total op n a b = (0, 1) := by unfold B.total; rw [if_neg (by rw [hok]; simp)]
    rw [e]
    clear hok e
    go_enter Try.func48, Try.ntmps48
    go_wp2_with fail
    refine HT.out.mono ?_
    rintro e w' ⟨rfl, rfl⟩
    go_wp2
    go_ret2
    exact ⟨rfl, Dr.refl _⟩
  · have e : B.total op n a b = (B.full op n a b, 0) := by unfold B.total; rw [if_pos hok]
    rw [e]
    have hw : (1 ≤ op ∧ op ≤ 13) ∧ B.Wds n a b := by
      unfold B.okOp at hok
      simp only [Bool.and_eq_true, B.isW_iff, decide_eq_true_eq] at hok
      obtain ⟨⟨⟨o1, o2⟩, h1, h2, h3⟩, _, _, h4⟩ := hok
      exact ⟨⟨o1, o2⟩, h1, h2, ha, h3, hb, h4⟩
    obtain ⟨h1, hw⟩ := hw
    cases hx : B.do_ op n a b with
    | none =>
      have ho : op = 4 ∨ op = 5 ∨ op = 6 ∨ op = 7 ∨ op = 11 ∨ op = 12 ∨ op = 13 := by
        rcases B.op_cases h1.1 h1.2 with rfl | rfl | rfl | rfl | rfl | rfl | rfl | rfl | rfl | rfl | rfl | rfl | rfl
        · rw [B.do_1] at hx; cases hx
        · rw [B.do_2] at hx; cases hx
        · rw [B.do_3] at hx; cases hx
        · omega
        · omega
        · omega
        · omega
        · rw [B.do_8] at hx; cases hx
        · rw [B.do_9] at hx; cases hx
        · rw [B.do_10] at hx; cases hx
        · omega
        · omega
        · omega
      have ef : B.full op n a b = B.els op n a b := by rw [B.full, hx]; rfl
      rw [ef]
      exact rtotal_none op n a b w hw ho hx
    | some z =>
      have ht := two_yes op n a b w hw h1.1 h1.2
      have hd := rdo_any op n a b w hw h1.1 h1.2
      rw [hx, show B.has op n a b = true by rw [B.has, hx]; rfl] at hd
      have ef : B.full op n a b = z := by rw [B.full, hx]; rfl
      rw [ef]
      have HT := Lib.hid ht
      have HD := Lib.hid hd
      clear ht hd hx ef hw hok e
      go_enter Try.func48, Try.ntmps48
      go_wp2_with fail
      refine HT.out.mono ?_
      rintro e w' ⟨rfl, rfl⟩
      go_wp2_with fail
      refine HD.out.mono ?_
      rintro e w2 ⟨rfl, hdr⟩
      go_wp2
      go_ret2
      exact ⟨rfl, hdr⟩
end Go.Proofs.Ytableoihgkmbjaa
