/- Walks of the reference's layer of bits: the remainder; Total. -/
import Derived.Test.YtableoihgkmbjaaR4
namespace Go.Proofs.Ytableoihgkmbjaa
open Go.RowKit
set_option linter.unusedVariables false

theorem rdoes7 : RDoes 7 := by
  intro n a b w h
  have h9 := h
  have hbd := sg_bound h
  obtain ⟨n0, n1, a0, a1, b0, b1⟩ := h
  have hl := B.pw_le n1
  have a2 : a < 4294967296 := by omega
  have b2 : b < 4294967296 := by omega
  have HS := Lib.hid (fun W => rsign_any n a W n0 n1 a0 a2)
  have HT := Lib.hid (fun W => rsign_any n b W n0 n1 b0 b2)
  have HZ := Lib.hid (fun W => rsize_any (n - 1) W (by omega) (by omega))
  have h3 := B.pw_le31 (show n - 1 ≤ 31 by omega)
  have h4 := B.pw_pos (n - 1)
  have hx := B.do_7 n a b
  by_cases hq : b = 0 ∨ (B.sg n a = -B.pw (n - 1) ∧ B.sg n b = -1)
  · rw [if_pos hq] at hx
    have Hx := Lib.hid hx; clear hx
    by_cases hb : b = 0
    · have hs : (b == 0) = true := by simpa using hb
      clear hq hb a1 b1 hl hbd h3 h4
      go_enter Try.func57, Try.ntmps57
      go_wp2_with fail
      refine (HS.out _).mono ?_
      rintro e w' ⟨rfl, rfl⟩
      go_wp2_with fail
      refine (HT.out _).mono ?_
      rintro e w' ⟨rfl, rfl⟩
      go_wp2
      go_ret2
      exact ⟨ret_wb (by rw [Hx.out]; rfl) (by rw [B.has, Hx.out]; rfl), Dr.refl _⟩
    · have hs : (b == 0) = false := by simpa using hb
      obtain ⟨q1, q2⟩ := hq.resolve_left hb
      have hs2 : (B.sg n b == -1) = true := by rw [q2]; rfl
      have hs3 : (B.sg n a == -B.pw (n - 1)) = true := by rw [q1]; simp
      clear hq hb a1 b1 hl q1 q2 hbd
      generalize B.pw (n - 1) = z at *
      go_enter Try.func57, Try.ntmps57
      go_wp2_with fail
      refine (HS.out _).mono ?_
      rintro e w' ⟨rfl, rfl⟩
      go_wp2_with fail
      refine (HT.out _).mono ?_
      rintro e w' ⟨rfl, rfl⟩
      go_wp2_with fail
      refine (HZ.out _).mono ?_
      rintro e w' ⟨rfl, rfl⟩
      go_wp2
      go_ret2
      exact ⟨ret_wb (by rw [Hx.out]; rfl) (by rw [B.has, Hx.out]; rfl), Dr.refl _⟩
  · rw [if_neg hq] at hx
    obtain ⟨f1, f2, f3, f4, f5, f6, f7, f8⟩ := quot_facts h9 hq
    have HW := Lib.hid (fun W => wrap_any n ((B.sg n a).tmod (B.sg n b)) W (by omega) n1 (by omega) (by omega))
    have hs : (b == 0) = false := by simpa using fun h => hq (.inl h)
    have hz : (B.sg n b == 0) = false := by simpa using f1
    have hw : wrap64 ((B.sg n a).tdiv (B.sg n b)) = (B.sg n a).tdiv (B.sg n b) := B.wrap64_id (by omega) (by omega)
    have Hx := Lib.hid hx; clear hx
    have Hq := Lib.hid hq; clear hq a1 b1 hl h9 f4 f5
    generalize (B.sg n a).tmod (B.sg n b) % B.pw n = R at HW Hx
    by_cases hs3 : B.sg n a = -B.pw (n - 1)
    · have hs4 : (B.sg n b == -1) = false := by simpa using fun h => Hq.out (.inr ⟨hs3, h⟩)
      have hs5 : (B.sg n a == -B.pw (n - 1)) = true := by rw [hs3]; simp
      clear hs3 Hq
      generalize B.pw (n - 1) = z at *
      go_enter Try.func57, Try.ntmps57
      go_wp2_with fail
      refine (HS.out _).mono ?_
      rintro e w' ⟨rfl, rfl⟩
      go_wp2_with fail
      refine (HT.out _).mono ?_
      rintro e w' ⟨rfl, rfl⟩
      go_wp2_with fail
      refine (HZ.out _).mono ?_
      rintro e w' ⟨rfl, rfl⟩
      go_wp2_with fail
      refine (HW.out _).mono ?_
      rintro e w' ⟨rfl, rfl⟩
      go_wp2
      go_ret2
      exact ⟨ret_wb (by rw [Hx.out]; rfl) (by rw [B.has, Hx.out]; rfl), Dr.refl _⟩
    · have hs5 : (B.sg n a == -B.pw (n - 1)) = false := by simpa using hs3
      clear hs3 Hq
      generalize B.pw (n - 1) = z at *
      go_enter Try.func57, Try.ntmps57
      go_wp2_with fail
      refine (HS.out _).mono ?_
      rintro e w' ⟨rfl, rfl⟩
      go_wp2_with fail
      refine (HT.out _).mono ?_
      rintro e w' ⟨rfl, rfl⟩
      go_wp2_with fail
      refine (HZ.out _).mono ?_
      rintro e w' ⟨rfl, rfl⟩
      go_wp2_with fail
      refine (HW.out _).mono ?_
      rintro e w' ⟨rfl, rfl⟩
      go_wp2
      go_ret2
      exact ⟨ret_wb (by rw [Hx.out]; rfl) (by rw [B.has, Hx.out]; rfl), Dr.refl _⟩

theorem rdoes8 : RDoes 8 := by
  intro n a b w h
  have h9 := h
  obtain ⟨n0, n1, a0, a1, b0, b1⟩ := h
  have hl := B.pw_le n1
  have a2 : a < 4294967296 := by omega
  have b2 : b < 4294967296 := by omega
  have HS := Lib.hid (fun W => rsign_any n a W n0 n1 a0 a2)
  have HT := Lib.hid (fun W => rsign_any n b W n0 n1 b0 b2)
  obtain ⟨z, ok, hz, hcon⟩ : ∃ z ok, B.do_ 8 n a b = (if ok then some z else none) ∧ ∀ W, Calls Try.prog 62 #[.int .i64 8, .int .i64 n, .int .u32 a, .int .u32 b] W fun e w' => e = .returned (.tuple #[.int .u32 (if ok then z else 0), .bool ok]) ∧ Dr W w' := by
    exact ⟨_, true, B.do_8 n a b, fun W => bitwise_and n a b W h9⟩
  have Hx := Lib.hid hz
  have HW := Lib.hid hcon; clear hz hcon h9 a1 b1 hl
  obtain ⟨Z, hZ⟩ : ∃ Z, Z = (if ok = true then z else 0) := ⟨_, rfl⟩
  rw [← hZ] at HW
  have HZ := Lib.hid hZ; clear hZ
  go_enter Try.func57, Try.ntmps57
  go_wp2_with fail
  refine (HS.out _).mono ?_
  rintro e w' ⟨rfl, rfl⟩
  go_wp2_with fail
  refine (HT.out _).mono ?_
  rintro e w' ⟨rfl, rfl⟩
  go_wp2_with fail
  refine (HW.out _).mono ?_
  rintro e w2 ⟨rfl, hd⟩
  go_wp2
  go_ret2
  exact ⟨ret_wb (by rw [Hx.out]; rw [HZ.out]; cases ok <;> rfl) (by rw [B.has, Hx.out]; cases ok <;> rfl), hd⟩

theorem rdoes9 : RDoes 9 := by
  intro n a b w h
  have h9 := h
  obtain ⟨n0, n1, a0, a1, b0, b1⟩ := h
  have hl := B.pw_le n1
  have a2 : a < 4294967296 := by omega
  have b2 : b < 4294967296 := by omega
  have HS := Lib.hid (fun W => rsign_any n a W n0 n1 a0 a2)
  have HT := Lib.hid (fun W => rsign_any n b W n0 n1 b0 b2)
  obtain ⟨z, ok, hz, hcon⟩ : ∃ z ok, B.do_ 9 n a b = (if ok then some z else none) ∧ ∀ W, Calls Try.prog 62 #[.int .i64 9, .int .i64 n, .int .u32 a, .int .u32 b] W fun e w' => e = .returned (.tuple #[.int .u32 (if ok then z else 0), .bool ok]) ∧ Dr W w' := by
    exact ⟨_, true, B.do_9 n a b, fun W => bitwise_or n a b W h9⟩
  have Hx := Lib.hid hz
  have HW := Lib.hid hcon; clear hz hcon h9 a1 b1 hl
  obtain ⟨Z, hZ⟩ : ∃ Z, Z = (if ok = true then z else 0) := ⟨_, rfl⟩
  rw [← hZ] at HW
  have HZ := Lib.hid hZ; clear hZ
  go_enter Try.func57, Try.ntmps57
  go_wp2_with fail
  refine (HS.out _).mono ?_
  rintro e w' ⟨rfl, rfl⟩
  go_wp2_with fail
  refine (HT.out _).mono ?_
  rintro e w' ⟨rfl, rfl⟩
  go_wp2_with fail
  refine (HW.out _).mono ?_
  rintro e w2 ⟨rfl, hd⟩
  go_wp2
  go_ret2
  exact ⟨ret_wb (by rw [Hx.out]; rw [HZ.out]; cases ok <;> rfl) (by rw [B.has, Hx.out]; cases ok <;> rfl), hd⟩

theorem rdoes10 : RDoes 10 := by
  intro n a b w h
  have h9 := h
  obtain ⟨n0, n1, a0, a1, b0, b1⟩ := h
  have hl := B.pw_le n1
  have a2 : a < 4294967296 := by omega
  have b2 : b < 4294967296 := by omega
  have HS := Lib.hid (fun W => rsign_any n a W n0 n1 a0 a2)
  have HT := Lib.hid (fun W => rsign_any n b W n0 n1 b0 b2)
  obtain ⟨z, ok, hz, hcon⟩ : ∃ z ok, B.do_ 10 n a b = (if ok then some z else none) ∧ ∀ W, Calls Try.prog 62 #[.int .i64 10, .int .i64 n, .int .u32 a, .int .u32 b] W fun e w' => e = .returned (.tuple #[.int .u32 (if ok then z else 0), .bool ok]) ∧ Dr W w' := by
    exact ⟨_, true, B.do_10 n a b, fun W => bitwise_xor n a b W h9⟩
  have Hx := Lib.hid hz
  have HW := Lib.hid hcon; clear hz hcon h9 a1 b1 hl
  obtain ⟨Z, hZ⟩ : ∃ Z, Z = (if ok = true then z else 0) := ⟨_, rfl⟩
  rw [← hZ] at HW
  have HZ := Lib.hid hZ; clear hZ
  go_enter Try.func57, Try.ntmps57
  go_wp2_with fail
  refine (HS.out _).mono ?_
  rintro e w' ⟨rfl, rfl⟩
  go_wp2_with fail
  refine (HT.out _).mono ?_
  rintro e w' ⟨rfl, rfl⟩
  go_wp2_with fail
  refine (HW.out _).mono ?_
  rintro e w2 ⟨rfl, hd⟩
  go_wp2
  go_ret2
  exact ⟨ret_wb (by rw [Hx.out]; rw [HZ.out]; cases ok <;> rfl) (by rw [B.has, Hx.out]; cases ok <;> rfl), hd⟩

theorem rdoes11 : RDoes 11 := by
  intro n a b w h
  have h9 := h
  obtain ⟨n0, n1, a0, a1, b0, b1⟩ := h
  have hl := B.pw_le n1
  have a2 : a < 4294967296 := by omega
  have b2 : b < 4294967296 := by omega
  have HS := Lib.hid (fun W => rsign_any n a W n0 n1 a0 a2)
  have HT := Lib.hid (fun W => rsign_any n b W n0 n1 b0 b2)
  obtain ⟨z, ok, hz, hcon⟩ : ∃ z ok, B.do_ 11 n a b = (if ok then some z else none) ∧ ∀ W, Calls Try.prog 62 #[.int .i64 11, .int .i64 n, .int .u32 a, .int .u32 b] W fun e w' => e = .returned (.tuple #[.int .u32 (if ok then z else 0), .bool ok]) ∧ Dr W w' := by
    by_cases hb : n ≤ b
    · exact ⟨0, false, by rw [B.do_11, if_pos hb]; rfl, fun W => bitwise_far 11 n a b W h9 (Or.inl rfl) hb⟩
    · exact ⟨_, true, by rw [B.do_11, if_neg hb]; rfl, fun W => bitwise_shl n a b W h9 (by omega)⟩
  have Hx := Lib.hid hz
  have HW := Lib.hid hcon; clear hz hcon h9 a1 b1 hl
  obtain ⟨Z, hZ⟩ : ∃ Z, Z = (if ok = true then z else 0) := ⟨_, rfl⟩
  rw [← hZ] at HW
  have HZ := Lib.hid hZ; clear hZ
  go_enter Try.func57, Try.ntmps57
  go_wp2_with fail
  refine (HS.out _).mono ?_
  rintro e w' ⟨rfl, rfl⟩
  go_wp2_with fail
  refine (HT.out _).mono ?_
  rintro e w' ⟨rfl, rfl⟩
  go_wp2_with fail
  refine (HW.out _).mono ?_
  rintro e w2 ⟨rfl, hd⟩
  go_wp2
  go_ret2
  exact ⟨ret_wb (by rw [Hx.out]; rw [HZ.out]; cases ok <;> rfl) (by rw [B.has, Hx.out]; cases ok <;> rfl), hd⟩

theorem rdoes12 : RDoes 12 := by
  intro n a b w h
  have h9 := h
  obtain ⟨n0, n1, a0, a1, b0, b1⟩ := h
  have hl := B.pw_le n1
  have a2 : a < 4294967296 := by omega
  have b2 : b < 4294967296 := by omega
  have HS := Lib.hid (fun W => rsign_any n a W n0 n1 a0 a2)
  have HT := Lib.hid (fun W => rsign_any n b W n0 n1 b0 b2)
  obtain ⟨z, ok, hz, hcon⟩ : ∃ z ok, B.do_ 12 n a b = (if ok then some z else none) ∧ ∀ W, Calls Try.prog 62 #[.int .i64 12, .int .i64 n, .int .u32 a, .int .u32 b] W fun e w' => e = .returned (.tuple #[.int .u32 (if ok then z else 0), .bool ok]) ∧ Dr W w' := by
    by_cases hb : n ≤ b
    · exact ⟨0, false, by rw [B.do_12, if_pos hb]; rfl, fun W => bitwise_far 12 n a b W h9 (Or.inr (Or.inl rfl)) hb⟩
    · exact ⟨_, true, by rw [B.do_12, if_neg hb]; rfl, fun W => bitwise_lshr n a b W h9 (by omega)⟩
  have Hx := Lib.hid hz
  have HW := Lib.hid hcon; clear hz hcon h9 a1 b1 hl
  obtain ⟨Z, hZ⟩ : ∃ Z, Z = (if ok = true then z else 0) := ⟨_, rfl⟩
  rw [← hZ] at HW
  have HZ := Lib.hid hZ; clear hZ
  go_enter Try.func57, Try.ntmps57
  go_wp2_with fail
  refine (HS.out _).mono ?_
  rintro e w' ⟨rfl, rfl⟩
  go_wp2_with fail
  refine (HT.out _).mono ?_
  rintro e w' ⟨rfl, rfl⟩
  go_wp2_with fail
  refine (HW.out _).mono ?_
  rintro e w2 ⟨rfl, hd⟩
  go_wp2
  go_ret2
  exact ⟨ret_wb (by rw [Hx.out]; rw [HZ.out]; cases ok <;> rfl) (by rw [B.has, Hx.out]; cases ok <;> rfl), hd⟩

theorem rdoes13 : RDoes 13 := by
  intro n a b w h
  have h9 := h
  obtain ⟨n0, n1, a0, a1, b0, b1⟩ := h
  have hl := B.pw_le n1
  have a2 : a < 4294967296 := by omega
  have b2 : b < 4294967296 := by omega
  have HS := Lib.hid (fun W => rsign_any n a W n0 n1 a0 a2)
  have HT := Lib.hid (fun W => rsign_any n b W n0 n1 b0 b2)
  obtain ⟨z, ok, hz, hcon⟩ : ∃ z ok, B.do_ 13 n a b = (if ok then some z else none) ∧ ∀ W, Calls Try.prog 62 #[.int .i64 13, .int .i64 n, .int .u32 a, .int .u32 b] W fun e w' => e = .returned (.tuple #[.int .u32 (if ok then z else 0), .bool ok]) ∧ Dr W w' := by
    by_cases hb : n ≤ b
    · exact ⟨0, false, by rw [B.do_13, if_pos hb]; rfl, fun W => bitwise_far 13 n a b W h9 (Or.inr (Or.inr rfl)) hb⟩
    · exact ⟨_, true, by rw [B.do_13, if_neg hb]; rfl, fun W => bitwise_ashr n a b W h9 (by omega)⟩
  have Hx := Lib.hid hz
  have HW := Lib.hid hcon; clear hz hcon h9 a1 b1 hl
  obtain ⟨Z, hZ⟩ : ∃ Z, Z = (if ok = true then z else 0) := ⟨_, rfl⟩
  rw [← hZ] at HW
  have HZ := Lib.hid hZ; clear hZ
  go_enter Try.func57, Try.ntmps57
  go_wp2_with fail
  refine (HS.out _).mono ?_
  rintro e w' ⟨rfl, rfl⟩
  go_wp2_with fail
  refine (HT.out _).mono ?_
  rintro e w' ⟨rfl, rfl⟩
  go_wp2_with fail
  refine (HW.out _).mono ?_
  rintro e w2 ⟨rfl, hd⟩
  go_wp2
  go_ret2
  exact ⟨ret_wb (by rw [Hx.out]; rw [HZ.out]; cases ok <;> rfl) (by rw [B.has, Hx.out]; cases ok <;> rfl), hd⟩

theorem rdo_any (op n a b : Int) (w : World) (h : B.Wds n a b) (h1 : 1 ≤ op) (h2 : op ≤ 13) :
    Calls Try.prog 57 #[.int .i64 op, .int .i64 n, .int .u32 a, .int .u32 b] w fun e w' => e = .returned (.tuple #[.int .u32 ((B.do_ op n a b).getD 0), .bool (B.has op n a b)]) ∧ Dr w w' := by
  rcases B.op_cases h1 h2 with rfl | rfl | rfl | rfl | rfl | rfl | rfl | rfl | rfl | rfl | rfl | rfl | rfl
  · exact rdoes1 n a b w h
  · exact rdoes2 n a b w h
  · exact rdoes3 n a b w h
  · exact rdoes4 n a b w h
  · exact rdoes5 n a b w h
  · exact rdoes6 n a b w h
  · exact rdoes7 n a b w h
  · exact rdoes8 n a b w h
  · exact rdoes9 n a b w h
  · exact rdoes10 n a b w h
  · exact rdoes11 n a b w h
  · exact rdoes12 n a b w h
  · exact rdoes13 n a b w h

theorem two_yes (op n a b : Int) (w : World) (h : B.Wds n a b) (h1 : 1 ≤ op) (h2 : op ≤ 13) : Calls Try.prog 56 #[.int .i64 op, .int .i64 n, .int .u32 a, .int .u32 b] w fun e w' => e = .returned (.int .i64 0) ∧ w = w' := by
  obtain ⟨n0, n1, a0, a1, b0, b1⟩ := h
  have hl := B.pw_le n1
  have wa : B.isW n a = true := B.isW_iff.2 ⟨n0, n1, a1⟩
  have wb : B.isW n b = true := B.isW_iff.2 ⟨n0, n1, b1⟩
  have HI := Lib.hid (fun W => risWidth_yes n W n0 n1)
  have ha := fun W => isWord_any n a W a0 (by omega)
  have hb := fun W => isWord_any n b W b0 (by omega)
  rw [wa] at ha
  rw [wb] at hb
  have HA := Lib.hid ha
  have HB := Lib.hid hb; clear ha hb wa wb a1 b1 hl
  go_enter Try.func56, Try.ntmps56
  go_wp2_with fail
  refine (HI.out _).mono ?_
  rintro e w' ⟨rfl, rfl⟩
  have hgt : decide (13 < op) = false := by simp; omega
  go_wp2_with fail
  refine (HA.out _).mono ?_
  rintro e w' ⟨rfl, rfl⟩
  go_wp2_with fail
  refine (HB.out _).mono ?_
  rintro e w' ⟨rfl, rfl⟩
  go_wp2
  go_ret
  exact ⟨rfl, rfl⟩

theorem two_no (op n a b : Int) (w : World) (ha : 0 ≤ a) (ha' : a < 4294967296) (hb : 0 ≤ b) (hb' : b < 4294967296) (h : B.okOp op n a b = false) : Calls Try.prog 56 #[.int .i64 op, .int .i64 n, .int .u32 a, .int .u32 b] w fun e w' => e = .returned (.int .i64 1) ∧ w = w' := by
  unfold B.okOp at h
  have HI := risWidth_any n w
  have HA := Lib.hid (fun W => isWord_any n a W ha ha')
  have HB := Lib.hid (fun W => isWord_any n b W hb hb')
  cases hn : B.isWd n
  · rw [hn] at HI
    have HI' := Lib.hid HI; clear HI h hn
    go_enter Try.func56, Try.ntmps56
    go_wp2_with fail
    refine HI'.out.mono ?_
    rintro e w' ⟨rfl, rfl⟩
    go_wp2
    go_ret
    exact ⟨rfl, rfl⟩
  rw [hn] at HI
  have HI' := Lib.hid HI; clear HI hn
  by_cases h1 : op < 1
  · clear h
    go_enter Try.func56, Try.ntmps56
    go_wp2_with fail
    refine HI'.out.mono ?_
    rintro e w' ⟨rfl, rfl⟩
    go_wp2
    go_ret
    exact ⟨rfl, rfl⟩
  have hd1 : decide (op < 1) = false := by simpa using h1
  by_cases h2 : 13 < op
  · clear h
    have h3 : 1 ≤ op := by omega
    go_enter Try.func56, Try.ntmps56
    go_wp2_with fail
    refine HI'.out.mono ?_
    rintro e w' ⟨rfl, rfl⟩
    go_wp2
    go_ret
    exact ⟨rfl, rfl⟩
  have h3 : 1 ≤ op := by omega
  have h4 : op ≤ 13 := by omega
  have hd2 : decide (13 < op) = false := by simpa using h2
  simp only [h3, h4, decide_true, Bool.true_and] at h
  cases hA : B.isW n a
  · have HA' := HA.out w
    rw [hA] at HA'
    have HA2 := Lib.hid HA'; clear HA' h hA
    go_enter Try.func56, Try.ntmps56
    go_wp2_with fail
    refine HI'.out.mono ?_
    rintro e w' ⟨rfl, rfl⟩
    go_wp2_with fail
    refine HA2.out.mono ?_
    rintro e w' ⟨rfl, rfl⟩
    go_wp2
    go_ret
    exact ⟨rfl, rfl⟩
  · have hB : B.isW n b = false := by rw [hA] at h; simpa using h
    have HA' := HA.out w
    rw [hA] at HA'
    have HA2 := Lib.hid HA'
    have HB' := HB.out w
    rw [hB] at HB'
    have HB2 := Lib.hid HB'; clear HA' HB' h hA hB
    go_enter Try.func56, Try.ntmps56
    go_wp2_with fail
    refine HI'.out.mono ?_
    rintro e w' ⟨rfl, rfl⟩
    go_wp2_with fail
    refine HA2.out.mono ?_
    rintro e w' ⟨rfl, rfl⟩
    go_wp2_with fail
    refine HB2.out.mono ?_
    rintro e w' ⟨rfl, rfl⟩
    go_wp2
    go_ret
    exact ⟨rfl, rfl⟩
end Go.Proofs.Ytableoihgkmbjaa
