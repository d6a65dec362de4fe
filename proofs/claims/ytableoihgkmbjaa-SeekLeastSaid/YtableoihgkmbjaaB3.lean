/- Walks of the program's layer of bits: division, shifts. -/
import Derived.Test.YtableoihgkmbjaaB2
namespace Go.Proofs.Ytableoihgkmbjaa
open Go.RowKit
set_option linter.unusedVariables false

theorem does4 (w : World) : DoesAt 4 75 #[] w := by
  intro n a b h
  obtain ⟨n0, n1, a0, a1, b0, b1⟩ := h
  have hl := B.pw_le n1
  have a2 : a < 4294967296 := by omega
  have b2 : b < 4294967296 := by omega
  show Calls Try.prog _ #[.int .i64 n, .int .u32 a, .int .u32 b] w _
  have HM := Lib.hid (fun W => mask_any n W (by omega) n1)
  by_cases hb : b = 0
  · have hs : (b == 0) = true := by simpa using hb
    have Hx := Lib.hid (show B.do_ 4 n a b = none by rw [B.do_4, if_pos hb])
    clear hb a1 b1 hl
    go_enter Try.func75, Try.ntmps75
    go_wp2_with fail
    refine (HM.out _).mono ?_
    rintro e w' ⟨rfl, rfl⟩
    go_wp2
    go_ret2
    exact ⟨ret_wb (by rw [B.full, Hx.out]; rfl) (by rw [B.has, Hx.out]; rfl), Dr.refl _⟩
  · have hs : (b == 0) = false := by simpa using hb
    have hb1 : 1 ≤ b := by omega
    have Hx := Lib.hid (show B.do_ 4 n a b = some (a / b) by rw [B.do_4, if_neg hb])
    clear hb a1 b1 hl
    go_enter Try.func75, Try.ntmps75
    go_wp2
    go_ret2
    exact ⟨ret_wb (by rw [B.full, Hx.out]; rfl) (by rw [B.has, Hx.out]; rfl), Dr.refl _⟩

theorem does5 (w : World) : DoesAt 5 77 #[] w := by
  intro n a b h
  obtain ⟨n0, n1, a0, a1, b0, b1⟩ := h
  have hl := B.pw_le n1
  have a2 : a < 4294967296 := by omega
  have b2 : b < 4294967296 := by omega
  show Calls Try.prog _ #[.int .i64 n, .int .u32 a, .int .u32 b] w _
  by_cases hb : b = 0
  · have hs : (b == 0) = true := by simpa using hb
    have Hx := Lib.hid (show B.do_ 5 n a b = none by rw [B.do_5, if_pos hb])
    clear hb a1 b1 hl
    go_enter Try.func77, Try.ntmps77
    go_wp2
    go_ret2
    exact ⟨ret_wb (by rw [B.full, Hx.out]; rfl) (by rw [B.has, Hx.out]; rfl), Dr.refl _⟩
  · have hs : (b == 0) = false := by simpa using hb
    have hb1 : 1 ≤ b := by omega
    have Hx := Lib.hid (show B.do_ 5 n a b = some (a % b) by rw [B.do_5, if_neg hb])
    clear hb a1 b1 hl
    go_enter Try.func77, Try.ntmps77
    go_wp2
    go_ret2
    exact ⟨ret_wb (by rw [B.full, Hx.out]; rfl) (by rw [B.has, Hx.out]; rfl), Dr.refl _⟩

theorem quot_any (n a b : Int) (w : World) (h : B.Wds n a b) : ∃ (q r : Int) (ok : Bool),
    (Calls Try.prog 79 #[.int .i64 n, .int .u32 a, .int .u32 b] w fun e w' => e = .returned (.tuple #[.int .i64 q, .int .i64 r, .bool ok]) ∧ Dr w w') ∧
    ((b = 0 ∨ (B.sg n a = -B.pw (n - 1) ∧ B.sg n b = -1)) ∧ q = 0 ∧ r = 0 ∧ ok = false ∨
     ¬ (b = 0 ∨ (B.sg n a = -B.pw (n - 1) ∧ B.sg n b = -1)) ∧ q = (B.sg n a).tdiv (B.sg n b) ∧ r = (B.sg n a).tmod (B.sg n b) ∧ ok = true) := by
  by_cases hq : b = 0 ∨ (B.sg n a = -B.pw (n - 1) ∧ B.sg n b = -1)
  · exact ⟨0, 0, false, (quotient_none n a b w h hq).mono fun e w' ⟨h1, h2⟩ => ⟨h1, by rw [h2]; exact Dr.refl _⟩, .inl ⟨hq, rfl, rfl, rfl⟩⟩
  · exact ⟨_, _, true, quotient_some n a b w h hq, .inr ⟨hq, rfl, rfl, rfl⟩⟩

theorem does6 (w : World) : DoesAt 6 78 #[] w := by
  intro n a b h
  obtain ⟨q, r, ok, hQ, hcase⟩ := quot_any n a b w h
  have HQ := Lib.hid hQ; clear hQ
  obtain ⟨n0, n1, a0, a1, b0, b1⟩ := h
  have hl := B.pw_le n1
  have a2 : a < 4294967296 := by omega
  have b2 : b < 4294967296 := by omega
  show Calls Try.prog _ #[.int .i64 n, .int .u32 a, .int .u32 b] w _
  have HM := Lib.hid (fun W => mask_any n W (by omega) n1)
  have HS := Lib.hid (fun W => signed_any n a W n0 n1 a0 a1)
  rcases hcase with ⟨hq, rfl, rfl, rfl⟩ | ⟨hq, hq2, _, rfl⟩
  · have hx : B.do_ 6 n a b = none := by rw [B.do_6, if_pos hq]
    by_cases hb : b = 0
    · have hs : (b != 0) = false := by simpa using hb
      by_cases hsg : B.sg n a < 0
      · have hf : B.full 6 n a b = 1 ∧ B.has 6 n a b = false := by rw [B.full, B.has, hx]; simp [B.els, hb, hsg]
        have Hf := Lib.hid hf; clear hf hx hq hb a1 b1 hl
        go_enter Try.func78, Try.ntmps78
        go_wp2_with fail
        refine HQ.out.mono ?_
        rintro e w1 ⟨rfl, hd⟩
        go_wp2_with fail
        refine (HS.out _).mono ?_
        rintro e w' ⟨rfl, rfl⟩
        go_wp2
        go_ret2
        exact ⟨ret_wb Hf.out.1.symm Hf.out.2.symm, hd⟩
      · have hf : B.full 6 n a b = B.pw n - 1 ∧ B.has 6 n a b = false := by rw [B.full, B.has, hx]; simp [B.els, hb, hsg]
        have Hf := Lib.hid hf; clear hf hx hq hb a1 b1 hl
        go_enter Try.func78, Try.ntmps78
        go_wp2_with fail
        refine HQ.out.mono ?_
        rintro e w1 ⟨rfl, hd⟩
        go_wp2_with fail
        refine (HS.out _).mono ?_
        rintro e w' ⟨rfl, rfl⟩
        go_wp2_with fail
        refine (HM.out _).mono ?_
        rintro e w' ⟨rfl, rfl⟩
        go_wp2
        go_ret2
        exact ⟨ret_wb Hf.out.1.symm Hf.out.2.symm, hd⟩
    · have hs : (b != 0) = true := by simpa using hb
      have hf : B.full 6 n a b = a ∧ B.has 6 n a b = false := by rw [B.full, B.has, hx]; simp [B.els, hb]
      have Hf := Lib.hid hf; clear hf hx hq hb a1 b1 hl
      go_enter Try.func78, Try.ntmps78
      go_wp2_with fail
      refine HQ.out.mono ?_
      rintro e w1 ⟨rfl, hd⟩
      go_wp2
      go_ret2
      exact ⟨ret_wb Hf.out.1.symm Hf.out.2.symm, hd⟩
  · have hf : B.full 6 n a b = q % B.pw n ∧ B.has 6 n a b = true := by rw [B.full, B.has, B.do_6, if_neg hq, hq2]; exact ⟨rfl, rfl⟩
    have he := B.mask_mod q n1
    have Hf := Lib.hid hf
    have He := Lib.hid he; clear hf he hq hq2 a1 b1 hl
    generalize B.pw n - 1 = z at HM He
    go_enter Try.func78, Try.ntmps78
    go_wp2_with fail
    refine HQ.out.mono ?_
    rintro e w1 ⟨rfl, hd⟩
    go_wp2_with fail
    refine (HM.out _).mono ?_
    rintro e w' ⟨rfl, rfl⟩
    go_wp2
    go_ret2
    exact ⟨ret_wb (He.out.trans Hf.out.1.symm) Hf.out.2.symm, hd⟩

theorem does7 (w : World) : DoesAt 7 82 #[] w := by
  intro n a b h
  obtain ⟨q, r, ok, hQ, hcase⟩ := quot_any n a b w h
  have HQ := Lib.hid hQ; clear hQ
  obtain ⟨n0, n1, a0, a1, b0, b1⟩ := h
  have hl := B.pw_le n1
  have a2 : a < 4294967296 := by omega
  have b2 : b < 4294967296 := by omega
  show Calls Try.prog _ #[.int .i64 n, .int .u32 a, .int .u32 b] w _
  have HM := Lib.hid (fun W => mask_any n W (by omega) n1)
  rcases hcase with ⟨hq, rfl, rfl, rfl⟩ | ⟨hq, _, hq2, rfl⟩
  · have hx : B.do_ 7 n a b = none := by rw [B.do_7, if_pos hq]
    by_cases hb : b = 0
    · have hs : (b == 0) = true := by simpa using hb
      have hf : B.full 7 n a b = a ∧ B.has 7 n a b = false := by rw [B.full, B.has, hx]; simp [B.els, hb]
      have Hf := Lib.hid hf; clear hf hx hq hb a1 b1 hl
      go_enter Try.func82, Try.ntmps82
      go_wp2_with fail
      refine HQ.out.mono ?_
      rintro e w1 ⟨rfl, hd⟩
      go_wp2
      go_ret2
      exact ⟨ret_wb Hf.out.1.symm Hf.out.2.symm, hd⟩
    · have hs : (b == 0) = false := by simpa using hb
      have hf : B.full 7 n a b = 0 ∧ B.has 7 n a b = false := by rw [B.full, B.has, hx]; simp [B.els, hb]
      have he := B.mask_mod 0 n1
      have he2 : (0 : Int) % 4294967296 = 0 := rfl
      rw [he2, Int.zero_emod] at he
      have Hf := Lib.hid hf; clear hf hx hq hb a1 b1 hl he2
      have He := Lib.hid he; clear he
      generalize B.pw n - 1 = z at HM He
      go_enter Try.func82, Try.ntmps82
      go_wp2_with fail
      refine HQ.out.mono ?_
      rintro e w1 ⟨rfl, hd⟩
      go_wp2_with fail
      refine (HM.out _).mono ?_
      rintro e w' ⟨rfl, rfl⟩
      go_wp2
      go_ret2
      exact ⟨ret_wb (He.out.trans Hf.out.1.symm) Hf.out.2.symm, hd⟩
  · have hf : B.full 7 n a b = r % B.pw n ∧ B.has 7 n a b = true := by rw [B.full, B.has, B.do_7, if_neg hq, hq2]; exact ⟨rfl, rfl⟩
    have he := B.mask_mod r n1
    have Hf := Lib.hid hf
    have He := Lib.hid he; clear hf he hq hq2 a1 b1 hl
    generalize B.pw n - 1 = z at HM He
    go_enter Try.func82, Try.ntmps82
    go_wp2_with fail
    refine HQ.out.mono ?_
    rintro e w1 ⟨rfl, hd⟩
    go_wp2_with fail
    refine (HM.out _).mono ?_
    rintro e w' ⟨rfl, rfl⟩
    go_wp2
    go_ret2
    exact ⟨ret_wb (He.out.trans Hf.out.1.symm) Hf.out.2.symm, hd⟩

theorem does11 (w : World) : DoesAt 11 87 #[] w := by
  intro n a b h
  obtain ⟨n0, n1, a0, a1, b0, b1⟩ := h
  have hl := B.pw_le n1
  have a2 : a < 4294967296 := by omega
  have b2 : b < 4294967296 := by omega
  show Calls Try.prog _ #[.int .i64 n, .int .u32 a, .int .u32 b] w _
  have HM := Lib.hid (fun W => mask_any n W (by omega) n1)
  by_cases hb : n ≤ b
  · have hf : B.full 11 n a b = 0 ∧ B.has 11 n a b = false := by rw [B.full, B.has, B.do_11, if_pos hb]; exact ⟨rfl, rfl⟩
    have Hf := Lib.hid hf; clear hf a1 b1 hl
    go_enter Try.func87, Try.ntmps87
    go_wp2
    go_ret2
    exact ⟨ret_wb Hf.out.1.symm Hf.out.2.symm, Dr.refl _⟩
  · have hf : B.full 11 n a b = a * B.pw b % B.pw n ∧ B.has 11 n a b = true := by rw [B.full, B.has, B.do_11, if_neg hb]; exact ⟨rfl, rfl⟩
    have he := B.mask_mod (a * B.pw b) n1
    have hb' : b < n := by omega
    have Hf := Lib.hid hf
    have He := Lib.hid he; clear hf he a1 b1 hl hb
    generalize B.pw n - 1 = z at HM He
    go_enter Try.func87, Try.ntmps87
    go_wp2_with fail
    refine (HM.out _).mono ?_
    rintro e w' ⟨rfl, rfl⟩
    go_wp2
    go_ret2
    exact ⟨ret_wb (He.out.trans Hf.out.1.symm) Hf.out.2.symm, Dr.refl _⟩

theorem does12 (w : World) : DoesAt 12 89 #[] w := by
  intro n a b h
  obtain ⟨n0, n1, a0, a1, b0, b1⟩ := h
  have hl := B.pw_le n1
  have a2 : a < 4294967296 := by omega
  have b2 : b < 4294967296 := by omega
  show Calls Try.prog _ #[.int .i64 n, .int .u32 a, .int .u32 b] w _
  by_cases hb : n ≤ b
  · have hf : B.full 12 n a b = 0 ∧ B.has 12 n a b = false := by rw [B.full, B.has, B.do_12, if_pos hb]; exact ⟨rfl, rfl⟩
    have Hf := Lib.hid hf; clear hf a1 b1 hl
    go_enter Try.func89, Try.ntmps89
    go_wp2
    go_ret2
    exact ⟨ret_wb Hf.out.1.symm Hf.out.2.symm, Dr.refl _⟩
  · have hf : B.full 12 n a b = a / B.pw b ∧ B.has 12 n a b = true := by rw [B.full, B.has, B.do_12, if_neg hb]; exact ⟨rfl, rfl⟩
    have hb' : b < n := by omega
    have Hf := Lib.hid hf; clear hf a1 b1 hl hb
    go_enter Try.func89, Try.ntmps89
    go_wp2
    go_ret2
    exact ⟨ret_wb Hf.out.1.symm Hf.out.2.symm, Dr.refl _⟩

theorem does13 (w : World) : DoesAt 13 91 #[] w := by
  intro n a b h
  obtain ⟨n0, n1, a0, a1, b0, b1⟩ := h
  have hl := B.pw_le n1
  have a2 : a < 4294967296 := by omega
  have b2 : b < 4294967296 := by omega
  show Calls Try.prog _ #[.int .i64 n, .int .u32 a, .int .u32 b] w _
  have HM := Lib.hid (fun W => mask_any n W (by omega) n1)
  have HS := Lib.hid (fun W => signed_any n a W n0 n1 a0 a1)
  have HG := Lib.hid (fun W => sign_any n a W n0 n1 a0 a1)
  by_cases hb : n ≤ b
  · have hf : B.full 13 n a b = (if B.sg n a < 0 then B.pw n - 1 else 0) ∧ B.has 13 n a b = false := by rw [B.full, B.has, B.do_13, if_pos hb]; exact ⟨rfl, rfl⟩
    have Hf := Lib.hid hf; clear hf a1 b1 hl
    generalize (if B.sg n a < 0 then B.pw n - 1 else 0) = z at HG Hf
    go_enter Try.func91, Try.ntmps91
    go_wp2_with fail
    refine (HG.out _).mono ?_
    rintro e w' ⟨rfl, rfl⟩
    go_wp2
    go_ret2
    exact ⟨ret_wb Hf.out.1.symm Hf.out.2.symm, Dr.refl _⟩
  · have hf : B.full 13 n a b = B.sg n a / B.pw b % B.pw n ∧ B.has 13 n a b = true := by rw [B.full, B.has, B.do_13, if_neg hb]; exact ⟨rfl, rfl⟩
    have he := B.mask_mod (B.sg n a / B.pw b) n1
    have hb' : b < n := by omega
    have Hf := Lib.hid hf
    have He := Lib.hid he; clear hf he a1 b1 hl hb
    generalize B.pw n - 1 = z at HM He
    go_enter Try.func91, Try.ntmps91
    go_wp2_with fail
    refine (HS.out _).mono ?_
    rintro e w' ⟨rfl, rfl⟩
    go_wp2_with fail
    refine (HM.out _).mono ?_
    rintro e w' ⟨rfl, rfl⟩
    go_wp2
    go_ret2
    exact ⟨ret_wb (He.out.trans Hf.out.1.symm) Hf.out.2.symm, Dr.refl _⟩
end Go.Proofs.Ytableoihgkmbjaa
