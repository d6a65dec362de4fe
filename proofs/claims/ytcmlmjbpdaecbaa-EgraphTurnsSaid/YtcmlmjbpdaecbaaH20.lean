/- Walks of the program's layer of terms: the shape of a node. -/
import Derived.Test.YtcmlmjbpdaecbaaH19
set_option linter.unusedVariables false
set_option linter.unusedSimpArgs false
namespace Go.Proofs.Ytcmlmjbpdaecbaa
open Go.RowKit
set_option linter.unusedVariables false
set_option linter.unusedSimpArgs false

theorem argsOk_any (k : Nat) (l : List Int) : T.argsOk k l = !(l.any fun a => !(decide (0 ≤ a) && decide (a < k))) := by
  unfold T.argsOk
  rw [List.not_any_eq_all_not]
  congr 1
  funext a
  simp

/-- how the shape of a node may be wrong: the first test that fails -/
theorem shape_cases (k : Nat) (x : T.Nd) :
    (T.shaped true k x = false ∧ decide (0 ≤ T.ar x.op) = false) ∨
    (T.shaped true k x = false ∧ decide (0 ≤ T.ar x.op) = true ∧ decide (x.w < 1) = true) ∨
    (T.shaped true k x = false ∧ decide (0 ≤ T.ar x.op) = true ∧ decide (x.w < 1) = false ∧ decide (32 < x.w) = true) ∨
    (T.shaped true k x = false ∧ decide (0 ≤ T.ar x.op) = true ∧ decide (x.w < 1) = false ∧ decide (32 < x.w) = false ∧ (x.fl != 0) = true) ∨
    (T.shaped true k x = false ∧ decide (0 ≤ T.ar x.op) = true ∧ decide (x.w < 1) = false ∧ decide (32 < x.w) = false ∧ (x.fl != 0) = false ∧ ((x.args.length : Int) != T.ar x.op) = true) ∨
    (T.shaped true k x = false ∧ decide (0 ≤ T.ar x.op) = true ∧ decide (x.w < 1) = false ∧ decide (32 < x.w) = false ∧ (x.fl != 0) = false ∧ ((x.args.length : Int) != T.ar x.op) = false ∧ T.immOk x = false) ∨
    (T.shaped true k x = false ∧ decide (0 ≤ T.ar x.op) = true ∧ decide (x.w < 1) = false ∧ decide (32 < x.w) = false ∧ (x.fl != 0) = false ∧ ((x.args.length : Int) != T.ar x.op) = false ∧ T.immOk x = true ∧ (x.op == 14) = true ∧ (x.w != 1) = true) ∨
    (T.shaped true k x = T.argsOk k x.args ∧ decide (0 ≤ T.ar x.op) = true ∧ decide (x.w < 1) = false ∧ decide (32 < x.w) = false ∧ (x.fl != 0) = false ∧ ((x.args.length : Int) != T.ar x.op) = false ∧ T.immOk x = true ∧ (x.op == 14) = true ∧ (x.w != 1) = false) ∨
    (T.shaped true k x = T.argsOk k x.args ∧ decide (0 ≤ T.ar x.op) = true ∧ decide (x.w < 1) = false ∧ decide (32 < x.w) = false ∧ (x.fl != 0) = false ∧ ((x.args.length : Int) != T.ar x.op) = false ∧ T.immOk x = true ∧ (x.op == 14) = false) := by
  have hw1 : decide (1 ≤ x.w) = !decide (x.w < 1) := by by_cases h : x.w < 1 <;> simp [h] <;> omega
  have hw2 : decide (x.w ≤ 32) = !decide (32 < x.w) := by by_cases h : 32 < x.w <;> simp [h] <;> omega
  have hf : decide (x.fl = 0) = !(x.fl != 0) := by by_cases h : x.fl = 0 <;> simp [h]
  have hl : decide ((x.args.length : Int) = T.ar x.op) = !((x.args.length : Int) != T.ar x.op) := by by_cases h : (x.args.length : Int) = T.ar x.op <;> simp [h]
  have ho : decide (x.op = 14) = (x.op == 14) := by by_cases h : x.op = 14 <;> simp [h]
  have hw : decide (x.w = 1) = !(x.w != 1) := by by_cases h : x.w = 1 <;> simp [h]
  unfold T.shaped
  rw [hw1, hw2, hf, hl, ho, hw]
  generalize decide (0 ≤ T.ar x.op) = a
  generalize decide (x.w < 1) = b
  generalize decide (32 < x.w) = c
  generalize (x.fl != 0) = d
  generalize ((x.args.length : Int) != T.ar x.op) = e
  generalize T.immOk x = f
  generalize (x.op == 14) = g
  generalize (x.w != 1) = h
  generalize T.argsOk k x.args = i
  cases a <;> cases b <;> cases c <;> cases d <;> cases e <;> cases f <;> cases g <;> cases h <;> simp

set_option maxRecDepth 100000 in
set_option maxHeartbeats 4000000 in
theorem pisShaped_any (k : Nat) (x : T.Nd) (A : Option Addr) (c : Nat) (W : World) (hA : SlAt (IntR .i64) W A x.args.length x.args) :
    Calls Try.prog 48 #[.int .i64 k, ndV x A c] W fun e w' => e = .returned (.bool (T.shaped true k x)) ∧ Below W.heap.size W w' := by
  obtain ⟨op, w, fl, args, imm⟩ := x
  have Hc := Lib.hid (shape_cases k ⟨op, w, fl, args, imm⟩)
  have HI := Lib.hid (fun n W' => pisImm_any op w fl imm n A c args W')
  have HP := Lib.hid (fun W' => parity_any op W')
  have hle := hA.le
  obtain ⟨W1, hW1⟩ : ∃ W1, W1 = (W.alloc (.cells #[.int .i64 (k : Int)] 3)).alloc (.cells #[.int .i64 op, .int .i64 w, .int .i64 fl, .slice A args.length c, .int .u32 imm] 52) := ⟨_, rfl⟩
  have hB1 : Below W.heap.size W W1 := by rw [hW1]; exact ((Below.refl _ _).alloc (Nat.le_refl _) _).alloc (by simp) _
  have hs1 : W1.heap.size = W.heap.size + 1 + 1 := by rw [hW1]; simp
  have hr0 : W1.heap[W.heap.size]? = some (.cells #[.int .i64 (k : Int)] 3 (0, 0)) := by rw [hW1]; exact row_alloc (heap_alloc_new W _) _
  have hr1 : W1.heap[W.heap.size + 1]? = some (.cells #[.int .i64 op, .int .i64 w, .int .i64 fl, .slice A args.length c, .int .u32 imm] 52 (0, 0)) := by rw [hW1]; exact new_two W _ _
  have HX := Lib.hid (show ∀ Y : World, Below W1.heap.size W1 Y → Y.cell? ⟨W.heap.size, 0, none⟩ = some (.int .i64 (k : Int)) ∧ Y.cell? ⟨W.heap.size + 1, 0, none⟩ = some (.int .i64 op) ∧ Y.cell? ⟨W.heap.size + 1, 1, none⟩ = some (.int .i64 w) ∧ Y.cell? ⟨W.heap.size + 1, 2, none⟩ = some (.int .i64 fl) ∧ Y.cell? ⟨W.heap.size + 1, 3, none⟩ = some (.slice A args.length c) ∧ Y.cell? ⟨W.heap.size + 1, 4, none⟩ = some (.int .u32 imm) from fun Y hY => by
    have h0 := row_step (Lib.hid hY) hr0
    have h1 := row_step (Lib.hid hY) hr1
    refine ⟨?_, ?_, ?_, ?_, ?_, ?_⟩
    · rw [cell_of_row _ _ _ _ _ (0, 0) h0]; rfl
    all_goals rw [cell_of_row _ _ _ _ _ (0, 0) h1]; rfl)
  have HS := Lib.hid (fun (Y : World) (h : Below W1.heap.size W1 Y) => hasF_any 61 #[.pointer (some ⟨W.heap.size, 0, none⟩)] (fun a => !(decide (0 ≤ a) && decide (a < k))) A args.length c args Y ((hA.below (monoInt _) hB1).below (monoInt _) h) (shapedClo_any k _ Y (by
    have h0 := row_step (Lib.hid h) hr0
    rw [cell_of_row _ _ _ _ _ (0, 0) h0]; rfl)))
  have HB1 := Lib.hid hB1
  have Hs1 := Lib.hid hs1
  have HW1 := Lib.hid hW1
  clear hA hB1 hs1 hr0 hr1
  obtain ⟨x0, x1, x2, x3, x4, x5⟩ := HX.out W1 (Below.refl _ _)
  simp only at Hc HI HP
  rw [show ndV ⟨op, w, fl, args, imm⟩ A c = .agg #[.int .i64 op, .int .i64 w, .int .i64 fl, .slice A args.length c, .int .u32 imm] from rfl]
  obtain ⟨ok, hok⟩ : ∃ ok, ok = decide (0 ≤ T.ar op) := ⟨_, rfl⟩
  obtain ⟨sh, hsh⟩ : ∃ sh, sh = T.shaped true k ⟨op, w, fl, args, imm⟩ := ⟨_, rfl⟩
  rw [← hsh]
  have Hsh := Lib.hid hsh
  have Hok := Lib.hid hok
  clear hsh hok
  rcases Hc.out with ⟨hr, h1⟩ | ⟨hr, h1, h2⟩ | ⟨hr, h1, h2, h3⟩ | ⟨hr, h1, h2, h3, h4⟩ | ⟨hr, h1, h2, h3, h4, h5⟩ | ⟨hr, h1, h2, h3, h4, h5, h6⟩ | ⟨hr, h1, h2, h3, h4, h5, h6, h7, h8⟩ | ⟨hr, h1, h2, h3, h4, h5, h6, h7, h8⟩ | ⟨hr, h1, h2, h3, h4, h5, h6, h7⟩
  all_goals
    rw [← Hsh.out] at hr
    rw [h1] at HP
  · have hn : ¬ 0 ≤ T.ar op := by simpa using h1
    rw [if_neg hn] at HP
    subst hr
    clear h1 hn Hc
    go_enter Try.func48, Try.ntmps48
    rw [hW1] at x0 x1 x2 x3 x4 x5
    go_wp2_with fail
    rw [← hW1] at x0 x1 x2 x3 x4 x5 ⊢
    refine (HP.out _).mono ?_
    rintro e w' ⟨rfl, rfl⟩
    clear hW1
    go_wp2
    go_ret
    exact ⟨rfl, HB1.out⟩
  · have hn : 0 ≤ T.ar op := by simpa using h1
    rw [if_pos hn] at HP
    obtain ⟨n, hnn⟩ : ∃ n, n = T.ar op := ⟨_, rfl⟩
    simp only [← hnn] at *
    clear h1 hn Hc hnn
    subst hr
    go_enter Try.func48, Try.ntmps48
    rw [hW1] at x0 x1 x2 x3 x4 x5
    go_wp2_with fail
    rw [← hW1] at x0 x1 x2 x3 x4 x5 ⊢
    refine (HP.out _).mono ?_
    rintro e w' ⟨rfl, rfl⟩
    clear hW1
    go_wp2
    go_ret
    exact ⟨rfl, HB1.out⟩
  · have hn : 0 ≤ T.ar op := by simpa using h1
    rw [if_pos hn] at HP
    obtain ⟨n, hnn⟩ : ∃ n, n = T.ar op := ⟨_, rfl⟩
    simp only [← hnn] at *
    clear h1 hn Hc hnn
    subst hr
    go_enter Try.func48, Try.ntmps48
    rw [hW1] at x0 x1 x2 x3 x4 x5
    go_wp2_with fail
    rw [← hW1] at x0 x1 x2 x3 x4 x5 ⊢
    refine (HP.out _).mono ?_
    rintro e w' ⟨rfl, rfl⟩
    clear hW1
    go_wp2
    go_ret
    exact ⟨rfl, HB1.out⟩
  · have hn : 0 ≤ T.ar op := by simpa using h1
    rw [if_pos hn] at HP
    obtain ⟨n, hnn⟩ : ∃ n, n = T.ar op := ⟨_, rfl⟩
    simp only [← hnn] at *
    clear h1 hn Hc hnn
    subst hr
    go_enter Try.func48, Try.ntmps48
    rw [hW1] at x0 x1 x2 x3 x4 x5
    go_wp2_with fail
    rw [← hW1] at x0 x1 x2 x3 x4 x5 ⊢
    refine (HP.out _).mono ?_
    rintro e w' ⟨rfl, rfl⟩
    clear hW1
    go_wp2
    go_ret
    exact ⟨rfl, HB1.out⟩
  · have hn : 0 ≤ T.ar op := by simpa using h1
    rw [if_pos hn] at HP
    obtain ⟨n, hnn⟩ : ∃ n, n = T.ar op := ⟨_, rfl⟩
    simp only [← hnn] at *
    clear h1 hn Hc hnn
    subst hr
    go_enter Try.func48, Try.ntmps48
    rw [hW1] at x0 x1 x2 x3 x4 x5
    go_wp2_with fail
    rw [← hW1] at x0 x1 x2 x3 x4 x5 ⊢
    refine (HP.out _).mono ?_
    rintro e w' ⟨rfl, rfl⟩
    clear hW1
    go_wp2
    go_ret
    exact ⟨rfl, HB1.out⟩
  · have hn : 0 ≤ T.ar op := by simpa using h1
    rw [if_pos hn] at HP
    obtain ⟨n, hnn⟩ : ∃ n, n = T.ar op := ⟨_, rfl⟩
    simp only [← hnn] at *
    clear h1 hn Hc hnn
    subst hr
    rw [h6] at HI
    clear h6
    go_enter Try.func48, Try.ntmps48
    rw [hW1] at x0 x1 x2 x3 x4 x5
    go_wp2_with fail
    rw [← hW1] at x0 x1 x2 x3 x4 x5 ⊢
    refine (HP.out _).mono ?_
    rintro e w' ⟨rfl, rfl⟩
    clear hW1
    go_wp2_with fail
    refine (HI.out _ _).mono ?_
    rintro e w2 ⟨rfl, hb2⟩
    obtain ⟨y0, y1, y2, y3, y4, y5⟩ := HX.out w2 hb2
    have HS2 := Lib.hid (HS.out w2 hb2)
    have Hb2 := Lib.hid (HB1.out.trans (hb2.mono (by have := Hs1.out; omega)))
    clear hb2 x0 x1 x2 x3 x4 x5
    go_wp2
    go_ret
    exact ⟨rfl, Hb2.out⟩
  · have hn : 0 ≤ T.ar op := by simpa using h1
    rw [if_pos hn] at HP
    obtain ⟨n, hnn⟩ : ∃ n, n = T.ar op := ⟨_, rfl⟩
    simp only [← hnn] at *
    clear h1 hn Hc hnn
    subst hr
    rw [h6] at HI
    clear h6
    go_enter Try.func48, Try.ntmps48
    rw [hW1] at x0 x1 x2 x3 x4 x5
    go_wp2_with fail
    rw [← hW1] at x0 x1 x2 x3 x4 x5 ⊢
    refine (HP.out _).mono ?_
    rintro e w' ⟨rfl, rfl⟩
    clear hW1
    go_wp2_with fail
    refine (HI.out _ _).mono ?_
    rintro e w2 ⟨rfl, hb2⟩
    obtain ⟨y0, y1, y2, y3, y4, y5⟩ := HX.out w2 hb2
    have HS2 := Lib.hid (HS.out w2 hb2)
    have Hb2 := Lib.hid (HB1.out.trans (hb2.mono (by have := Hs1.out; omega)))
    clear hb2 x0 x1 x2 x3 x4 x5
    go_wp2
    go_ret
    exact ⟨rfl, Hb2.out⟩
  · have hn : 0 ≤ T.ar op := by simpa using h1
    rw [if_pos hn] at HP
    obtain ⟨n, hnn⟩ : ∃ n, n = T.ar op := ⟨_, rfl⟩
    simp only [← hnn] at *
    clear h1 hn Hc hnn
    have Hr := Lib.hid hr; clear hr
    rw [h6] at HI
    clear h6
    go_enter Try.func48, Try.ntmps48
    rw [hW1] at x0 x1 x2 x3 x4 x5
    go_wp2_with fail
    rw [← hW1] at x0 x1 x2 x3 x4 x5 ⊢
    refine (HP.out _).mono ?_
    rintro e w' ⟨rfl, rfl⟩
    clear hW1
    go_wp2_with fail
    refine (HI.out _ _).mono ?_
    rintro e w2 ⟨rfl, hb2⟩
    obtain ⟨y0, y1, y2, y3, y4, y5⟩ := HX.out w2 hb2
    have HS2 := Lib.hid (HS.out w2 hb2)
    have Hb2 := Lib.hid (HB1.out.trans (hb2.mono (by have := Hs1.out; omega)))
    clear hb2 x0 x1 x2 x3 x4 x5
    go_wp2_with fail
    refine HS2.out.mono ?_
    rintro e w' ⟨rfl, rfl⟩
    go_wp2
    go_ret
    exact ⟨ret_bool (by rw [Hr.out, argsOk_any]; simp only [Bool.not_and]), Hb2.out⟩
  · have hn : 0 ≤ T.ar op := by simpa using h1
    rw [if_pos hn] at HP
    obtain ⟨n, hnn⟩ : ∃ n, n = T.ar op := ⟨_, rfl⟩
    simp only [← hnn] at *
    clear h1 hn Hc hnn
    have Hr := Lib.hid hr; clear hr
    rw [h6] at HI
    clear h6
    go_enter Try.func48, Try.ntmps48
    rw [hW1] at x0 x1 x2 x3 x4 x5
    go_wp2_with fail
    rw [← hW1] at x0 x1 x2 x3 x4 x5 ⊢
    refine (HP.out _).mono ?_
    rintro e w' ⟨rfl, rfl⟩
    clear hW1
    go_wp2_with fail
    refine (HI.out _ _).mono ?_
    rintro e w2 ⟨rfl, hb2⟩
    obtain ⟨y0, y1, y2, y3, y4, y5⟩ := HX.out w2 hb2
    have HS2 := Lib.hid (HS.out w2 hb2)
    have Hb2 := Lib.hid (HB1.out.trans (hb2.mono (by have := Hs1.out; omega)))
    clear hb2 x0 x1 x2 x3 x4 x5
    go_wp2_with fail
    refine HS2.out.mono ?_
    rintro e w' ⟨rfl, rfl⟩
    go_wp2
    go_ret
    exact ⟨ret_bool (by rw [Hr.out, argsOk_any]; simp only [Bool.not_and]), Hb2.out⟩
end Go.Proofs.Ytcmlmjbpdaecbaa
