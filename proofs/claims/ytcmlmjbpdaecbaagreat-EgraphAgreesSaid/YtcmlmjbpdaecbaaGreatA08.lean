/- Merged: QT3, QT4. -/
import Derived.Test.YtcmlmjbpdaecbaaGreatA07
set_option linter.unusedVariables false
set_option linter.unusedSimpArgs false
section
namespace Go.Proofs.YtcmlmjbpdaecbaaGreat
open Go.RowKit
set_option linter.unusedVariables false
set_option linter.unusedSimpArgs false

theorem argsOk_any (k : Nat) (l : List Int) : T.argsOk k l = !(l.any fun a => !(decide (0 ≤ a) && decide (a < k))) := by
  unfold T.argsOk
  rw [List.not_any_eq_all_not]
  congr 1
  funext a
  simp

/-- how the shape of a node may be wrong: the first test that fails -/
theorem shape_cases (k : Nat) (x : T.Nd) :
    (T.shaped true k x = false ∧ decide (0 ≤ T.ar x.op) = false) ∨
    (T.shaped true k x = false ∧ decide (0 ≤ T.ar x.op) = true ∧ decide (x.w < 1) = true) ∨
    (T.shaped true k x = false ∧ decide (0 ≤ T.ar x.op) = true ∧ decide (x.w < 1) = false ∧ decide (32 < x.w) = true) ∨
    (T.shaped true k x = false ∧ decide (0 ≤ T.ar x.op) = true ∧ decide (x.w < 1) = false ∧ decide (32 < x.w) = false ∧ (x.fl != 0) = true) ∨
    (T.shaped true k x = false ∧ decide (0 ≤ T.ar x.op) = true ∧ decide (x.w < 1) = false ∧ decide (32 < x.w) = false ∧ (x.fl != 0) = false ∧ ((x.args.length : Int) != T.ar x.op) = true) ∨
    (T.shaped true k x = false ∧ decide (0 ≤ T.ar x.op) = true ∧ decide (x.w < 1) = false ∧ decide (32 < x.w) = false ∧ (x.fl != 0) = false ∧ ((x.args.length : Int) != T.ar x.op) = false ∧ T.immOk x = false) ∨
    (T.shaped true k x = false ∧ decide (0 ≤ T.ar x.op) = true ∧ decide (x.w < 1) = false ∧ decide (32 < x.w) = false ∧ (x.fl != 0) = false ∧ ((x.args.length : Int) != T.ar x.op) = false ∧ T.immOk x = true ∧ (x.op == 14) = true ∧ (x.w != 1) = true) ∨
    (T.shaped true k x = T.argsOk k x.args ∧ decide (0 ≤ T.ar x.op) = true ∧ decide (x.w < 1) = false ∧ decide (32 < x.w) = false ∧ (x.fl != 0) = false ∧ ((x.args.length : Int) != T.ar x.op) = false ∧ T.immOk x = true ∧ (x.op == 14) = true ∧ (x.w != 1) = false) ∨
    (T.shaped true k x = T.argsOk k x.args ∧ decide (0 ≤ T.ar x.op) = true ∧ decide (x.w < 1) = false ∧ decide (32 < x.w) = false ∧ (x.fl != 0) = false ∧ ((x.args.length : Int) != T.ar x.op) = false ∧ T.immOk x = true ∧ (x.op == 14) = false) := by
  have hw1 : decide (1 ≤ x.w) = !decide (x.w < 1) := by by_cases h : x.w < 1 <;> simp [h] <;> omega
  have hw2 : decide (x.w ≤ 32) = !decide (32 < x.w) := by by_cases h : 32 < x.w <;> simp [h] <;> omega
  have hf : decide (x.fl = 0) = !(x.fl != 0) := by by_cases h : x.fl = 0 <;> simp [h]
  have hl : decide ((x.args.length : Int) = T.ar x.op) = !((x.args.length : Int) != T.ar x.op) := by by_cases h : (x.args.length : Int) = T.ar x.op <;> simp [h]
  have ho : decide (x.op = 14) = (x.op == 14) := by by_cases h : x.op = 14 <;> simp [h]
  have hw : decide (x.w = 1) = !(x.w != 1) := by by_cases h : x.w = 1 <;> simp [h]
  unfold T.shaped
  rw [hw1, hw2, hf, hl, ho, hw]
  generalize decide (0 ≤ T.ar x.op) = a
  generalize decide (x.w < 1) = b
  generalize decide (32 < x.w) = c
  generalize (x.fl != 0) = d
  generalize ((x.args.length : Int) != T.ar x.op) = e
  generalize T.immOk x = f
  generalize (x.op == 14) = g
  generalize (x.w != 1) = h
  generalize T.argsOk k x.args = i
  cases a <;> cases b <;> cases c <;> cases d <;> cases e <;> cases f <;> cases g <;> cases h <;> simp

set_option maxRecDepth 100000 in
set_option maxHeartbeats 4000000 in
theorem pisShaped_any (k : Nat) (x : T.Nd) (A : Option Addr) (c : Nat) (W : World) (hA : SlAt (IntR .i64) W A x.args.length x.args) :
    Calls Tryz.prog 147 #[.int .i64 k, ndV x A c] W fun e w' => e = .returned (.bool (T.shaped true k x)) ∧ Below W.heap.size W w' := by
  obtain ⟨op, w, fl, args, imm⟩ := x
  have Hc := Lib.hid (shape_cases k ⟨op, w, fl, args, imm⟩)
  have HI := Lib.hid (fun n W' => pisImm_any op w fl imm n A c args W')
  have HP := Lib.hid (fun W' => parity_any op W')
  have hle := hA.le
  obtain ⟨W1, hW1⟩ : ∃ W1, W1 = (W.alloc (.cells #[.int .i64 (k : Int)] 3)).alloc (.cells #[.int .i64 op, .int .i64 w, .int .i64 fl, .slice A args.length c, .int .u32 imm] 63) := ⟨_, rfl⟩
  have hB1 : Below W.heap.size W W1 := by rw [hW1]; exact ((Below.refl _ _).alloc (Nat.le_refl _) _).alloc (by simp) _
  have hs1 : W1.heap.size = W.heap.size + 1 + 1 := by rw [hW1]; simp
  have hr0 : W1.heap[W.heap.size]? = some (.cells #[.int .i64 (k : Int)] 3 (0, 0)) := by rw [hW1]; exact row_alloc (heap_alloc_new W _) _
  have hr1 : W1.heap[W.heap.size + 1]? = some (.cells #[.int .i64 op, .int .i64 w, .int .i64 fl, .slice A args.length c, .int .u32 imm] 63 (0, 0)) := by rw [hW1]; exact new_two W _ _
  have HX := Lib.hid (show ∀ Y : World, Below W1.heap.size W1 Y → Y.cell? ⟨W.heap.size, 0, none⟩ = some (.int .i64 (k : Int)) ∧ Y.cell? ⟨W.heap.size + 1, 0, none⟩ = some (.int .i64 op) ∧ Y.cell? ⟨W.heap.size + 1, 1, none⟩ = some (.int .i64 w) ∧ Y.cell? ⟨W.heap.size + 1, 2, none⟩ = some (.int .i64 fl) ∧ Y.cell? ⟨W.heap.size + 1, 3, none⟩ = some (.slice A args.length c) ∧ Y.cell? ⟨W.heap.size + 1, 4, none⟩ = some (.int .u32 imm) from fun Y hY => by
    have h0 := row_step (Lib.hid hY) hr0
    have h1 := row_step (Lib.hid hY) hr1
    refine ⟨?_, ?_, ?_, ?_, ?_, ?_⟩
    · rw [cell_of_row _ _ _ _ _ (0, 0) h0]; rfl
    all_goals rw [cell_of_row _ _ _ _ _ (0, 0) h1]; rfl)
  have HS := Lib.hid (fun (Y : World) (h : Below W1.heap.size W1 Y) => hasF_any 168 #[.pointer (some ⟨W.heap.size, 0, none⟩)] (fun a => !(decide (0 ≤ a) && decide (a < k))) A args.length c args Y ((hA.below (monoInt _) hB1).below (monoInt _) h) (shapedClo_any k _ Y (by
    have h0 := row_step (Lib.hid h) hr0
    rw [cell_of_row _ _ _ _ _ (0, 0) h0]; rfl)))
  have HB1 := Lib.hid hB1
  have Hs1 := Lib.hid hs1
  have HW1 := Lib.hid hW1
  clear hA hB1 hs1 hr0 hr1
  obtain ⟨x0, x1, x2, x3, x4, x5⟩ := HX.out W1 (Below.refl _ _)
  simp only at Hc HI HP
  rw [show ndV ⟨op, w, fl, args, imm⟩ A c = .agg #[.int .i64 op, .int .i64 w, .int .i64 fl, .slice A args.length c, .int .u32 imm] from rfl]
  obtain ⟨ok, hok⟩ : ∃ ok, ok = decide (0 ≤ T.ar op) := ⟨_, rfl⟩
  obtain ⟨sh, hsh⟩ : ∃ sh, sh = T.shaped true k ⟨op, w, fl, args, imm⟩ := ⟨_, rfl⟩
  rw [← hsh]
  have Hsh := Lib.hid hsh
  have Hok := Lib.hid hok
  clear hsh hok
  rcases Hc.out with ⟨hr, h1⟩ | ⟨hr, h1, h2⟩ | ⟨hr, h1, h2, h3⟩ | ⟨hr, h1, h2, h3, h4⟩ | ⟨hr, h1, h2, h3, h4, h5⟩ | ⟨hr, h1, h2, h3, h4, h5, h6⟩ | ⟨hr, h1, h2, h3, h4, h5, h6, h7, h8⟩ | ⟨hr, h1, h2, h3, h4, h5, h6, h7, h8⟩ | ⟨hr, h1, h2, h3, h4, h5, h6, h7⟩
  all_goals
    rw [← Hsh.out] at hr
    rw [h1] at HP
  · have hn : ¬ 0 ≤ T.ar op := by simpa using h1
    rw [if_neg hn] at HP
    subst hr
    clear h1 hn Hc
    go_enter Tryz.func147, Tryz.ntmps147
    rw [hW1] at x0 x1 x2 x3 x4 x5
    go_wp2_with fail
    rw [← hW1] at x0 x1 x2 x3 x4 x5 ⊢
    refine (HP.out _).mono ?_
    rintro e w' ⟨rfl, rfl⟩
    clear hW1
    go_wp2
    go_ret
    exact ⟨rfl, HB1.out⟩
  · have hn : 0 ≤ T.ar op := by simpa using h1
    rw [if_pos hn] at HP
    obtain ⟨n, hnn⟩ : ∃ n, n = T.ar op := ⟨_, rfl⟩
    simp only [← hnn] at *
    clear h1 hn Hc hnn
    subst hr
    go_enter Tryz.func147, Tryz.ntmps147
    rw [hW1] at x0 x1 x2 x3 x4 x5
    go_wp2_with fail
    rw [← hW1] at x0 x1 x2 x3 x4 x5 ⊢
    refine (HP.out _).mono ?_
    rintro e w' ⟨rfl, rfl⟩
    clear hW1
    go_wp2
    go_ret
    exact ⟨rfl, HB1.out⟩
  · have hn : 0 ≤ T.ar op := by simpa using h1
    rw [if_pos hn] at HP
    obtain ⟨n, hnn⟩ : ∃ n, n = T.ar op := ⟨_, rfl⟩
    simp only [← hnn] at *
    clear h1 hn Hc hnn
    subst hr
    go_enter Tryz.func147, Tryz.ntmps147
    rw [hW1] at x0 x1 x2 x3 x4 x5
    go_wp2_with fail
    rw [← hW1] at x0 x1 x2 x3 x4 x5 ⊢
    refine (HP.out _).mono ?_
    rintro e w' ⟨rfl, rfl⟩
    clear hW1
    go_wp2
    go_ret
    exact ⟨rfl, HB1.out⟩
  · have hn : 0 ≤ T.ar op := by simpa using h1
    rw [if_pos hn] at HP
    obtain ⟨n, hnn⟩ : ∃ n, n = T.ar op := ⟨_, rfl⟩
    simp only [← hnn] at *
    clear h1 hn Hc hnn
    subst hr
    go_enter Tryz.func147, Tryz.ntmps147
    rw [hW1] at x0 x1 x2 x3 x4 x5
    go_wp2_with fail
    rw [← hW1] at x0 x1 x2 x3 x4 x5 ⊢
    refine (HP.out _).mono ?_
    rintro e w' ⟨rfl, rfl⟩
    clear hW1
    go_wp2
    go_ret
    exact ⟨rfl, HB1.out⟩
  · have hn : 0 ≤ T.ar op := by simpa using h1
    rw [if_pos hn] at HP
    obtain ⟨n, hnn⟩ : ∃ n, n = T.ar op := ⟨_, rfl⟩
    simp only [← hnn] at *
    clear h1 hn Hc hnn
    subst hr
    go_enter Tryz.func147, Tryz.ntmps147
    rw [hW1] at x0 x1 x2 x3 x4 x5
    go_wp2_with fail
    rw [← hW1] at x0 x1 x2 x3 x4 x5 ⊢
    refine (HP.out _).mono ?_
    rintro e w' ⟨rfl, rfl⟩
    clear hW1
    go_wp2
    go_ret
    exact ⟨rfl, HB1.out⟩
  · have hn : 0 ≤ T.ar op := by simpa using h1
    rw [if_pos hn] at HP
    obtain ⟨n, hnn⟩ : ∃ n, n = T.ar op := ⟨_, rfl⟩
    simp only [← hnn] at *
    clear h1 hn Hc hnn
    subst hr
    rw [h6] at HI
    clear h6
    go_enter Tryz.func147, Tryz.ntmps147
    rw [hW1] at x0 x1 x2 x3 x4 x5
    go_wp2_with fail
    rw [← hW1] at x0 x1 x2 x3 x4 x5 ⊢
    refine (HP.out _).mono ?_
    rintro e w' ⟨rfl, rfl⟩
    clear hW1
    go_wp2_with fail
    refine (HI.out _ _).mono ?_
    rintro e w2 ⟨rfl, hb2⟩
    obtain ⟨y0, y1, y2, y3, y4, y5⟩ := HX.out w2 hb2
    have HS2 := Lib.hid (HS.out w2 hb2)
    have Hb2 := Lib.hid (HB1.out.trans (hb2.mono (by have := Hs1.out; omega)))
    clear hb2 x0 x1 x2 x3 x4 x5
    go_wp2
    go_ret
    exact ⟨rfl, Hb2.out⟩
  · have hn : 0 ≤ T.ar op := by simpa using h1
    rw [if_pos hn] at HP
    obtain ⟨n, hnn⟩ : ∃ n, n = T.ar op := ⟨_, rfl⟩
    simp only [← hnn] at *
    clear h1 hn Hc hnn
    subst hr
    rw [h6] at HI
    clear h6
    go_enter Tryz.func147, Tryz.ntmps147
    rw [hW1] at x0 x1 x2 x3 x4 x5
    go_wp2_with fail
    rw [← hW1] at x0 x1 x2 x3 x4 x5 ⊢
    refine (HP.out _).mono ?_
    rintro e w' ⟨rfl, rfl⟩
    clear hW1
    go_wp2_with fail
    refine (HI.out _ _).mono ?_
    rintro e w2 ⟨rfl, hb2⟩
    obtain ⟨y0, y1, y2, y3, y4, y5⟩ := HX.out w2 hb2
    have HS2 := Lib.hid (HS.out w2 hb2)
    have Hb2 := Lib.hid (HB1.out.trans (hb2.mono (by have := Hs1.out; omega)))
    clear hb2 x0 x1 x2 x3 x4 x5
    go_wp2
    go_ret
    exact ⟨rfl, Hb2.out⟩
  · have hn : 0 ≤ T.ar op := by simpa using h1
    rw [if_pos hn] at HP
    obtain ⟨n, hnn⟩ : ∃ n, n = T.ar op := ⟨_, rfl⟩
    simp only [← hnn] at *
    clear h1 hn Hc hnn
    have Hr := Lib.hid hr; clear hr
    rw [h6] at HI
    clear h6
    go_enter Tryz.func147, Tryz.ntmps147
    rw [hW1] at x0 x1 x2 x3 x4 x5
    go_wp2_with fail
    rw [← hW1] at x0 x1 x2 x3 x4 x5 ⊢
    refine (HP.out _).mono ?_
    rintro e w' ⟨rfl, rfl⟩
    clear hW1
    go_wp2_with fail
    refine (HI.out _ _).mono ?_
    rintro e w2 ⟨rfl, hb2⟩
    obtain ⟨y0, y1, y2, y3, y4, y5⟩ := HX.out w2 hb2
    have HS2 := Lib.hid (HS.out w2 hb2)
    have Hb2 := Lib.hid (HB1.out.trans (hb2.mono (by have := Hs1.out; omega)))
    clear hb2 x0 x1 x2 x3 x4 x5
    go_wp2_with fail
    refine HS2.out.mono ?_
    rintro e w' ⟨rfl, rfl⟩
    go_wp2
    go_ret
    exact ⟨ret_bool (by rw [Hr.out, argsOk_any]; simp only [Bool.not_and]), Hb2.out⟩
  · have hn : 0 ≤ T.ar op := by simpa using h1
    rw [if_pos hn] at HP
    obtain ⟨n, hnn⟩ : ∃ n, n = T.ar op := ⟨_, rfl⟩
    simp only [← hnn] at *
    clear h1 hn Hc hnn
    have Hr := Lib.hid hr; clear hr
    rw [h6] at HI
    clear h6
    go_enter Tryz.func147, Tryz.ntmps147
    rw [hW1] at x0 x1 x2 x3 x4 x5
    go_wp2_with fail
    rw [← hW1] at x0 x1 x2 x3 x4 x5 ⊢
    refine (HP.out _).mono ?_
    rintro e w' ⟨rfl, rfl⟩
    clear hW1
    go_wp2_with fail
    refine (HI.out _ _).mono ?_
    rintro e w2 ⟨rfl, hb2⟩
    obtain ⟨y0, y1, y2, y3, y4, y5⟩ := HX.out w2 hb2
    have HS2 := Lib.hid (HS.out w2 hb2)
    have Hb2 := Lib.hid (HB1.out.trans (hb2.mono (by have := Hs1.out; omega)))
    clear hb2 x0 x1 x2 x3 x4 x5
    go_wp2_with fail
    refine HS2.out.mono ?_
    rintro e w' ⟨rfl, rfl⟩
    go_wp2
    go_ret
    exact ⟨ret_bool (by rw [Hr.out, argsOk_any]; simp only [Bool.not_and]), Hb2.out⟩
end Go.Proofs.YtcmlmjbpdaecbaaGreat
end
section
namespace Go.Proofs.YtcmlmjbpdaecbaaGreat
open Go.RowKit
set_option linter.unusedVariables false
set_option linter.unusedSimpArgs false

/-- the cells of a node in a list of nodes -/
theorem nd_cells {W : World} {At : Option Addr} {n : Nat} {t : List T.Nd} (h : StAt 5 NdR W At n t) {j : Nat} (hj : j < n) : ∃ x b off A c, t[j]? = some x ∧ At = some ⟨b, off, none⟩ ∧ b < W.heap.size ∧
    W.cell? ⟨b, off + j * 5, none⟩ = some (.int .i64 x.op) ∧ W.cell? ⟨b, off + j * 5 + 1, none⟩ = some (.int .i64 x.w) ∧ W.cell? ⟨b, off + j * 5 + 2, none⟩ = some (.int .i64 x.fl) ∧ W.cell? ⟨b, off + j * 5 + 3, none⟩ = some (.slice A x.args.length c) ∧ W.cell? ⟨b, off + j * 5 + 4, none⟩ = some (.int .u32 x.imm) ∧
    SlAt (IntR .i64) W A x.args.length x.args ∧ 0 ≤ x.imm ∧ x.imm < 4294967296 := by
  obtain ⟨x, b, off, us, hx, hA, hb, _, hc, A, c, rfl, hs, h1, h2⟩ := h.at_ hj
  refine ⟨x, b, off, A, c, hx, hA, hb, ?_, ?_, ?_, ?_, ?_, hs, h1, h2⟩
  · have := hc 0 _ rfl; rwa [Nat.add_zero] at this
  · exact hc 1 _ rfl
  · exact hc 2 _ rfl
  · exact hc 3 _ rfl
  · exact hc 4 _ rfl

theorem getD_of {α : Type} {l : List α} {j : Nat} {x d : α} (h : l[j]? = some x) : l.getD j d = x := by rw [List.getD_eq_getElem?_getD, h]; rfl

set_option maxHeartbeats 1000000 in
theorem typedClo_any (t : List T.Nd) (args : List Int) (i Bt Bx n m c ct : Nat) (At A : Option Addr) (W : World) (hT : StAt 5 NdR W At n t) (hA : SlAt (IntR .i64) W A m args) (hBt : W.cell? ⟨Bt, 0, none⟩ = some (.slice At n ct)) (hBx : W.cell? ⟨Bx, 3, none⟩ = some (.slice A m c))
    (hi : i < m) (ha : 0 ≤ args.getD i 0 ∧ args.getD i 0 < n) :
    Calls Tryz.prog 169 #[.int .i64 (i : Int), .pointer (some ⟨Bt, 0, none⟩), .pointer (some ⟨Bx, 0, none⟩)] W fun e w' => e = .returned (.int .i64 (t.getD (args.getD i 0).toNat default).w) ∧ Dr W w' := by
  obtain ⟨y, b, off, u, hy, rfl, hb, hc, rfl⟩ := hA.at_ hi
  rw [getD_of hy] at ha ⊢
  obtain ⟨j, rfl⟩ : ∃ j : Nat, y = j := ⟨y.toNat, by omega⟩
  obtain ⟨x, b2, off2, A2, c2, hx, rfl, _, _, hw, _⟩ := nd_cells hT (j := j) (by omega)
  rw [Int.toNat_natCast, getD_of hx]
  have hj : j < n := by omega
  have hle := hA.le
  have hle2 := hT.le
  clear hy hA hT hx hb ha
  go_enter Tryz.func169, Tryz.ntmps169
  go_wp2
  go_quiet (fail)
  go_wp2
  go_ret
  exact ⟨rfl, _, rfl⟩

theorem typed_cases (op : Int) : (1 ≤ op ∧ op ≤ 13) ∨ op = 14 ∨ op = 15 ∨ op = 16 ∨ op = 17 ∨ op = 18 ∨ (¬ (1 ≤ op ∧ op ≤ 13) ∧ op ≠ 14 ∧ op ≠ 15 ∧ op ≠ 16 ∧ op ≠ 17 ∧ op ≠ 18) := by omega
/-- what typed says where an operation is known -/
theorem typed_13 {t : List T.Nd} {x : T.Nd} (h : 1 ≤ x.op ∧ x.op ≤ 13) : T.typed t x = (decide (T.wd t x 0 = x.w) && decide (T.wd t x 1 = x.w)) := by unfold T.typed; rw [if_pos h]
theorem typed_14 {t : List T.Nd} {x : T.Nd} (h : x.op = 14) : T.typed t x = decide (T.wd t x 0 = T.wd t x 1) := by unfold T.typed; rw [if_neg (by omega), if_pos h]
theorem typed_15 {t : List T.Nd} {x : T.Nd} (h : x.op = 15) : T.typed t x = (decide (T.wd t x 0 = 1) && decide (T.wd t x 1 = x.w) && decide (T.wd t x 2 = x.w)) := by unfold T.typed; rw [if_neg (by omega), if_neg (by omega), if_pos h]
theorem typed_16 {t : List T.Nd} {x : T.Nd} (h : x.op = 16 ∨ x.op = 17) : T.typed t x = decide (T.wd t x 0 < x.w) := by unfold T.typed; rw [if_neg (by omega), if_neg (by omega), if_neg (by omega), if_pos h]
theorem typed_18 {t : List T.Nd} {x : T.Nd} (h : x.op = 18) : T.typed t x = decide (x.w < T.wd t x 0) := by unfold T.typed; rw [if_neg (by omega), if_neg (by omega), if_neg (by omega), if_neg (by omega), if_pos h]
theorem typed_else {t : List T.Nd} {x : T.Nd} (h : ¬ (1 ≤ x.op ∧ x.op ≤ 13) ∧ x.op ≠ 14 ∧ x.op ≠ 15 ∧ x.op ≠ 16 ∧ x.op ≠ 17 ∧ x.op ≠ 18) : T.typed t x = true := by
  unfold T.typed; rw [if_neg h.1, if_neg h.2.1, if_neg h.2.2.1, if_neg (by omega), if_neg h.2.2.2.2.2]

set_option maxRecDepth 100000 in
set_option maxHeartbeats 4000000 in
theorem pisTyped_any (t : List T.Nd) (x : T.Nd) (n ct : Nat) (At A : Option Addr) (c : Nat) (W : World) (hT : StAt 5 NdR W At n t) (hA : SlAt (IntR .i64) W A x.args.length x.args) (hlen : (x.args.length : Int) = T.ar x.op) (harg : ∀ a ∈ x.args, 0 ≤ a ∧ a < (n : Int)) :
    Calls Tryz.prog 148 #[.slice At n ct, ndV x A c] W fun e w' => e = .returned (.bool (T.typed t x)) ∧ Below W.heap.size W w' := by
  obtain ⟨W1, hW1⟩ : ∃ W1, W1 = (W.alloc (.cells #[.slice At n ct] 43)).alloc (.cells #[.int .i64 x.op, .int .i64 x.w, .int .i64 x.fl, .slice A x.args.length c, .int .u32 x.imm] 63) := ⟨_, rfl⟩
  have hB1 : Below W.heap.size W W1 := by rw [hW1]; exact ((Below.refl _ _).alloc (Nat.le_refl _) _).alloc (by simp) _
  have hr0 : W1.heap[W.heap.size]? = some (.cells #[.slice At n ct] 43 (0, 0)) := by rw [hW1]; exact row_alloc (heap_alloc_new W _) _
  have hr1 : W1.heap[W.heap.size + 1]? = some (.cells #[.int .i64 x.op, .int .i64 x.w, .int .i64 x.fl, .slice A x.args.length c, .int .u32 x.imm] 63 (0, 0)) := by rw [hW1]; exact new_two W _ _
  have HQ : ∀ i, i < x.args.length → Hid (∀ nn, Calls Tryz.prog 169 #[.int .i64 (i : Int), .pointer (some ⟨W.heap.size, 0, none⟩), .pointer (some ⟨W.heap.size + 1, 0, none⟩)] (W1.drewN nn) fun e w'' => e = .returned (.int .i64 (T.wd t x i)) ∧ ∃ m, w'' = W1.drewN m) := fun i hi => by
    intro nn
    have hb := hB1.dr ⟨nn, rfl⟩
    have ha := harg _ (List.getElem_mem hi)
    have hc := typedClo_any t x.args i W.heap.size (W.heap.size + 1) n x.args.length c ct At A (W1.drewN nn) (hT.below monoNd hb) (hA.below (monoInt _) hb) (by rw [cell_of_row (W1.drewN nn) _ _ _ _ (0, 0) hr0]; rfl) (by rw [cell_of_row (W1.drewN nn) _ _ _ _ (0, 0) hr1]; rfl) hi (by rw [List.getD_eq_getElem?_getD, List.getElem?_eq_getElem hi]; exact ha)
    exact Calls.quiet_of (hc.mono fun e w' ⟨h1, m, h2⟩ => ⟨h1, m, h2⟩)
  obtain ⟨op, w, fl, args, imm⟩ := x
  rw [show ndV ⟨op, w, fl, args, imm⟩ A c = .agg #[.int .i64 op, .int .i64 w, .int .i64 fl, .slice A args.length c, .int .u32 imm] from rfl]
  dsimp only at HQ hW1 hlen
  have HB1 := Lib.hid hB1
  have hle := hA.le
  dsimp only at hr1
  have x0 : W1.cell? ⟨W.heap.size + 1, 0, none⟩ = some (.int .i64 op) := by rw [cell_of_row _ _ _ _ _ (0, 0) hr1]; rfl
  have x1 : W1.cell? ⟨W.heap.size + 1, 1, none⟩ = some (.int .i64 w) := by rw [cell_of_row _ _ _ _ _ (0, 0) hr1]; rfl
  rcases typed_cases op with h | h | h | h | h | h | h
  · have hl2 : (args.length : Int) = 2 := by rw [hlen]; unfold T.ar; rw [if_neg (by omega), if_pos (by omega)]
    have Q0 : Hid (∀ nn, Calls Tryz.prog 169 #[.int .i64 0, .pointer (some ⟨W.heap.size, 0, none⟩), .pointer (some ⟨W.heap.size + 1, 0, none⟩)] (W1.drewN nn) fun e w'' => e = .returned (.int .i64 (T.wd t ⟨op, w, fl, args, imm⟩ 0)) ∧ ∃ m, w'' = W1.drewN m) := HQ 0 (by omega)
    have Q1 : Hid (∀ nn, Calls Tryz.prog 169 #[.int .i64 1, .pointer (some ⟨W.heap.size, 0, none⟩), .pointer (some ⟨W.heap.size + 1, 0, none⟩)] (W1.drewN nn) fun e w'' => e = .returned (.int .i64 (T.wd t ⟨op, w, fl, args, imm⟩ 1)) ∧ ∃ m, w'' = W1.drewN m) := HQ 1 (by omega)
    have q1 : decide (1 ≤ op) = true := by simpa using h.1
    have q2 : decide (op ≤ 13) = true := by simpa using h.2
    rw [typed_13 h]
    dsimp only
    obtain ⟨a0, h0⟩ : ∃ a0, a0 = T.wd t ⟨op, w, fl, args, imm⟩ 0 := ⟨_, rfl⟩
    obtain ⟨a1, h1⟩ : ∃ a1, a1 = T.wd t ⟨op, w, fl, args, imm⟩ 1 := ⟨_, rfl⟩
    rw [← h0] at Q0 ⊢
    rw [← h1] at Q1 ⊢
    clear HQ hr0 hr1 hT hA harg hlen hB1
    clear h0 h1 h hl2
    by_cases e0 : a0 = w
    · have z0 : (a0 == w) = true := by simpa using e0
      have hd : (decide (a0 = w) && decide (a1 = w)) = (a1 == w) := by rw [decide_eq_true e0, Bool.true_and]; by_cases h : a1 = w <;> simp [h]
      rw [hd]
      clear e0 hd
      go_enter Tryz.func148, Tryz.ntmps148
      go_wp2
      rw [← hW1]
      clear hW1
      go_quiet ((go_at_call 169; first | with_reducible exact Q0.out _ | with_reducible exact Q1.out _ | fail))
      go_wp2
      go_ret
      exact ⟨rfl, HB1.out.dr ⟨_, rfl⟩⟩
    · have z0 : (a0 == w) = false := by simpa using e0
      rw [decide_eq_false e0, Bool.false_and]
      clear e0
      go_enter Tryz.func148, Tryz.ntmps148
      go_wp2
      rw [← hW1]
      clear hW1
      go_quiet ((go_at_call 169; first | with_reducible exact Q0.out _ | with_reducible exact Q1.out _ | fail))
      go_wp2
      go_ret
      exact ⟨rfl, HB1.out.dr ⟨_, rfl⟩⟩
  · have hl2 : (args.length : Int) = 2 := by rw [hlen]; unfold T.ar; rw [if_neg (by omega), if_pos (by omega)]
    have Q0 : Hid (∀ nn, Calls Tryz.prog 169 #[.int .i64 0, .pointer (some ⟨W.heap.size, 0, none⟩), .pointer (some ⟨W.heap.size + 1, 0, none⟩)] (W1.drewN nn) fun e w'' => e = .returned (.int .i64 (T.wd t ⟨op, w, fl, args, imm⟩ 0)) ∧ ∃ m, w'' = W1.drewN m) := HQ 0 (by omega)
    have Q1 : Hid (∀ nn, Calls Tryz.prog 169 #[.int .i64 1, .pointer (some ⟨W.heap.size, 0, none⟩), .pointer (some ⟨W.heap.size + 1, 0, none⟩)] (W1.drewN nn) fun e w'' => e = .returned (.int .i64 (T.wd t ⟨op, w, fl, args, imm⟩ 1)) ∧ ∃ m, w'' = W1.drewN m) := HQ 1 (by omega)
    rw [typed_14 h]
    try dsimp only at h ⊢
    obtain ⟨a0, h0⟩ : ∃ a0, a0 = T.wd t ⟨op, w, fl, args, imm⟩ 0 := ⟨_, rfl⟩
    obtain ⟨a1, h1⟩ : ∃ a1, a1 = T.wd t ⟨op, w, fl, args, imm⟩ 1 := ⟨_, rfl⟩
    rw [← h0] at Q0 ⊢
    rw [← h1] at Q1 ⊢
    clear HQ hr0 hr1 hT hA harg hlen hB1
    clear h0 h1 hl2
    subst h
    have hd : decide (a0 = a1) = (a0 == a1) := by by_cases h : a0 = a1 <;> simp [h]
    rw [hd]
    clear hd
    go_enter Tryz.func148, Tryz.ntmps148
    go_wp2_with fail
    rw [← hW1]
    clear hW1
    refine Calls.mono (w := W1) (Q0.out 0) ?_
    rintro e w2 ⟨rfl, m0, rfl⟩
    go_wp2_with fail
    refine (Q1.out m0).mono ?_
    rintro e w3 ⟨rfl, m1, rfl⟩
    go_wp2
    go_ret
    exact ⟨rfl, HB1.out.dr ⟨_, rfl⟩⟩
  · have hl3 : (args.length : Int) = 3 := by rw [hlen]; unfold T.ar; rw [if_neg (by omega), if_neg (by omega), if_pos (by omega)]
    have Q0 : Hid (∀ nn, Calls Tryz.prog 169 #[.int .i64 0, .pointer (some ⟨W.heap.size, 0, none⟩), .pointer (some ⟨W.heap.size + 1, 0, none⟩)] (W1.drewN nn) fun e w'' => e = .returned (.int .i64 (T.wd t ⟨op, w, fl, args, imm⟩ 0)) ∧ ∃ m, w'' = W1.drewN m) := HQ 0 (by omega)
    have Q1 : Hid (∀ nn, Calls Tryz.prog 169 #[.int .i64 1, .pointer (some ⟨W.heap.size, 0, none⟩), .pointer (some ⟨W.heap.size + 1, 0, none⟩)] (W1.drewN nn) fun e w'' => e = .returned (.int .i64 (T.wd t ⟨op, w, fl, args, imm⟩ 1)) ∧ ∃ m, w'' = W1.drewN m) := HQ 1 (by omega)
    have Q2 : Hid (∀ nn, Calls Tryz.prog 169 #[.int .i64 2, .pointer (some ⟨W.heap.size, 0, none⟩), .pointer (some ⟨W.heap.size + 1, 0, none⟩)] (W1.drewN nn) fun e w'' => e = .returned (.int .i64 (T.wd t ⟨op, w, fl, args, imm⟩ 2)) ∧ ∃ m, w'' = W1.drewN m) := HQ 2 (by omega)
    rw [typed_15 h]
    try dsimp only at h ⊢
    obtain ⟨a0, h0⟩ : ∃ a0, a0 = T.wd t ⟨op, w, fl, args, imm⟩ 0 := ⟨_, rfl⟩
    obtain ⟨a1, h1⟩ : ∃ a1, a1 = T.wd t ⟨op, w, fl, args, imm⟩ 1 := ⟨_, rfl⟩
    obtain ⟨a2, h2⟩ : ∃ a2, a2 = T.wd t ⟨op, w, fl, args, imm⟩ 2 := ⟨_, rfl⟩
    rw [← h0] at Q0 ⊢
    rw [← h1] at Q1 ⊢
    rw [← h2] at Q2 ⊢
    clear HQ hr0 hr1 hT hA harg hlen hB1
    clear h0 h1 h2 hl3
    subst h
    by_cases e0 : a0 = 1
    · have z0 : (a0 == 1) = true := by simpa using e0
      by_cases e1 : a1 = w
      · have z1 : (a1 == w) = true := by simpa using e1
        have hd : (decide (a0 = 1) && decide (a1 = w) && decide (a2 = w)) = (a2 == w) := by rw [decide_eq_true e0, decide_eq_true e1, Bool.true_and, Bool.true_and]; by_cases h : a2 = w <;> simp [h]
        rw [hd]
        clear e0 e1 hd
        go_enter Tryz.func148, Tryz.ntmps148
        go_wp2
        rw [← hW1]
        clear hW1
        go_quiet ((go_at_call 169; first | with_reducible exact Q0.out _ | with_reducible exact Q1.out _ | with_reducible exact Q2.out _ | fail))
        go_wp2
        go_ret
        exact ⟨rfl, HB1.out.dr ⟨_, rfl⟩⟩
      · have z1 : (a1 == w) = false := by simpa using e1
        rw [decide_eq_false e1, Bool.and_false, Bool.false_and]
        clear e0 e1
        go_enter Tryz.func148, Tryz.ntmps148
        go_wp2
        rw [← hW1]
        clear hW1
        go_quiet ((go_at_call 169; first | with_reducible exact Q0.out _ | with_reducible exact Q1.out _ | with_reducible exact Q2.out _ | fail))
        go_wp2
        go_ret
        exact ⟨rfl, HB1.out.dr ⟨_, rfl⟩⟩
    · have z0 : (a0 == 1) = false := by simpa using e0
      rw [decide_eq_false e0, Bool.false_and, Bool.false_and]
      clear e0
      go_enter Tryz.func148, Tryz.ntmps148
      go_wp2
      rw [← hW1]
      clear hW1
      go_quiet ((go_at_call 169; first | with_reducible exact Q0.out _ | with_reducible exact Q1.out _ | with_reducible exact Q2.out _ | fail))
      go_wp2
      go_ret
      exact ⟨rfl, HB1.out.dr ⟨_, rfl⟩⟩
  · have hl1 : (args.length : Int) = 1 := by rw [hlen]; unfold T.ar; rw [if_neg (by omega), if_neg (by omega), if_neg (by omega), if_pos (by omega)]
    have Q0 : Hid (∀ nn, Calls Tryz.prog 169 #[.int .i64 0, .pointer (some ⟨W.heap.size, 0, none⟩), .pointer (some ⟨W.heap.size + 1, 0, none⟩)] (W1.drewN nn) fun e w'' => e = .returned (.int .i64 (T.wd t ⟨op, w, fl, args, imm⟩ 0)) ∧ ∃ m, w'' = W1.drewN m) := HQ 0 (by omega)
    rw [typed_16 (.inl h)]
    try dsimp only at h ⊢
    obtain ⟨a0, h0⟩ : ∃ a0, a0 = T.wd t ⟨op, w, fl, args, imm⟩ 0 := ⟨_, rfl⟩
    rw [← h0] at Q0 ⊢
    clear HQ hr0 hr1 hT hA harg hlen hB1
    clear h0 hl1
    subst h
    go_enter Tryz.func148, Tryz.ntmps148
    go_wp2
    rw [← hW1]
    clear hW1
    go_quiet ((go_at_call 169; first | with_reducible exact Q0.out _ | fail))
    go_wp2
    go_ret
    exact ⟨rfl, HB1.out.dr ⟨_, rfl⟩⟩
  · have hl1 : (args.length : Int) = 1 := by rw [hlen]; unfold T.ar; rw [if_neg (by omega), if_neg (by omega), if_neg (by omega), if_pos (by omega)]
    have Q0 : Hid (∀ nn, Calls Tryz.prog 169 #[.int .i64 0, .pointer (some ⟨W.heap.size, 0, none⟩), .pointer (some ⟨W.heap.size + 1, 0, none⟩)] (W1.drewN nn) fun e w'' => e = .returned (.int .i64 (T.wd t ⟨op, w, fl, args, imm⟩ 0)) ∧ ∃ m, w'' = W1.drewN m) := HQ 0 (by omega)
    rw [typed_16 (.inr h)]
    try dsimp only at h ⊢
    obtain ⟨a0, h0⟩ : ∃ a0, a0 = T.wd t ⟨op, w, fl, args, imm⟩ 0 := ⟨_, rfl⟩
    rw [← h0] at Q0 ⊢
    clear HQ hr0 hr1 hT hA harg hlen hB1
    clear h0 hl1
    subst h
    go_enter Tryz.func148, Tryz.ntmps148
    go_wp2
    rw [← hW1]
    clear hW1
    go_quiet ((go_at_call 169; first | with_reducible exact Q0.out _ | fail))
    go_wp2
    go_ret
    exact ⟨rfl, HB1.out.dr ⟨_, rfl⟩⟩
  · have hl1 : (args.length : Int) = 1 := by rw [hlen]; unfold T.ar; rw [if_neg (by omega), if_neg (by omega), if_neg (by omega), if_pos (by omega)]
    have Q0 : Hid (∀ nn, Calls Tryz.prog 169 #[.int .i64 0, .pointer (some ⟨W.heap.size, 0, none⟩), .pointer (some ⟨W.heap.size + 1, 0, none⟩)] (W1.drewN nn) fun e w'' => e = .returned (.int .i64 (T.wd t ⟨op, w, fl, args, imm⟩ 0)) ∧ ∃ m, w'' = W1.drewN m) := HQ 0 (by omega)
    rw [typed_18 h]
    try dsimp only at h ⊢
    obtain ⟨a0, h0⟩ : ∃ a0, a0 = T.wd t ⟨op, w, fl, args, imm⟩ 0 := ⟨_, rfl⟩
    rw [← h0] at Q0 ⊢
    clear HQ hr0 hr1 hT hA harg hlen hB1
    clear h0 hl1
    subst h
    go_enter Tryz.func148, Tryz.ntmps148
    go_wp2
    rw [← hW1]
    clear hW1
    go_quiet ((go_at_call 169; first | with_reducible exact Q0.out _ | fail))
    go_wp2
    go_ret
    exact ⟨rfl, HB1.out.dr ⟨_, rfl⟩⟩
  · rw [typed_else h]
    obtain ⟨h1, h2, h3, h4, h5, h6⟩ := h
    have q14 : (op == 14) = false := by simpa using h2
    have q15 : (op == 15) = false := by simpa using h3
    have q16 : (op == 16) = false := by simpa using h4
    have q17 : (op == 17) = false := by simpa using h5
    have q18 : (op == 18) = false := by simpa using h6
    clear HQ hr0 hr1 hT hA harg hlen hB1 x0 x1
    by_cases hp : 1 ≤ op
    · have q1 : decide (1 ≤ op) = true := by simpa using hp
      have q2 : decide (op ≤ 13) = false := by simp; omega
      clear h1 h2 h3 h4 h5 h6 hp
      go_enter Tryz.func148, Tryz.ntmps148
      go_wp2
      go_ret
      exact ⟨rfl, by have := HB1.out; rwa [hW1] at this⟩
    · have q1 : decide (1 ≤ op) = false := by simpa using hp
      clear h1 h2 h3 h4 h5 h6 hp
      go_enter Tryz.func148, Tryz.ntmps148
      go_wp2
      go_ret
      exact ⟨rfl, by have := HB1.out; rwa [hW1] at this⟩
end Go.Proofs.YtcmlmjbpdaecbaaGreat
end
