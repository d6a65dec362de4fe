/- Merged: C4U7, C4U8. -/
import Derived.Test.YtbiopedpceddeaaGreatDoorW05
set_option linter.unusedVariables false
set_option linter.unusedSimpArgs false
section
namespace Go.Proofs.YtbiopedpceddeaaGreatDoor
open Go.RowKit
set_option linter.unusedVariables false
set_option linter.unusedSimpArgs false

namespace R
theorem par_rar {op : Int} (h : ¬ (16 ≤ op ∧ op ≤ 18)) : par op = rar op := by unfold par rar; rw [if_neg h]
theorem par_none {op : Int} (h : 16 ≤ op ∧ op ≤ 18) : par op = -1 := by unfold par; rw [if_neg (by omega), if_neg (by omega), if_pos h]
theorem pnode_bad {p : List T.Nd} {right : Bool} {k : Nat} {x : T.Nd} (h : built k x = false ∨ x.w < 0 ∨ 32 < x.w ∨ (16 ≤ x.op ∧ x.op ≤ 18)) : pnode p right k x = false := by
  unfold pnode
  by_cases hr : 16 ≤ x.op ∧ x.op ≤ 18
  · rw [par_none hr]; simp
  rcases h with h | h | h | h
  · unfold built at h
    rw [par_rar hr]
    rw [Bool.eq_false_iff] at h ⊢
    intro h'
    apply h
    simp only [Bool.and_eq_true, decide_eq_true_eq] at h' ⊢
    obtain ⟨⟨⟨⟨⟨⟨h1, h2⟩, h3⟩, h4⟩, h5⟩, h6⟩, h7⟩ := h'
    exact ⟨⟨⟨h1, h2⟩, h5⟩, h6⟩
  · have : decide (0 ≤ x.w) = false := by simp; omega
    rw [this]; simp
  · have : decide (x.w ≤ 32) = false := by simp; omega
    rw [this]; simp
  · exact absurd h hr
theorem pnode_good {p : List T.Nd} {right : Bool} {k : Nat} {x : T.Nd} (h : built k x = true) (h1 : ¬ x.w < 0) (h2 : ¬ 32 < x.w) (hr : ¬ (16 ≤ x.op ∧ x.op ≤ 18)) : pnode p right k x = pimmOk p right x := by
  unfold built at h
  unfold pnode
  rw [par_rar hr]
  simp only [Bool.and_eq_true, decide_eq_true_eq] at h
  obtain ⟨⟨⟨a1, a2⟩, a3⟩, a4⟩ := h
  have e1 : decide (0 ≤ x.w) = true := by simp; omega
  have e2 : decide (x.w ≤ 32) = true := by simp; omega
  rw [e1, e2, a3, a4]
  simp [a1, a2]
theorem built_one {k : Nat} {x : T.Nd} (h : built k x = true) (ho : x.op = 35) : ∃ a : Nat, x.args = [(a : Int)] ∧ a < k := by
  unfold built at h
  simp only [Bool.and_eq_true, decide_eq_true_eq] at h
  obtain ⟨⟨⟨a1, a2⟩, a3⟩, a4⟩ := h
  have hl : x.args.length = 1 := by have : rar x.op = 1 := by rw [ho]; rfl
                                    omega
  obtain ⟨a, ha⟩ := List.length_eq_one_iff.1 hl
  unfold T.argsOk at a4
  rw [ha] at a4
  have := List.all_eq_true.1 a4 a (by simp)
  simp only [Bool.and_eq_true, decide_eq_true_eq] at this
  exact ⟨a.toNat, by rw [ha]; simp; omega, by omega⟩
end R

set_option maxRecDepth 100000 in
set_option maxHeartbeats 4000000 in
theorem gPatternNode_any (p : List T.Nd) (n cp : Nat) (Ap : Option Addr) (right : Bool) (k : Nat) (x : T.Nd) (A : Option Addr) (c : Nat) (W : World) (hP : StAt 5 NdR W Ap n p) (hk : k < n) (hA : SlAt (IntR .i64) W A x.args.length x.args) (hf : -9223372036854775808 ≤ x.fl ∧ x.fl ≤ 9223372036854775807) (hi : 0 ≤ x.imm ∧ x.imm < 4294967296) :
    Calls Tryz.prog 121 #[.slice Ap n cp, .int .i64 k, ndV x A c, .bool right] W fun e w' => e = .returned (.bool (R.pnode p right k x)) ∧ Below W.heap.size W w' := by
  obtain ⟨W1, hW1⟩ : ∃ W1, W1 = W.alloc (.cells #[.int .i64 x.op, .int .i64 x.w, .int .i64 x.fl, .slice A x.args.length c, .int .u32 x.imm] 62) := ⟨_, rfl⟩
  have hB1 : Below W.heap.size W W1 := by rw [hW1]; exact (Below.refl _ _).alloc (Nat.le_refl _) _
  have hr1 : W1.heap[W.heap.size]? = some (.cells #[.int .i64 x.op, .int .i64 x.w, .int .i64 x.fl, .slice A x.args.length c, .int .u32 x.imm] 62 (0, 0)) := by rw [hW1]; exact heap_alloc_new W _
  have Hx := Lib.hid (show ∀ X, Below W1.heap.size W1 X → X.cell? ⟨W.heap.size, 0, none⟩ = some (.int .i64 x.op) ∧ X.cell? ⟨W.heap.size, 1, none⟩ = some (.int .i64 x.w) ∧ X.cell? ⟨W.heap.size, 2, none⟩ = some (.int .i64 x.fl) ∧ X.cell? ⟨W.heap.size, 3, none⟩ = some (.slice A x.args.length c) ∧ X.cell? ⟨W.heap.size, 4, none⟩ = some (.int .u32 x.imm) from fun X hX => by
    have hr := row_step (Lib.hid hX) hr1
    refine ⟨?_, ?_, ?_, ?_, ?_⟩
    all_goals rw [cell_of_row _ _ _ _ _ (0, 0) hr]; rfl)
  have HBt := Lib.hid (gisBuilt_any k x A c W1 (hA.below (monoInt _) hB1) hf)
  have HW := Lib.hid (fun W' => gisWord_any x.w x.imm W' hi.1)
  have HA := Lib.hid hA
  have HP := Lib.hid hP
  have Hi := Lib.hid hi
  have Hk := Lib.hid hk
  have hplen := hP.le
  obtain ⟨r, hr⟩ : ∃ r, r = R.pnode p right k x := ⟨_, rfl⟩
  rw [← hr]
  have hcase : (R.built k x = false ∧ r = false) ∨ (R.built k x = true ∧ x.w < 0 ∧ r = false) ∨ (R.built k x = true ∧ ¬ x.w < 0 ∧ 32 < x.w ∧ r = false) ∨ (R.built k x = true ∧ ¬ x.w < 0 ∧ ¬ 32 < x.w ∧ ((16 ≤ x.op ∧ x.op ≤ 18 ∧ r = false) ∨ (¬ (16 ≤ x.op ∧ x.op ≤ 18) ∧ r = R.pimmOk p right x))) := by
    cases hb : R.built k x
    · exact .inl ⟨rfl, by rw [hr]; exact R.pnode_bad (.inl hb)⟩
    by_cases h1 : x.w < 0
    · exact .inr (.inl ⟨rfl, h1, by rw [hr]; exact R.pnode_bad (.inr (.inl h1))⟩)
    by_cases h2 : 32 < x.w
    · exact .inr (.inr (.inl ⟨rfl, h1, h2, by rw [hr]; exact R.pnode_bad (.inr (.inr (.inl h2)))⟩))
    refine .inr (.inr (.inr ⟨rfl, h1, h2, ?_⟩))
    by_cases h3 : 16 ≤ x.op ∧ x.op ≤ 18
    · exact .inl ⟨h3.1, h3.2, by rw [hr]; exact R.pnode_bad (.inr (.inr (.inr h3)))⟩
    · exact .inr ⟨h3, by rw [hr]; exact R.pnode_good hb h1 h2 h3⟩
  have hone := Lib.hid (R.built_one (k := k) (x := x))
  have HB1 := Lib.hid hB1
  generalize R.built k x = b at HBt hcase hone
  clear hA hr1 hB1 hf hr hi hP hk
  obtain ⟨op, w, fl, args, imm⟩ := x
  unfold ndV at *
  dsimp only at *
  rcases hcase with ⟨rfl, rfl⟩ | ⟨rfl, h1, rfl⟩ | ⟨rfl, h1, h2, rfl⟩ | ⟨rfl, h1, h2, hcase⟩
  · skip
    clear HW HA HP Hi Hk hone
    go_enter Tryz.func121, Tryz.ntmps121
    go_wp2_with fail
    rw [← hW1]
    clear hW1
    (with_reducible refine HBt.out.mono ?_)
    rintro e w2 ⟨rfl, hb2⟩
    have Hb2 := Lib.hid (HB1.out.trans (hb2.mono HB1.out.size))
    obtain ⟨x0, x1, x2, x3, x4⟩ := Hx.out w2 hb2
    clear hb2
    go_wp2
    go_ret
    exact ⟨rfl, Hb2.out⟩
  · skip
    have qa : decide (w < 0) = true := by simpa using h1
    clear HW HA HP Hi Hk hone h1
    go_enter Tryz.func121, Tryz.ntmps121
    go_wp2_with fail
    rw [← hW1]
    clear hW1
    (with_reducible refine HBt.out.mono ?_)
    rintro e w2 ⟨rfl, hb2⟩
    have Hb2 := Lib.hid (HB1.out.trans (hb2.mono HB1.out.size))
    obtain ⟨x0, x1, x2, x3, x4⟩ := Hx.out w2 hb2
    clear hb2
    go_wp2
    go_ret
    exact ⟨rfl, Hb2.out⟩
  · skip
    have qa : decide (w < 0) = false := by simpa using h1
    have qb : decide (32 < w) = true := by simpa using h2
    clear HW HA HP Hi Hk hone h1 h2
    go_enter Tryz.func121, Tryz.ntmps121
    go_wp2_with fail
    rw [← hW1]
    clear hW1
    (with_reducible refine HBt.out.mono ?_)
    rintro e w2 ⟨rfl, hb2⟩
    have Hb2 := Lib.hid (HB1.out.trans (hb2.mono HB1.out.size))
    obtain ⟨x0, x1, x2, x3, x4⟩ := Hx.out w2 hb2
    clear hb2
    go_wp2
    go_ret
    exact ⟨rfl, Hb2.out⟩
  · have qa : decide (w < 0) = false := by simpa using h1
    have qb : decide (32 < w) = false := by simpa using h2
    clear h1 h2
    rcases hcase with ⟨h16, h18, rfl⟩ | ⟨h16, hr⟩
    · clear HW HA HP Hi Hk hone
      have q0 : (op == 0) = false := by simp; omega
      have q33 : (op == 33) = false := by simp; omega
      have q34 : (op == 34) = false := by simp; omega
      have q35 : (op == 35) = false := by simp; omega
      have q14 : (op == 14) = false := by simp; omega
      have hop : op = 16 ∨ op = 17 ∨ op = 18 := by omega
      clear h16 h18
      rcases hop with rfl | rfl | rfl
      · clear q0 q33 q34 q35 q14
        go_enter Tryz.func121, Tryz.ntmps121
        go_wp2_with fail
        rw [← hW1]
        clear hW1
        (with_reducible refine HBt.out.mono ?_)
        rintro e w2 ⟨rfl, hb2⟩
        have Hb2 := Lib.hid (HB1.out.trans (hb2.mono HB1.out.size))
        obtain ⟨x0, x1, x2, x3, x4⟩ := Hx.out w2 hb2
        clear hb2
        go_wp2
        go_ret
        exact ⟨rfl, Hb2.out⟩
      · clear q0 q33 q34 q35 q14
        go_enter Tryz.func121, Tryz.ntmps121
        go_wp2_with fail
        rw [← hW1]
        clear hW1
        (with_reducible refine HBt.out.mono ?_)
        rintro e w2 ⟨rfl, hb2⟩
        have Hb2 := Lib.hid (HB1.out.trans (hb2.mono HB1.out.size))
        obtain ⟨x0, x1, x2, x3, x4⟩ := Hx.out w2 hb2
        clear hb2
        go_wp2
        go_ret
        exact ⟨rfl, Hb2.out⟩
      · clear q0 q33 q34 q35 q14
        go_enter Tryz.func121, Tryz.ntmps121
        go_wp2_with fail
        rw [← hW1]
        clear hW1
        (with_reducible refine HBt.out.mono ?_)
        rintro e w2 ⟨rfl, hb2⟩
        have Hb2 := Lib.hid (HB1.out.trans (hb2.mono HB1.out.size))
        obtain ⟨x0, x1, x2, x3, x4⟩ := Hx.out w2 hb2
        clear hb2
        go_wp2
        go_ret
        exact ⟨rfl, Hb2.out⟩
    unfold R.pimmOk at hr
    dsimp only at hr
    by_cases h0 : op = 0
    · rw [if_pos h0] at hr
      subst h0
      clear h16 HA HP Hi Hk hone
      by_cases hw : w = 0
      · subst hw
        have hr2 : r = true := by simpa using hr
        subst hr2
        clear hr HW
        go_enter Tryz.func121, Tryz.ntmps121
        go_wp2_with fail
        rw [← hW1]
        clear hW1
        (with_reducible refine HBt.out.mono ?_)
        rintro e w2 ⟨rfl, hb2⟩
        have Hb2 := Lib.hid (HB1.out.trans (hb2.mono HB1.out.size))
        obtain ⟨x0, x1, x2, x3, x4⟩ := Hx.out w2 hb2
        clear hb2
        go_wp2
        go_ret
        exact ⟨rfl, Hb2.out⟩
      · have qw : (w == 0) = false := by simpa using hw
        have hr2 : r = B.isW w imm := by rw [hr]; simp [hw]
        rw [← hr2] at HW
        clear hr hr2 hw
        go_enter Tryz.func121, Tryz.ntmps121
        go_wp2_with fail
        rw [← hW1]
        clear hW1
        (with_reducible refine HBt.out.mono ?_)
        rintro e w2 ⟨rfl, hb2⟩
        have Hb2 := Lib.hid (HB1.out.trans (hb2.mono HB1.out.size))
        obtain ⟨x0, x1, x2, x3, x4⟩ := Hx.out w2 hb2
        clear hb2
        go_wp2_with fail
        (with_reducible refine (HW.out _).mono ?_)
        rintro e w' ⟨rfl, rfl⟩
        go_wp2
        go_ret
        exact ⟨rfl, Hb2.out⟩
    have q0 : (op == 0) = false := by simpa using h0
    rw [if_neg h0] at hr
    clear h0 HW
    by_cases h33 : op = 33 ∨ op = 34
    · rw [if_pos h33] at hr
      clear h16 HA HP Hi Hk hone q0
      rcases h33 with rfl | rfl
      · by_cases hw : w = 0
        · subst hw
          have hr2 : decide (imm < 2) = r := by rw [hr]; simp
          clear hr
          go_enter Tryz.func121, Tryz.ntmps121
          go_wp2_with fail
          rw [← hW1]
          clear hW1
          (with_reducible refine HBt.out.mono ?_)
          rintro e w2 ⟨rfl, hb2⟩
          have Hb2 := Lib.hid (HB1.out.trans (hb2.mono HB1.out.size))
          obtain ⟨x0, x1, x2, x3, x4⟩ := Hx.out w2 hb2
          clear hb2
          go_wp2
          go_ret
          exact ⟨rfl, Hb2.out⟩
        · have qw : (w == 0) = false := by simpa using hw
          have hr2 : r = false := by rw [hr]; simp [hw]
          subst hr2
          clear hr hw
          go_enter Tryz.func121, Tryz.ntmps121
          go_wp2_with fail
          rw [← hW1]
          clear hW1
          (with_reducible refine HBt.out.mono ?_)
          rintro e w2 ⟨rfl, hb2⟩
          have Hb2 := Lib.hid (HB1.out.trans (hb2.mono HB1.out.size))
          obtain ⟨x0, x1, x2, x3, x4⟩ := Hx.out w2 hb2
          clear hb2
          go_wp2
          go_ret
          exact ⟨rfl, Hb2.out⟩
      · by_cases hw : w = 0
        · subst hw
          have hr2 : decide (imm < 2) = r := by rw [hr]; simp
          clear hr
          go_enter Tryz.func121, Tryz.ntmps121
          go_wp2_with fail
          rw [← hW1]
          clear hW1
          (with_reducible refine HBt.out.mono ?_)
          rintro e w2 ⟨rfl, hb2⟩
          have Hb2 := Lib.hid (HB1.out.trans (hb2.mono HB1.out.size))
          obtain ⟨x0, x1, x2, x3, x4⟩ := Hx.out w2 hb2
          clear hb2
          go_wp2
          go_ret
          exact ⟨rfl, Hb2.out⟩
        · have qw : (w == 0) = false := by simpa using hw
          have hr2 : r = false := by rw [hr]; simp [hw]
          subst hr2
          clear hr hw
          go_enter Tryz.func121, Tryz.ntmps121
          go_wp2_with fail
          rw [← hW1]
          clear hW1
          (with_reducible refine HBt.out.mono ?_)
          rintro e w2 ⟨rfl, hb2⟩
          have Hb2 := Lib.hid (HB1.out.trans (hb2.mono HB1.out.size))
          obtain ⟨x0, x1, x2, x3, x4⟩ := Hx.out w2 hb2
          clear hb2
          go_wp2
          go_ret
          exact ⟨rfl, Hb2.out⟩
    have q33 : (op == 33) = false := by simp; omega
    have q34 : (op == 34) = false := by simp; omega
    rw [if_neg h33] at hr
    clear h33
    by_cases h35 : op = 35
    · rw [if_pos h35] at hr
      obtain ⟨a, ha, hak⟩ := hone.out rfl h35
      subst h35
      subst ha
      have hHk := Hk.out
      obtain ⟨y, b, off, A', c', hy, rfl, hb, h0, _, _, _, _, _, _, _⟩ := nd_cells HP.out (show a < n by omega)
      obtain ⟨x', bA, offA, u, hx', rfl, hbA, hcA, hu⟩ := HA.out.at_ (k := 0) (by simp)
      have hxa : x' = (a : Int) := by simpa using hx'.symm
      subst hxa
      have hu' : u = .int .i64 (a : Int) := hu
      subst hu'
      have hr2 : r = (right && decide (w = 0) && decide (imm = 0) && decide (y.op = 34)) := by
        rw [hr]
        have e : (p.getD (([(a : Int)] : List Int).getD 0 0).toNat default) = y := by
          show p.getD ((a : Int)).toNat default = y
          rw [Int.toNat_natCast, List.getD_eq_getElem?_getD, hy]; rfl
        rw [e]
      have hbw := HB1.out
      have d0 := (hbw.cell (p := ⟨b, off + a * 5, none⟩) hb).trans h0
      have dA := (hbw.cell (p := ⟨bA, offA + 0, none⟩) hbA).trans hcA
      have hbs : b < W1.heap.size := by have := hbw.size; omega
      have hbAs : bA < W1.heap.size := by have := hbw.size; omega
      have Hd := Lib.hid (show ∀ X, Below W1.heap.size W1 X → X.cell? ⟨b, off + a * 5, none⟩ = some (.int .i64 y.op) ∧ X.cell? ⟨bA, offA + 0, none⟩ = some (.int .i64 (a : Int)) from fun X hX => ⟨(hX.cell (p := ⟨b, off + a * 5, none⟩) hbs).trans d0, (hX.cell (p := ⟨bA, offA + 0, none⟩) hbAs).trans dA⟩)
      have han : a < n := by omega
      generalize y.op = yo at hr2 Hd
      rw [Nat.add_zero] at Hd
      dsimp only [List.length_cons, List.length_nil] at *
      clear hr hx' hu hcA hbA hb h0 hbw d0 dA hbs hbAs hy HA HP hone h16 q0 q33 q34 Hk Hi hHk hak
      cases right
      · have hr3 : r = false := by rw [hr2]; simp
        subst hr3
        clear hr2 Hd han
        go_enter Tryz.func121, Tryz.ntmps121
        go_wp2_with fail
        rw [← hW1]
        clear hW1
        (with_reducible refine HBt.out.mono ?_)
        rintro e w2 ⟨rfl, hb2⟩
        have Hb2 := Lib.hid (HB1.out.trans (hb2.mono HB1.out.size))
        obtain ⟨x0, x1, x2, x3, x4⟩ := Hx.out w2 hb2
        clear hb2
        go_wp2
        go_ret
        exact ⟨rfl, Hb2.out⟩
      by_cases hw : w = 0
      · subst hw
        by_cases hi0 : imm = 0
        · subst hi0
          have hr3 : (yo == 34) = r := by rw [hr2]; rfl
          clear hr2
          go_enter Tryz.func121, Tryz.ntmps121
          go_wp2_with fail
          rw [← hW1]
          clear hW1
          (with_reducible refine HBt.out.mono ?_)
          rintro e w2 ⟨rfl, hb2⟩
          have Hb2 := Lib.hid (HB1.out.trans (hb2.mono HB1.out.size))
          obtain ⟨x0, x1, x2, x3, x4⟩ := Hx.out w2 hb2
          obtain ⟨d0, dA⟩ := Hd.out w2 hb2
          clear hb2
          go_wp2
          go_ret
          exact ⟨rfl, Hb2.out⟩
        · have qi : (imm == 0) = false := by simpa using hi0
          have hr3 : r = false := by rw [hr2]; simp [hi0]
          subst hr3
          clear hr2 Hd hi0 han
          go_enter Tryz.func121, Tryz.ntmps121
          go_wp2_with fail
          rw [← hW1]
          clear hW1
          (with_reducible refine HBt.out.mono ?_)
          rintro e w2 ⟨rfl, hb2⟩
          have Hb2 := Lib.hid (HB1.out.trans (hb2.mono HB1.out.size))
          obtain ⟨x0, x1, x2, x3, x4⟩ := Hx.out w2 hb2
          clear hb2
          go_wp2
          go_ret
          exact ⟨rfl, Hb2.out⟩
      · have qw : (w == 0) = false := by simpa using hw
        have hr3 : r = false := by rw [hr2]; simp [hw]
        subst hr3
        clear hr2 Hd hw han
        go_enter Tryz.func121, Tryz.ntmps121
        go_wp2_with fail
        rw [← hW1]
        clear hW1
        (with_reducible refine HBt.out.mono ?_)
        rintro e w2 ⟨rfl, hb2⟩
        have Hb2 := Lib.hid (HB1.out.trans (hb2.mono HB1.out.size))
        obtain ⟨x0, x1, x2, x3, x4⟩ := Hx.out w2 hb2
        clear hb2
        go_wp2
        go_ret
        exact ⟨rfl, Hb2.out⟩
    have q35 : (op == 35) = false := by simpa using h35
    rw [if_neg h35] at hr
    clear h35 hone HA HP Hk
    by_cases h14 : op = 14
    · rw [if_pos h14] at hr
      subst h14
      clear h16 q0 q33 q34 q35
      by_cases hw : w = 1
      · subst hw
        have hr2 : decide (imm ≤ 9) = r := by rw [hr]; simp
        clear hr
        go_enter Tryz.func121, Tryz.ntmps121
        go_wp2_with fail
        rw [← hW1]
        clear hW1
        (with_reducible refine HBt.out.mono ?_)
        rintro e w2 ⟨rfl, hb2⟩
        have Hb2 := Lib.hid (HB1.out.trans (hb2.mono HB1.out.size))
        obtain ⟨x0, x1, x2, x3, x4⟩ := Hx.out w2 hb2
        clear hb2
        go_wp2
        go_ret
        exact ⟨rfl, Hb2.out⟩
      · have qw : (w == 1) = false := by simpa using hw
        have hr2 : r = false := by rw [hr]; simp [hw]
        subst hr2
        clear hr hw
        go_enter Tryz.func121, Tryz.ntmps121
        go_wp2_with fail
        rw [← hW1]
        clear hW1
        (with_reducible refine HBt.out.mono ?_)
        rintro e w2 ⟨rfl, hb2⟩
        have Hb2 := Lib.hid (HB1.out.trans (hb2.mono HB1.out.size))
        obtain ⟨x0, x1, x2, x3, x4⟩ := Hx.out w2 hb2
        clear hb2
        go_wp2
        go_ret
        exact ⟨rfl, Hb2.out⟩
    have q14 : (op == 14) = false := by simpa using h14
    rw [if_neg h14] at hr
    have q16 : (op == 16) = false := by simp; omega
    have q17 : (op == 17) = false := by simp; omega
    have q18 : (op == 18) = false := by simp; omega
    have hr2 : (imm == 0) = r := by rw [hr]; rfl
    clear h14 h16 hr
    go_enter Tryz.func121, Tryz.ntmps121
    go_wp2_with fail
    rw [← hW1]
    clear hW1
    (with_reducible refine HBt.out.mono ?_)
    rintro e w2 ⟨rfl, hb2⟩
    have Hb2 := Lib.hid (HB1.out.trans (hb2.mono HB1.out.size))
    obtain ⟨x0, x1, x2, x3, x4⟩ := Hx.out w2 hb2
    clear hb2
    go_wp2
    go_ret
    exact ⟨rfl, Hb2.out⟩
end Go.Proofs.YtbiopedpceddeaaGreatDoor
end
section
namespace Go.Proofs.YtbiopedpceddeaaGreatDoor
open Go.RowKit
set_option linter.unusedVariables false
set_option linter.unusedSimpArgs false

set_option maxRecDepth 100000 in
set_option maxHeartbeats 1000000 in
theorem gisCond_any (x : R.Cd) (W : World) :
    Calls Tryz.prog 124 #[cdV x] W fun e w' => e = .returned (.bool (R.cdOk x)) ∧ Below W.heap.size W w' := by
  have hB1 : Below W.heap.size W (W.alloc (.cells #[.int .i64 x.kind, .int .i64 x.hole, .int .u32 x.imm] 88)) := (Below.refl _ _).alloc (Nat.le_refl _) _
  have HB1 := Lib.hid hB1
  obtain ⟨r, hr⟩ : ∃ r, r = R.cdOk x := ⟨_, rfl⟩
  rw [← hr]
  unfold R.cdOk at hr
  obtain ⟨kind, hole, imm⟩ := x
  dsimp only at *
  unfold cdV
  clear hB1
  have q1c : (0 ≤ kind ∧ decide (0 ≤ kind) = true) ∨ (decide (0 ≤ kind) = false ∧ r = false) := by
    by_cases h : 0 ≤ kind
    · exact .inl ⟨h, by simpa using h⟩
    · exact .inr ⟨by simpa using h, by rw [hr]; simp [h]⟩
  rcases q1c with ⟨_, q1⟩ | ⟨q1, rfl⟩
  rotate_left
  · clear hr
    go_enter Tryz.func124, Tryz.ntmps124
    go_wp2
    go_ret
    exact ⟨rfl, HB1.out⟩
  rw [q1, Bool.true_and] at hr
  have q2c : (decide (kind ≤ 4) = true) ∨ (decide (kind ≤ 4) = false ∧ r = false) := by
    by_cases h : kind ≤ 4
    · exact .inl (by simpa using h)
    · exact .inr ⟨by simpa using h, by rw [hr]; simp [h]⟩
  rcases q2c with q2 | ⟨q2, rfl⟩
  rotate_left
  · clear hr
    go_enter Tryz.func124, Tryz.ntmps124
    go_wp2
    go_ret
    exact ⟨rfl, HB1.out⟩
  rw [q2, Bool.true_and] at hr
  have q3c : (decide (0 ≤ hole) = true) ∨ (decide (0 ≤ hole) = false ∧ r = false) := by
    by_cases h : 0 ≤ hole
    · exact .inl (by simpa using h)
    · exact .inr ⟨by simpa using h, by rw [hr]; simp [h]⟩
  rcases q3c with q3 | ⟨q3, rfl⟩
  rotate_left
  · clear hr
    go_enter Tryz.func124, Tryz.ntmps124
    go_wp2
    go_ret
    exact ⟨rfl, HB1.out⟩
  rw [q3, Bool.true_and] at hr
  have q4c : (decide (hole < 2) = true) ∨ (decide (hole < 2) = false ∧ r = false) := by
    by_cases h : hole < 2
    · exact .inl (by simpa using h)
    · exact .inr ⟨by simpa using h, by rw [hr]; simp [h]⟩
  rcases q4c with q4 | ⟨q4, rfl⟩
  rotate_left
  · clear hr
    go_enter Tryz.func124, Tryz.ntmps124
    go_wp2
    go_ret
    exact ⟨rfl, HB1.out⟩
  rw [q4, Bool.true_and] at hr
  by_cases hk : kind = 4
  · subst hk
    have hr2 : r = true := by rw [hr]; rfl
    subst hr2
    clear hr
    go_enter Tryz.func124, Tryz.ntmps124
    go_wp2
    go_ret
    exact ⟨rfl, HB1.out⟩
  · have qk : (kind == 4) = false := by simpa using hk
    have hr2 : (imm == 0) = r := by rw [hr]; simp only [hk]; rfl
    clear hr hk
    go_enter Tryz.func124, Tryz.ntmps124
    go_wp2
    go_ret
    exact ⟨rfl, HB1.out⟩

theorem infoBool : (Tryz.prog.info? 4).map (fun i => (i.zero, i.size, i.bytes)) = some (some (.bool false), 1, 1) := by kernel_rfl

namespace R
def nstep (k : Nat) (o : List Bool) (a : Int) : List Bool := o.set a.toNat (o.getD a.toNat false || o.getD k false)
theorem nstep_len (k : Nat) (o : List Bool) (a : Int) : (nstep k o a).length = o.length := by unfold nstep; simp
theorem need1_eq {p : List T.Nd} {k : Nat} {x : T.Nd} (o : List Bool) (hx : p[k]? = some x) : need1 p o k = x.args.foldl (nstep k) o := by
  unfold need1
  rw [List.getD_eq_getElem?_getD, hx]
  rfl
end R

theorem frozen_row {W : World} {g : Nat} {cs : Array Value} {T : TypeId} (h : W.heap[g]? = some (.cells cs T (0, 0))) (k : Nat) : W.frozen? ⟨g, k, none⟩ = false := by simp [World.frozen?, h]

set_option maxRecDepth 100000 in
set_option maxHeartbeats 2000000 in
theorem gneeded_any (p : List T.Nd) (n cp : Nat) (Ap : Option Addr) (W : World) (hP : StAt 5 NdR W Ap n p) (hn1 : 1 ≤ n) (hn : n ≤ 1000000) (harg : ∀ x ∈ p, ∀ a ∈ x.args, 0 ≤ a ∧ a < (n : Int)) :
    Calls Tryz.prog 46 #[.slice Ap n cp] W fun e w' => ∃ g, e = .returned (.slice (some ⟨g, 0, none⟩) n n) ∧ W.heap.size ≤ g ∧ Below W.heap.size W w' ∧ w'.heap[g]? = some (.cells ((R.need p).map Value.bool).toArray 4 (0, 0)) := by
  have HP := Lib.hid hP
  have Harg := Lib.hid harg
  have hlen := hP.len
  obtain ⟨m, rfl⟩ : ∃ m, n = m + 1 := ⟨n - 1, by omega⟩
  clear hP harg hn1
  have hmk := fun (W' : World) => run_make_n (P := Tryz.prog) 69 4 (.bool false) 1 Tryz.underlying69 infoBool rfl .i64 .i64 (m + 1) ((m : Int) + 1) (by omega) (by omega) (by omega) W'
  have em : (m : Int) + 1 - 1 = (m : Int) := by omega
  obtain ⟨W1, hW1⟩ : ∃ W1, W1 = W.alloc (.cells ((Array.replicate (m + 1) (Value.bool false)).setIfInBounds m (.bool true)) 4) := ⟨_, rfl⟩
  have Hb1 := Lib.hid (show Below W.heap.size W W1 from by rw [hW1]; exact (Below.refl _ _).alloc (Nat.le_refl _) _)
  have hr0 : (W.alloc (.cells (Array.replicate (m + 1) (Value.bool false)) 4)).heap[W.heap.size]? = some (.cells (Array.replicate (m + 1) (Value.bool false)) 4 (0, 0)) := heap_alloc_new W _
  have Hr1 := Lib.hid (show W1.heap[W.heap.size]? = some (.cells ((((List.replicate p.length false).set (p.length - 1) true)).map Value.bool).toArray 4 (0, 0)) from by
    have e : (((List.replicate p.length false).set (p.length - 1) true).map Value.bool).toArray = (Array.replicate (m + 1) (Value.bool false)).setIfInBounds m (.bool true) := by
      rw [hlen, ← List.toArray_replicate, List.setIfInBounds_toArray]
      simp [List.map_set]
    rw [e, hW1]
    exact heap_alloc_new W _)
  have hf0 : (W.alloc (.cells (Array.replicate (m + 1) (Value.bool false)) 4)).frozen? ⟨W.heap.size, m, none⟩ = false := frozen_row hr0 m
  have hc0 : (W.alloc (.cells (Array.replicate (m + 1) (Value.bool false)) 4)).cell? ⟨W.heap.size, m, none⟩ = some (.bool false) := by
    rw [cell_of_row _ _ _ _ _ (0, 0) hr0]; simp
  have Hlen := Lib.hid hlen
  clear hr0 hlen
  go_enter Tryz.func46, Tryz.ntmps46
  go_wp2
  rw [← hW1]
  clear hmk em hf0 hc0
  clear hW1
  have hs1 := Hb1.out.size
  go_loopg [4] (m + 2) (fun g i wr => ∃ (k : Nat) (o : List Bool), k ≤ m + 1 ∧ i = .int .i64 ((k : Int) - 1) ∧ g = k + 1 ∧ o.length = m + 1 ∧ Below W.heap.size W wr ∧ Hid ((List.range k).reverse.foldl (R.need1 p) o = R.need p) ∧ Hid (wr.heap[W.heap.size]? = some (.cells (o.map Value.bool).toArray 4 (0, 0))))
  case atStart => exact ⟨m + 1, (List.replicate p.length false).set (p.length - 1) true, by omega, by go_num, rfl, by rw [List.length_set, List.length_replicate, Hlen.out], Hb1.out, by show _ = _; rw [← Hlen.out]; rfl, Hr1⟩
  case round =>
    clear Hb1 Hr1
    obtain ⟨k, o, hk, rfl, hgk, hol, hbw, HO, HW⟩ := hrel
    have Hgk := Lib.hid hgk; clear hgk
    by_cases h0 : k = 0
    · subst h0
      have ho : o = R.need p := HO.out
      have q : decide ((0 : Int) ≤ ((0 : Nat) : Int) - 1) = false := by decide
      rw [ho] at HW
      go_wp2
      go_ret
      exact ⟨W.heap.size, rfl, Nat.le_refl _, hbw, HW.out⟩
    · obtain ⟨j, rfl⟩ : ∃ j, k = j + 1 := ⟨k - 1, by omega⟩
      have ej : ((j + 1 : Nat) : Int) - 1 = (j : Int) := by omega
      rw [ej]
      have hjm : j < m + 1 := by omega
      obtain ⟨x, b, off, A, c, hx, rfl, hb, x0, x1, x2, x3, x4, hs, i0, i1⟩ := nd_cells HP.out hjm
      have k3 := (hbw.cell (p := ⟨b, off + j * 5 + 3, none⟩) hb).trans x3
      have HO2 := Lib.hid (show (List.range j).reverse.foldl (R.need1 p) (x.args.foldl (R.nstep j) o) = R.need p from by
        rw [← HO.out, List.range_succ, List.reverse_append, List.reverse_singleton, List.singleton_append, List.foldl_cons, R.need1_eq o hx])
      have Harx := Lib.hid (Harg.out x (List.mem_of_getElem? hx))
      have Hs := Lib.hid hs
      have hale := hs.le
      have Hbw := Lib.hid hbw
      have q : decide ((0 : Int) ≤ (j : Int)) = true := by simp
      clear x0 x1 x2 x3 x4 i0 i1 hs HO h0 hbw ej hb hx
      obtain ⟨gO, rfl⟩ : ∃ g, g = gk := ⟨_, rfl⟩
      go_wp2
      go_loopg [28] (x.args.length + 1) (fun g i w3 => ∃ (q : Nat) (o3 : List Bool), q ≤ x.args.length ∧ i = .int .i64 (q : Int) ∧ g + q = x.args.length + 1 ∧ o3.length = m + 1 ∧ Below W.heap.size W w3 ∧ Hid ((x.args.drop q).foldl (R.nstep j) o3 = x.args.foldl (R.nstep j) o) ∧ Hid (w3.heap[W.heap.size]? = some (.cells (o3.map Value.bool).toArray 4 (0, 0))))
      case atStart => exact ⟨0, o, Nat.zero_le _, rfl, rfl, hol, Hbw.out, by show _ = _; rfl, HW⟩
      case round =>
        clear HW Hbw k3
        obtain ⟨q, o3, hq, rfl, hgk2, hol3, hbw, HF, HW⟩ := hrel
        have Hgk2 := Lib.hid hgk2; clear hgk2
        by_cases hlt : q < x.args.length
        · obtain ⟨a, bA, offA, u, ha, rfl, hbA, hcA, rfl⟩ := (Hs.out.below (monoInt _) hbw).at_ hlt
          obtain ⟨a0, a1⟩ := Harx.out a (List.mem_of_getElem? ha)
          obtain ⟨av, rfl⟩ : ∃ v : Nat, a = v := ⟨a.toNat, by omega⟩
          have hav : av < m + 1 := by omega
          obtain ⟨ba, hba⟩ : ∃ ba, o3[av]? = some ba := ⟨_, List.getElem?_eq_getElem (by omega)⟩
          obtain ⟨bj, hbj⟩ : ∃ bj, o3[j]? = some bj := ⟨_, List.getElem?_eq_getElem (by omega)⟩
          have hca : wr.cell? ⟨W.heap.size, av, none⟩ = some (.bool ba) := by
            rw [cell_of_row _ _ _ _ _ (0, 0) HW.out, List.getElem?_toArray, List.getElem?_map, hba]; rfl
          have hcj : wr.cell? ⟨W.heap.size, j, none⟩ = some (.bool bj) := by
            rw [cell_of_row _ _ _ _ _ (0, 0) HW.out, List.getElem?_toArray, List.getElem?_map, hbj]; rfl
          have hfz := frozen_row HW.out av
          have HS := Lib.hid (show R.nstep j o3 ((av : Nat) : Int) = o3.set av (ba || bj) from by
            unfold R.nstep
            rw [Int.toNat_natCast, List.getD_eq_getElem?_getD, List.getD_eq_getElem?_getD, hba, hbj]; rfl)
          have HF2 := Lib.hid (show (x.args.drop (q + 1)).foldl (R.nstep j) (o3.set av (ba || bj)) = x.args.foldl (R.nstep j) o from by
            rw [← HF.out, ← HS.out]
            have hd : x.args.drop q = ((av : Nat) : Int) :: x.args.drop (q + 1) := by
              rw [List.drop_eq_getElem_cons hlt]
              congr 1
              rw [List.getElem?_eq_getElem hlt] at ha
              exact Option.some.inj ha
            rw [hd, List.foldl_cons])
          have HW2 := Lib.hid (show (wr.setCell ⟨W.heap.size, av, none⟩ (.bool (ba || bj))).heap[W.heap.size]? = some (.cells ((o3.set av (ba || bj)).map Value.bool).toArray 4 (0, 0)) from by
            rw [heap_setCell_same _ _ _ _ _ _ HW.out]
            simp [List.map_set])
          have Hb2 := Lib.hid (show Below W.heap.size W (wr.setCell ⟨W.heap.size, av, none⟩ (.bool (ba || bj))) from hbw.setCell (p := ⟨W.heap.size, av, none⟩) (Nat.le_refl _) _)
          have hol2 : (o3.set av (ba || bj)).length = m + 1 := by simpa using hol3
          clear HF HS hba hbj ha hbw a0 a1 hbA
          cases ba
          · rw [Bool.false_or] at *
            go_wp2
            go_roundg (gk - 1)
            case measure => have := Hgk2.out; omega
            case rel => have := Hgk2.out; exact ⟨q + 1, _, by omega, by go_num, by omega, hol2, Hb2.out, HF2, HW2⟩
          · rw [Bool.true_or] at *
            clear hcj
            go_wp2
            go_roundg (gk - 1)
            case measure => have := Hgk2.out; omega
            case rel => have := Hgk2.out; exact ⟨q + 1, _, by omega, by go_num, by omega, hol2, Hb2.out, HF2, HW2⟩
        · obtain rfl : q = x.args.length := by omega
          have e : o3 = x.args.foldl (R.nstep j) o := by rw [← HF.out, List.drop_length]; rfl
          rw [← e] at HO2
          have Hbw := Lib.hid hbw
          clear hbw HF
          go_wp2
          go_roundg (j + 1)
          case measure => have := Hgk.out; omega
          case rel => exact ⟨j, o3, by omega, by go_num, rfl, hol3, Hbw.out, HO2, HW⟩
end Go.Proofs.YtbiopedpceddeaaGreatDoor
end
