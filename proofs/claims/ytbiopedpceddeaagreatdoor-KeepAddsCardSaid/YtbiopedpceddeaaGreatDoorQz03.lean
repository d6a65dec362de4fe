/- Part. -/
import Derived.Test.YtbiopedpceddeaaGreatDoorQz02
set_option linter.unusedVariables false
set_option linter.unusedSimpArgs false
set_option maxRecDepth 100000
set_option maxHeartbeats 16000000
namespace Go.Proofs.YtbiopedpceddeaaGreatDoor
section
open Go.RowKit
namespace R
theorem par_rar {op : Int} (h : ¬ (16 ≤ op ∧ op ≤ 18)) : par op = rar op := by unfold par rar; rw [if_neg h]
theorem par_none {op : Int} (h : 16 ≤ op ∧ op ≤ 18) : par op = -1 := by unfold par; rw [if_neg (by omega), if_neg (by omega), if_pos h]
theorem pnode_bad {p : List T.Nd} {right : Bool} {k : Nat} {x : T.Nd} (h : built k x = false ∨ x.w < 0 ∨ 32 < x.w ∨ (16 ≤ x.op ∧ x.op ≤ 18)) : pnode p right k x = false := by
 unfold pnode
 by_cases hr : 16 ≤ x.op ∧ x.op ≤ 18
 · rw [par_none hr]; simp
 rcases h with h | h | h | h
 · unfold built at h
   rw [par_rar hr]
   rw [Bool.eq_false_iff] at h ⊢
   intro h'
   apply h
   simp only [Bool.and_eq_true, decide_eq_true_eq] at h' ⊢
   obtain ⟨⟨⟨⟨⟨⟨h1, h2⟩, h3⟩, h4⟩, h5⟩, h6⟩, h7⟩ := h'
   exact ⟨⟨⟨h1, h2⟩, h5⟩, h6⟩
 · have : decide (0 ≤ x.w) = false := by simp; omega
   rw [this]; simp
 · have : decide (x.w ≤ 32) = false := by simp; omega
   rw [this]; simp
 · exact absurd h hr
theorem pnode_good {p : List T.Nd} {right : Bool} {k : Nat} {x : T.Nd} (h : built k x = true) (h1 : ¬ x.w < 0) (h2 : ¬ 32 < x.w) (hr : ¬ (16 ≤ x.op ∧ x.op ≤ 18)) : pnode p right k x = pimmOk p right x := by
 unfold built at h
 unfold pnode
 rw [par_rar hr]
 simp only [Bool.and_eq_true, decide_eq_true_eq] at h
 obtain ⟨⟨⟨a1, a2⟩, a3⟩, a4⟩ := h
 have e1 : decide (0 ≤ x.w) = true := by simp; omega
 have e2 : decide (x.w ≤ 32) = true := by simp; omega
 rw [e1, e2, a3, a4]
 simp [a1, a2]
theorem built_one {k : Nat} {x : T.Nd} (h : built k x = true) (ho : x.op = 35) : ∃ a : Nat, x.args = [(a : Int)] ∧ a < k := by
 unfold built at h
 simp only [Bool.and_eq_true, decide_eq_true_eq] at h
 obtain ⟨⟨⟨a1, a2⟩, a3⟩, a4⟩ := h
 have hl : x.args.length = 1 := by have : rar x.op = 1 := by rw [ho]; rfl
                                   omega
 obtain ⟨a, ha⟩ := List.length_eq_one_iff.1 hl
 unfold T.argsOk at a4
 rw [ha] at a4
 have := List.all_eq_true.1 a4 a (by simp)
 simp only [Bool.and_eq_true, decide_eq_true_eq] at this
 exact ⟨a.toNat, by rw [ha]; simp; omega, by omega⟩
end R
theorem gPatternNode_any (p : List T.Nd) (n cp : Nat) (Ap : Option Addr) (right : Bool) (k : Nat) (x : T.Nd) (A : Option Addr) (c : Nat) (W : World) (hP : StAt 5 NdR W Ap n p) (hk : k < n) (hA : SlAt (IntR .i64) W A x.args.length x.args) (hf : -9223372036854775808 ≤ x.fl ∧ x.fl ≤ 9223372036854775807) (hi : 0 ≤ x.imm ∧ x.imm < 4294967296) :
 Calls Tryz.prog 121 #[.slice Ap n cp, .int .i64 k, ndV x A c, .bool right] W fun e w' => e = .returned (.bool (R.pnode p right k x)) ∧ Below W.heap.size W w' := by
 obtain ⟨W1, hW1⟩ : ∃ W1, W1 = W.alloc (.cells #[.int .i64 x.op, .int .i64 x.w, .int .i64 x.fl, .slice A x.args.length c, .int .u32 x.imm] 62) := ⟨_, rfl⟩
 have hB1 : Below W.heap.size W W1 := by rw [hW1]; exact al0
 have hr1 : W1.heap[W.heap.size]? = some (.cells #[.int .i64 x.op, .int .i64 x.w, .int .i64 x.fl, .slice A x.args.length c, .int .u32 x.imm] 62 (0, 0)) := by rw [hW1]; exact heap_alloc_new W _
 have Hx := kH (show ∀ X, Below W1.heap.size W1 X → X.cell? ⟨W.heap.size, 0, none⟩ = some (.int .i64 x.op) ∧ X.cell? ⟨W.heap.size, 1, none⟩ = some (.int .i64 x.w) ∧ X.cell? ⟨W.heap.size, 2, none⟩ = some (.int .i64 x.fl) ∧ X.cell? ⟨W.heap.size, 3, none⟩ = some (.slice A x.args.length c) ∧ X.cell? ⟨W.heap.size, 4, none⟩ = some (.int .u32 x.imm) from fun X hX => by
  have hr := row_step (kH hX) hr1
  refine ⟨?_, ?_, ?_, ?_, ?_⟩
  all_goals rw [cell_of_row _ _ _ _ _ (0, 0) hr]; rfl)
 have HBt := kH (gisBuilt_any k x A c W1 (hA.below (monoInt _) hB1) hf)
 have HW := kH (fun W' => gisWord_any x.w x.imm W' hi.1)
 have HA := kH hA
 have HP := kH hP
 have Hi := kH hi
 have Hk := kH hk
 have hplen := hP.le
 obtain ⟨r, hr⟩ : ∃ r, r = R.pnode p right k x := ⟨_, rfl⟩
 rw [← hr]
 have hcase : (R.built k x = false ∧ r = false) ∨ (R.built k x = true ∧ x.w < 0 ∧ r = false) ∨ (R.built k x = true ∧ ¬ x.w < 0 ∧ 32 < x.w ∧ r = false) ∨ (R.built k x = true ∧ ¬ x.w < 0 ∧ ¬ 32 < x.w ∧ ((16 ≤ x.op ∧ x.op ≤ 18 ∧ r = false) ∨ (¬ (16 ≤ x.op ∧ x.op ≤ 18) ∧ r = R.pimmOk p right x))) := by
  cases hb : R.built k x
  · exact .inl ⟨rfl, by rw [hr]; exact R.pnode_bad (.inl hb)⟩
  by_cases h1 : x.w < 0
  · exact .inr (.inl ⟨rfl, h1, by rw [hr]; exact R.pnode_bad (.inr (.inl h1))⟩)
  by_cases h2 : 32 < x.w
  · exact .inr (.inr (.inl ⟨rfl, h1, h2, by rw [hr]; exact R.pnode_bad (.inr (.inr (.inl h2)))⟩))
  refine .inr (.inr (.inr ⟨rfl, h1, h2, ?_⟩))
  by_cases h3 : 16 ≤ x.op ∧ x.op ≤ 18
  · exact .inl ⟨h3.1, h3.2, by rw [hr]; exact R.pnode_bad (.inr (.inr (.inr h3)))⟩
  · exact .inr ⟨h3, by rw [hr]; exact R.pnode_good hb h1 h2 h3⟩
 have hone := kH (R.built_one (k := k) (x := x))
 have HB1 := kH hB1
 generalize R.built k x = b at HBt hcase hone
 clear hA hr1 hB1 hf hr hi hP hk
 obtain ⟨op, w, fl, args, imm⟩ := x
 unfold ndV at *
 dsimp only at *
 rcases hcase with ⟨rfl, rfl⟩ | ⟨rfl, h1, rfl⟩ | ⟨rfl, h1, h2, rfl⟩ | ⟨rfl, h1, h2, hcase⟩
 · skip
   clear HW HA HP Hi Hk hone
   go_enter Tryz.func121, Tryz.ntmps121
   go_wp2_with fail
   rw [← hW1]
   clear hW1
   (with_reducible refine HBt.out.mono ?_)
   rintro e w2 ⟨rfl, hb2⟩
   have Hb2 := kH (HB1.out.trans (hb2.mono HB1.out.size))
   obtain ⟨x0, x1, x2, x3, x4⟩ := Hx.out w2 hb2
   clear hb2
   go_wp2
   go_ret
   exact ⟨rfl, Hb2.out⟩
 · skip
   have qa : decide (w < 0) = true := by simpa using h1
   clear HW HA HP Hi Hk hone h1
   go_enter Tryz.func121, Tryz.ntmps121
   go_wp2_with fail
   rw [← hW1]
   clear hW1
   (with_reducible refine HBt.out.mono ?_)
   rintro e w2 ⟨rfl, hb2⟩
   have Hb2 := kH (HB1.out.trans (hb2.mono HB1.out.size))
   obtain ⟨x0, x1, x2, x3, x4⟩ := Hx.out w2 hb2
   clear hb2
   go_wp2
   go_ret
   exact ⟨rfl, Hb2.out⟩
 · skip
   have qa : decide (w < 0) = false := by simpa using h1
   have qb : decide (32 < w) = true := by simpa using h2
   clear HW HA HP Hi Hk hone h1 h2
   go_enter Tryz.func121, Tryz.ntmps121
   go_wp2_with fail
   rw [← hW1]
   clear hW1
   (with_reducible refine HBt.out.mono ?_)
   rintro e w2 ⟨rfl, hb2⟩
   have Hb2 := kH (HB1.out.trans (hb2.mono HB1.out.size))
   obtain ⟨x0, x1, x2, x3, x4⟩ := Hx.out w2 hb2
   clear hb2
   go_wp2
   go_ret
   exact ⟨rfl, Hb2.out⟩
 · have qa : decide (w < 0) = false := by simpa using h1
   have qb : decide (32 < w) = false := by simpa using h2
   clear h1 h2
   rcases hcase with ⟨h16, h18, rfl⟩ | ⟨h16, hr⟩
   · clear HW HA HP Hi Hk hone
     have q0 : (op == 0) = false := by simp; omega
     have q33 : (op == 33) = false := by simp; omega
     have q34 : (op == 34) = false := by simp; omega
     have q35 : (op == 35) = false := by simp; omega
     have q14 : (op == 14) = false := by simp; omega
     have hop : op = 16 ∨ op = 17 ∨ op = 18 := by omega
     clear h16 h18
     rcases hop with rfl | rfl | rfl
     · clear q0 q33 q34 q35 q14
       go_enter Tryz.func121, Tryz.ntmps121
       go_wp2_with fail
       rw [← hW1]
       clear hW1
       (with_reducible refine HBt.out.mono ?_)
       rintro e w2 ⟨rfl, hb2⟩
       have Hb2 := kH (HB1.out.trans (hb2.mono HB1.out.size))
       obtain ⟨x0, x1, x2, x3, x4⟩ := Hx.out w2 hb2
       clear hb2
       go_wp2
       go_ret
       exact ⟨rfl, Hb2.out⟩
     · clear q0 q33 q34 q35 q14
       go_enter Tryz.func121, Tryz.ntmps121
       go_wp2_with fail
       rw [← hW1]
       clear hW1
       (with_reducible refine HBt.out.mono ?_)
       rintro e w2 ⟨rfl, hb2⟩
       have Hb2 := kH (HB1.out.trans (hb2.mono HB1.out.size))
       obtain ⟨x0, x1, x2, x3, x4⟩ := Hx.out w2 hb2
       clear hb2
       go_wp2
       go_ret
       exact ⟨rfl, Hb2.out⟩
     · clear q0 q33 q34 q35 q14
       go_enter Tryz.func121, Tryz.ntmps121
       go_wp2_with fail
       rw [← hW1]
       clear hW1
       (with_reducible refine HBt.out.mono ?_)
       rintro e w2 ⟨rfl, hb2⟩
       have Hb2 := kH (HB1.out.trans (hb2.mono HB1.out.size))
       obtain ⟨x0, x1, x2, x3, x4⟩ := Hx.out w2 hb2
       clear hb2
       go_wp2
       go_ret
       exact ⟨rfl, Hb2.out⟩
   unfold R.pimmOk at hr
   dsimp only at hr
   by_cases h0 : op = 0
   · rw [if_pos h0] at hr
     subst h0
     clear h16 HA HP Hi Hk hone
     by_cases hw : w = 0
     · subst hw
       have hr2 : r = true := by simpa using hr
       subst hr2
       clear hr HW
       go_enter Tryz.func121, Tryz.ntmps121
       go_wp2_with fail
       rw [← hW1]
       clear hW1
       (with_reducible refine HBt.out.mono ?_)
       rintro e w2 ⟨rfl, hb2⟩
       have Hb2 := kH (HB1.out.trans (hb2.mono HB1.out.size))
       obtain ⟨x0, x1, x2, x3, x4⟩ := Hx.out w2 hb2
       clear hb2
       go_wp2
       go_ret
       exact ⟨rfl, Hb2.out⟩
     · have qw : (w == 0) = false := by simpa using hw
       have hr2 : r = B.isW w imm := by rw [hr]; simp [hw]
       rw [← hr2] at HW
       clear hr hr2 hw
       go_enter Tryz.func121, Tryz.ntmps121
       go_wp2_with fail
       rw [← hW1]
       clear hW1
       (with_reducible refine HBt.out.mono ?_)
       rintro e w2 ⟨rfl, hb2⟩
       have Hb2 := kH (HB1.out.trans (hb2.mono HB1.out.size))
       obtain ⟨x0, x1, x2, x3, x4⟩ := Hx.out w2 hb2
       clear hb2
       go_wp2_with fail
       (with_reducible refine (HW.out _).mono ?_)
       rintro e w' ⟨rfl, rfl⟩
       go_wp2
       go_ret
       exact ⟨rfl, Hb2.out⟩
   have q0 : (op == 0) = false := by simpa using h0
   rw [if_neg h0] at hr
   clear h0 HW
   by_cases h33 : op = 33 ∨ op = 34
   · rw [if_pos h33] at hr
     clear h16 HA HP Hi Hk hone q0
     rcases h33 with rfl | rfl
     · by_cases hw : w = 0
       · subst hw
         have hr2 : decide (imm < 2) = r := by rw [hr]; simp
         clear hr
         go_enter Tryz.func121, Tryz.ntmps121
         go_wp2_with fail
         rw [← hW1]
         clear hW1
         (with_reducible refine HBt.out.mono ?_)
         rintro e w2 ⟨rfl, hb2⟩
         have Hb2 := kH (HB1.out.trans (hb2.mono HB1.out.size))
         obtain ⟨x0, x1, x2, x3, x4⟩ := Hx.out w2 hb2
         clear hb2
         go_wp2
         go_ret
         exact ⟨rfl, Hb2.out⟩
       · have qw : (w == 0) = false := by simpa using hw
         have hr2 : r = false := by rw [hr]; simp [hw]
         subst hr2
         clear hr hw
         go_enter Tryz.func121, Tryz.ntmps121
         go_wp2_with fail
         rw [← hW1]
         clear hW1
         (with_reducible refine HBt.out.mono ?_)
         rintro e w2 ⟨rfl, hb2⟩
         have Hb2 := kH (HB1.out.trans (hb2.mono HB1.out.size))
         obtain ⟨x0, x1, x2, x3, x4⟩ := Hx.out w2 hb2
         clear hb2
         go_wp2
         go_ret
         exact ⟨rfl, Hb2.out⟩
     · by_cases hw : w = 0
       · subst hw
         have hr2 : decide (imm < 2) = r := by rw [hr]; simp
         clear hr
         go_enter Tryz.func121, Tryz.ntmps121
         go_wp2_with fail
         rw [← hW1]
         clear hW1
         (with_reducible refine HBt.out.mono ?_)
         rintro e w2 ⟨rfl, hb2⟩
         have Hb2 := kH (HB1.out.trans (hb2.mono HB1.out.size))
         obtain ⟨x0, x1, x2, x3, x4⟩ := Hx.out w2 hb2
         clear hb2
         go_wp2
         go_ret
         exact ⟨rfl, Hb2.out⟩
       · have qw : (w == 0) = false := by simpa using hw
         have hr2 : r = false := by rw [hr]; simp [hw]
         subst hr2
         clear hr hw
         go_enter Tryz.func121, Tryz.ntmps121
         go_wp2_with fail
         rw [← hW1]
         clear hW1
         (with_reducible refine HBt.out.mono ?_)
         rintro e w2 ⟨rfl, hb2⟩
         have Hb2 := kH (HB1.out.trans (hb2.mono HB1.out.size))
         obtain ⟨x0, x1, x2, x3, x4⟩ := Hx.out w2 hb2
         clear hb2
         go_wp2
         go_ret
         exact ⟨rfl, Hb2.out⟩
   have q33 : (op == 33) = false := by simp; omega
   have q34 : (op == 34) = false := by simp; omega
   rw [if_neg h33] at hr
   clear h33
   by_cases h35 : op = 35
   · rw [if_pos h35] at hr
     obtain ⟨a, ha, hak⟩ := hone.out rfl h35
     subst h35
     subst ha
     have hHk := Hk.out
     obtain ⟨y, b, off, A', c', hy, rfl, hb, h0, _, _, _, _, _, _, _⟩ := nd_cells HP.out (show a < n by omega)
     obtain ⟨x', bA, offA, u, hx', rfl, hbA, hcA, hu⟩ := HA.out.at_ (k := 0) (by simp)
     have hxa : x' = (a : Int) := by simpa using hx'.symm
     subst hxa
     have hu' : u = .int .i64 (a : Int) := hu
     subst hu'
     have hr2 : r = (right && decide (w = 0) && decide (imm = 0) && decide (y.op = 34)) := by
      rw [hr]
      have e : (p.getD (([(a : Int)] : List Int).getD 0 0).toNat default) = y := by
       show p.getD ((a : Int)).toNat default = y
       rw [Int.toNat_natCast, List.getD_eq_getElem?_getD, hy]; rfl
      rw [e]
     have hbw := HB1.out
     have d0 := (hbw.cell (p := ⟨b, off + a * 5, none⟩) hb).trans h0
     have dA := (hbw.cell (p := ⟨bA, offA + 0, none⟩) hbA).trans hcA
     have hbs : b < W1.heap.size := by have := hbw.size; omega
     have hbAs : bA < W1.heap.size := by have := hbw.size; omega
     have Hd := kH (show ∀ X, Below W1.heap.size W1 X → X.cell? ⟨b, off + a * 5, none⟩ = some (.int .i64 y.op) ∧ X.cell? ⟨bA, offA + 0, none⟩ = some (.int .i64 (a : Int)) from fun X hX => ⟨(hX.cell (p := ⟨b, off + a * 5, none⟩) hbs).trans d0, (hX.cell (p := ⟨bA, offA + 0, none⟩) hbAs).trans dA⟩)
     have han : a < n := by omega
     generalize y.op = yo at hr2 Hd
     rw [Nat.add_zero] at Hd
     dsimp only [List.length_cons, List.length_nil] at *
     clear hr hx' hu hcA hbA hb h0 hbw d0 dA hbs hbAs hy HA HP hone h16 q0 q33 q34 Hk Hi hHk hak
     cases right
     · have hr3 : r = false := by rw [hr2]; simp
       subst hr3
       clear hr2 Hd han
       go_enter Tryz.func121, Tryz.ntmps121
       go_wp2_with fail
       rw [← hW1]
       clear hW1
       (with_reducible refine HBt.out.mono ?_)
       rintro e w2 ⟨rfl, hb2⟩
       have Hb2 := kH (HB1.out.trans (hb2.mono HB1.out.size))
       obtain ⟨x0, x1, x2, x3, x4⟩ := Hx.out w2 hb2
       clear hb2
       go_wp2
       go_ret
       exact ⟨rfl, Hb2.out⟩
     by_cases hw : w = 0
     · subst hw
       by_cases hi0 : imm = 0
       · subst hi0
         have hr3 : (yo == 34) = r := by rw [hr2]; rfl
         clear hr2
         go_enter Tryz.func121, Tryz.ntmps121
         go_wp2_with fail
         rw [← hW1]
         clear hW1
         (with_reducible refine HBt.out.mono ?_)
         rintro e w2 ⟨rfl, hb2⟩
         have Hb2 := kH (HB1.out.trans (hb2.mono HB1.out.size))
         obtain ⟨x0, x1, x2, x3, x4⟩ := Hx.out w2 hb2
         obtain ⟨d0, dA⟩ := Hd.out w2 hb2
         clear hb2
         go_wp2
         go_ret
         exact ⟨rfl, Hb2.out⟩
       · have qi : (imm == 0) = false := by simpa using hi0
         have hr3 : r = false := by rw [hr2]; simp [hi0]
         subst hr3
         clear hr2 Hd hi0 han
         go_enter Tryz.func121, Tryz.ntmps121
         go_wp2_with fail
         rw [← hW1]
         clear hW1
         (with_reducible refine HBt.out.mono ?_)
         rintro e w2 ⟨rfl, hb2⟩
         have Hb2 := kH (HB1.out.trans (hb2.mono HB1.out.size))
         obtain ⟨x0, x1, x2, x3, x4⟩ := Hx.out w2 hb2
         clear hb2
         go_wp2
         go_ret
         exact ⟨rfl, Hb2.out⟩
     · have qw : (w == 0) = false := by simpa using hw
       have hr3 : r = false := by rw [hr2]; simp [hw]
       subst hr3
       clear hr2 Hd hw han
       go_enter Tryz.func121, Tryz.ntmps121
       go_wp2_with fail
       rw [← hW1]
       clear hW1
       (with_reducible refine HBt.out.mono ?_)
       rintro e w2 ⟨rfl, hb2⟩
       have Hb2 := kH (HB1.out.trans (hb2.mono HB1.out.size))
       obtain ⟨x0, x1, x2, x3, x4⟩ := Hx.out w2 hb2
       clear hb2
       go_wp2
       go_ret
       exact ⟨rfl, Hb2.out⟩
   have q35 : (op == 35) = false := by simpa using h35
   rw [if_neg h35] at hr
   clear h35 hone HA HP Hk
   by_cases h14 : op = 14
   · rw [if_pos h14] at hr
     subst h14
     clear h16 q0 q33 q34 q35
     by_cases hw : w = 1
     · subst hw
       have hr2 : decide (imm ≤ 9) = r := by rw [hr]; simp
       clear hr
       go_enter Tryz.func121, Tryz.ntmps121
       go_wp2_with fail
       rw [← hW1]
       clear hW1
       (with_reducible refine HBt.out.mono ?_)
       rintro e w2 ⟨rfl, hb2⟩
       have Hb2 := kH (HB1.out.trans (hb2.mono HB1.out.size))
       obtain ⟨x0, x1, x2, x3, x4⟩ := Hx.out w2 hb2
       clear hb2
       go_wp2
       go_ret
       exact ⟨rfl, Hb2.out⟩
     · have qw : (w == 1) = false := by simpa using hw
       have hr2 : r = false := by rw [hr]; simp [hw]
       subst hr2
       clear hr hw
       go_enter Tryz.func121, Tryz.ntmps121
       go_wp2_with fail
       rw [← hW1]
       clear hW1
       (with_reducible refine HBt.out.mono ?_)
       rintro e w2 ⟨rfl, hb2⟩
       have Hb2 := kH (HB1.out.trans (hb2.mono HB1.out.size))
       obtain ⟨x0, x1, x2, x3, x4⟩ := Hx.out w2 hb2
       clear hb2
       go_wp2
       go_ret
       exact ⟨rfl, Hb2.out⟩
   have q14 : (op == 14) = false := by simpa using h14
   rw [if_neg h14] at hr
   have q16 : (op == 16) = false := by simp; omega
   have q17 : (op == 17) = false := by simp; omega
   have q18 : (op == 18) = false := by simp; omega
   have hr2 : (imm == 0) = r := by rw [hr]; rfl
   clear h14 h16 hr
   go_enter Tryz.func121, Tryz.ntmps121
   go_wp2_with fail
   rw [← hW1]
   clear hW1
   (with_reducible refine HBt.out.mono ?_)
   rintro e w2 ⟨rfl, hb2⟩
   have Hb2 := kH (HB1.out.trans (hb2.mono HB1.out.size))
   obtain ⟨x0, x1, x2, x3, x4⟩ := Hx.out w2 hb2
   clear hb2
   go_wp2
   go_ret
   exact ⟨rfl, Hb2.out⟩
end
section
open Go.RowKit
theorem gisCond_any (x : R.Cd) (W : World) :
 Calls Tryz.prog 124 #[cdV x] W fun e w' => e = .returned (.bool (R.cdOk x)) ∧ Below W.heap.size W w' := by
 have hB1 : Below W.heap.size W (W.alloc (.cells #[.int .i64 x.kind, .int .i64 x.hole, .int .u32 x.imm] 88)) := al0
 have HB1 := kH hB1
 obtain ⟨r, hr⟩ : ∃ r, r = R.cdOk x := ⟨_, rfl⟩
 rw [← hr]
 unfold R.cdOk at hr
 obtain ⟨kind, hole, imm⟩ := x
 dsimp only at *
 unfold cdV
 clear hB1
 have q1c : (0 ≤ kind ∧ decide (0 ≤ kind) = true) ∨ (decide (0 ≤ kind) = false ∧ r = false) := by
  by_cases h : 0 ≤ kind
  · exact .inl ⟨h, by simpa using h⟩
  · exact .inr ⟨by simpa using h, by rw [hr]; simp [h]⟩
 rcases q1c with ⟨_, q1⟩ | ⟨q1, rfl⟩
 rotate_left
 · clear hr
   go_enter Tryz.func124, Tryz.ntmps124
   go_wp2
   go_ret
   exact ⟨rfl, HB1.out⟩
 rw [q1, Bool.true_and] at hr
 have q2c : (decide (kind ≤ 4) = true) ∨ (decide (kind ≤ 4) = false ∧ r = false) := by
  by_cases h : kind ≤ 4
  · exact .inl (by simpa using h)
  · exact .inr ⟨by simpa using h, by rw [hr]; simp [h]⟩
 rcases q2c with q2 | ⟨q2, rfl⟩
 rotate_left
 · clear hr
   go_enter Tryz.func124, Tryz.ntmps124
   go_wp2
   go_ret
   exact ⟨rfl, HB1.out⟩
 rw [q2, Bool.true_and] at hr
 have q3c : (decide (0 ≤ hole) = true) ∨ (decide (0 ≤ hole) = false ∧ r = false) := by
  by_cases h : 0 ≤ hole
  · exact .inl (by simpa using h)
  · exact .inr ⟨by simpa using h, by rw [hr]; simp [h]⟩
 rcases q3c with q3 | ⟨q3, rfl⟩
 rotate_left
 · clear hr
   go_enter Tryz.func124, Tryz.ntmps124
   go_wp2
   go_ret
   exact ⟨rfl, HB1.out⟩
 rw [q3, Bool.true_and] at hr
 have q4c : (decide (hole < 2) = true) ∨ (decide (hole < 2) = false ∧ r = false) := by
  by_cases h : hole < 2
  · exact .inl (by simpa using h)
  · exact .inr ⟨by simpa using h, by rw [hr]; simp [h]⟩
 rcases q4c with q4 | ⟨q4, rfl⟩
 rotate_left
 · clear hr
   go_enter Tryz.func124, Tryz.ntmps124
   go_wp2
   go_ret
   exact ⟨rfl, HB1.out⟩
 rw [q4, Bool.true_and] at hr
 by_cases hk : kind = 4
 · subst hk
   have hr2 : r = true := by rw [hr]; rfl
   subst hr2
   clear hr
   go_enter Tryz.func124, Tryz.ntmps124
   go_wp2
   go_ret
   exact ⟨rfl, HB1.out⟩
 · have qk : (kind == 4) = false := by simpa using hk
   have hr2 : (imm == 0) = r := by rw [hr]; simp only [hk]; rfl
   clear hr hk
   go_enter Tryz.func124, Tryz.ntmps124
   go_wp2
   go_ret
   exact ⟨rfl, HB1.out⟩
theorem infoBool : (Tryz.prog.info? 4).map (fun i => (i.zero, i.size, i.bytes)) = some (some (.bool false), 1, 1) := by kernel_rfl
namespace R
def nstep (k : Nat) (o : List Bool) (a : Int) : List Bool := o.set a.toNat (o.getD a.toNat false || o.getD k false)
theorem nstep_len (k : Nat) (o : List Bool) (a : Int) : (nstep k o a).length = o.length := by unfold nstep; simp
theorem need1_eq {p : List T.Nd} {k : Nat} {x : T.Nd} (o : List Bool) (hx : p[k]? = some x) : need1 p o k = x.args.foldl (nstep k) o := by
 unfold need1
 rw [List.getD_eq_getElem?_getD, hx]
 rfl
end R
theorem frozen_row {W : World} {g : Nat} {cs : Array Value} {T : TypeId} (h : W.heap[g]? = some (.cells cs T (0, 0))) (k : Nat) : W.frozen? ⟨g, k, none⟩ = false := by simp [World.frozen?, h]
theorem gneeded_any (p : List T.Nd) (n cp : Nat) (Ap : Option Addr) (W : World) (hP : StAt 5 NdR W Ap n p) (hn1 : 1 ≤ n) (hn : n ≤ 1000000) (harg : ∀ x ∈ p, ∀ a ∈ x.args, 0 ≤ a ∧ a < (n : Int)) :
 Calls Tryz.prog 46 #[.slice Ap n cp] W fun e w' => ∃ g, e = .returned (.slice (some ⟨g, 0, none⟩) n n) ∧ W.heap.size ≤ g ∧ Below W.heap.size W w' ∧ w'.heap[g]? = some (.cells ((R.need p).map Value.bool).toArray 4 (0, 0)) := by
 have HP := kH hP
 have Harg := kH harg
 have hlen := hP.len
 obtain ⟨m, rfl⟩ : ∃ m, n = m + 1 := ⟨n - 1, by omega⟩
 clear hP harg hn1
 have hmk := fun (W' : World) => run_make_n (P := Tryz.prog) 69 4 (.bool false) 1 Tryz.underlying69 infoBool rfl .i64 .i64 (m + 1) ((m : Int) + 1) (by omega) (by omega) (by omega) W'
 have em : (m : Int) + 1 - 1 = (m : Int) := by omega
 obtain ⟨W1, hW1⟩ : ∃ W1, W1 = W.alloc (.cells ((Array.replicate (m + 1) (Value.bool false)).setIfInBounds m (.bool true)) 4) := ⟨_, rfl⟩
 have Hb1 := kH (show Below W.heap.size W W1 from by rw [hW1]; exact al0)
 have hr0 : (W.alloc (.cells (Array.replicate (m + 1) (Value.bool false)) 4)).heap[W.heap.size]? = some (.cells (Array.replicate (m + 1) (Value.bool false)) 4 (0, 0)) := heap_alloc_new W _
 have Hr1 := kH (show W1.heap[W.heap.size]? = some (.cells ((((List.replicate p.length false).set (p.length - 1) true)).map Value.bool).toArray 4 (0, 0)) from by
  have e : (((List.replicate p.length false).set (p.length - 1) true).map Value.bool).toArray = (Array.replicate (m + 1) (Value.bool false)).setIfInBounds m (.bool true) := by
   rw [hlen, ← List.toArray_replicate, List.setIfInBounds_toArray]
   simp [List.map_set]
  rw [e, hW1]
  exact heap_alloc_new W _)
 have hf0 : (W.alloc (.cells (Array.replicate (m + 1) (Value.bool false)) 4)).frozen? ⟨W.heap.size, m, none⟩ = false := frozen_row hr0 m
 have hc0 : (W.alloc (.cells (Array.replicate (m + 1) (Value.bool false)) 4)).cell? ⟨W.heap.size, m, none⟩ = some (.bool false) := by
  rw [cell_of_row _ _ _ _ _ (0, 0) hr0]; simp
 have Hlen := kH hlen
 clear hr0 hlen
 go_enter Tryz.func46, Tryz.ntmps46
 go_wp2
 rw [← hW1]
 clear hmk em hf0 hc0
 clear hW1
 have hs1 := Hb1.out.size
 go_loopg [4] (m + 2) (fun g i wr => ∃ (k : Nat) (o : List Bool), k ≤ m + 1 ∧ i = .int .i64 ((k : Int) - 1) ∧ g = k + 1 ∧ o.length = m + 1 ∧ Below W.heap.size W wr ∧ Hid ((List.range k).reverse.foldl (R.need1 p) o = R.need p) ∧ Hid (wr.heap[W.heap.size]? = some (.cells (o.map Value.bool).toArray 4 (0, 0))))
 case atStart => exact ⟨m + 1, (List.replicate p.length false).set (p.length - 1) true, by omega, by go_num, rfl, by rw [List.length_set, List.length_replicate, Hlen.out], Hb1.out, by show _ = _; rw [← Hlen.out]; rfl, Hr1⟩
 case round =>
  clear Hb1 Hr1
  obtain ⟨k, o, hk, rfl, hgk, hol, hbw, HO, HW⟩ := hrel
  have Hgk := kH hgk; clear hgk
  by_cases h0 : k = 0
  · subst h0
    have ho : o = R.need p := HO.out
    have q : decide ((0 : Int) ≤ ((0 : Nat) : Int) - 1) = false := by decide
    rw [ho] at HW
    go_wp2
    go_ret
    exact ⟨W.heap.size, rfl, Nat.le_refl _, hbw, HW.out⟩
  · obtain ⟨j, rfl⟩ : ∃ j, k = j + 1 := ⟨k - 1, by omega⟩
    have ej : ((j + 1 : Nat) : Int) - 1 = (j : Int) := by omega
    rw [ej]
    have hjm : j < m + 1 := by omega
    obtain ⟨x, b, off, A, c, hx, rfl, hb, x0, x1, x2, x3, x4, hs, i0, i1⟩ := nd_cells HP.out hjm
    have k3 := (hbw.cell (p := ⟨b, off + j * 5 + 3, none⟩) hb).trans x3
    have HO2 := kH (show (List.range j).reverse.foldl (R.need1 p) (x.args.foldl (R.nstep j) o) = R.need p from by
     rw [← HO.out, List.range_succ, List.reverse_append, List.reverse_singleton, List.singleton_append, List.foldl_cons, R.need1_eq o hx])
    have Harx := kH (Harg.out x (List.mem_of_getElem? hx))
    have Hs := kH hs
    have hale := hs.le
    have Hbw := kH hbw
    have q : decide ((0 : Int) ≤ (j : Int)) = true := by simp
    clear x0 x1 x2 x3 x4 i0 i1 hs HO h0 hbw ej hb hx
    obtain ⟨gO, rfl⟩ : ∃ g, g = gk := ⟨_, rfl⟩
    go_wp2
    go_loopg [28] (x.args.length + 1) (fun g i w3 => ∃ (q : Nat) (o3 : List Bool), q ≤ x.args.length ∧ i = .int .i64 (q : Int) ∧ g + q = x.args.length + 1 ∧ o3.length = m + 1 ∧ Below W.heap.size W w3 ∧ Hid ((x.args.drop q).foldl (R.nstep j) o3 = x.args.foldl (R.nstep j) o) ∧ Hid (w3.heap[W.heap.size]? = some (.cells (o3.map Value.bool).toArray 4 (0, 0))))
    case atStart => exact ⟨0, o, Nat.zero_le _, rfl, rfl, hol, Hbw.out, by show _ = _; rfl, HW⟩
    case round =>
     clear HW Hbw k3
     obtain ⟨q, o3, hq, rfl, hgk2, hol3, hbw, HF, HW⟩ := hrel
     have Hgk2 := kH hgk2; clear hgk2
     by_cases hlt : q < x.args.length
     · obtain ⟨a, bA, offA, u, ha, rfl, hbA, hcA, rfl⟩ := (Hs.out.below (monoInt _) hbw).at_ hlt
       obtain ⟨a0, a1⟩ := Harx.out a (List.mem_of_getElem? ha)
       obtain ⟨av, rfl⟩ : ∃ v : Nat, a = v := ⟨a.toNat, by omega⟩
       have hav : av < m + 1 := by omega
       obtain ⟨ba, hba⟩ : ∃ ba, o3[av]? = some ba := ⟨_, List.getElem?_eq_getElem (by omega)⟩
       obtain ⟨bj, hbj⟩ : ∃ bj, o3[j]? = some bj := ⟨_, List.getElem?_eq_getElem (by omega)⟩
       have hca : wr.cell? ⟨W.heap.size, av, none⟩ = some (.bool ba) := by
        rw [cell_of_row _ _ _ _ _ (0, 0) HW.out, List.getElem?_toArray, List.getElem?_map, hba]; rfl
       have hcj : wr.cell? ⟨W.heap.size, j, none⟩ = some (.bool bj) := by
        rw [cell_of_row _ _ _ _ _ (0, 0) HW.out, List.getElem?_toArray, List.getElem?_map, hbj]; rfl
       have hfz := frozen_row HW.out av
       have HS := kH (show R.nstep j o3 ((av : Nat) : Int) = o3.set av (ba || bj) from by
        unfold R.nstep
        rw [Int.toNat_natCast, List.getD_eq_getElem?_getD, List.getD_eq_getElem?_getD, hba, hbj]; rfl)
       have HF2 := kH (show (x.args.drop (q + 1)).foldl (R.nstep j) (o3.set av (ba || bj)) = x.args.foldl (R.nstep j) o from by
        rw [← HF.out, ← HS.out]
        have hd : x.args.drop q = ((av : Nat) : Int) :: x.args.drop (q + 1) := by
         rw [List.drop_eq_getElem_cons hlt]
         congr 1
         rw [List.getElem?_eq_getElem hlt] at ha
         exact Option.some.inj ha
        rw [hd, List.foldl_cons])
       have HW2 := kH (show (wr.setCell ⟨W.heap.size, av, none⟩ (.bool (ba || bj))).heap[W.heap.size]? = some (.cells ((o3.set av (ba || bj)).map Value.bool).toArray 4 (0, 0)) from by
        rw [heap_setCell_same _ _ _ _ _ _ HW.out]
        simp [List.map_set])
       have Hb2 := kH (show Below W.heap.size W (wr.setCell ⟨W.heap.size, av, none⟩ (.bool (ba || bj))) from hbw.setCell (p := ⟨W.heap.size, av, none⟩) (Nat.le_refl _) _)
       have hol2 : (o3.set av (ba || bj)).length = m + 1 := by simpa using hol3
       clear HF HS hba hbj ha hbw a0 a1 hbA
       cases ba
       · rw [Bool.false_or] at *
         go_wp2
         go_roundg (gk - 1)
         case measure => have := Hgk2.out; omega
         case rel => have := Hgk2.out; exact ⟨q + 1, _, by omega, by go_num, by omega, hol2, Hb2.out, HF2, HW2⟩
       · rw [Bool.true_or] at *
         clear hcj
         go_wp2
         go_roundg (gk - 1)
         case measure => have := Hgk2.out; omega
         case rel => have := Hgk2.out; exact ⟨q + 1, _, by omega, by go_num, by omega, hol2, Hb2.out, HF2, HW2⟩
     · obtain rfl : q = x.args.length := by omega
       have e : o3 = x.args.foldl (R.nstep j) o := by rw [← HF.out, List.drop_length]; rfl
       rw [← e] at HO2
       have Hbw := kH hbw
       clear hbw HF
       go_wp2
       go_roundg (j + 1)
       case measure => have := Hgk.out; omega
       case rel => exact ⟨j, o3, by omega, by go_num, rfl, hol3, Hbw.out, HO2, HW⟩
end
section
open Go.RowKit
namespace R
def lab (i : Nat) (x : T.Nd) : Bool := if i < 4 then decide (x.op = 33) && decide (x.imm = i) else decide (x.op = 34) && decide (x.imm = (i : Int) - 4)
def unkTo (all : Bool) (p : List T.Nd) (k : Nat) : List Bool := (List.range 6).map fun i => ((p.zip (need p)).take k).any fun q => (all || q.2) && lab i q.1
def unk (all : Bool) (p : List T.Nd) : List Bool := unkTo all p p.length
theorem unkTo_len (all : Bool) (p : List T.Nd) (k : Nat) : (unkTo all p k).length = 6 := by simp [unkTo]
theorem unkTo_snoc {all : Bool} {p : List T.Nd} {k : Nat} {x : T.Nd} {b : Bool} (hx : p[k]? = some x) (hb : (need p)[k]? = some b) {i : Nat} (hi : i < 6) : (unkTo all p (k + 1))[i]? = some (((unkTo all p k).getD i false) || ((all || b) && lab i x)) := by
 have hz : (p.zip (need p))[k]? = some (x, b) := List.getElem?_zip_eq_some.2 ⟨hx, hb⟩
 unfold unkTo
 rw [K.take_succ_at hz]
 simp [hi, List.getD_eq_getElem?_getD]
theorem unkTo_same {all : Bool} {p : List T.Nd} {k : Nat} {x : T.Nd} {b : Bool} (hx : p[k]? = some x) (hb : (need p)[k]? = some b) (h : ∀ i, i < 6 → ((all || b) && lab i x) = false) : unkTo all p (k + 1) = unkTo all p k := by
 refine List.ext_getElem? fun i => ?_
 by_cases hi : i < 6
 · rw [unkTo_snoc hx hb hi, h i hi, Bool.or_false, List.getD_eq_getElem?_getD, List.getElem?_eq_getElem (by rw [unkTo_len]; exact hi)]; rfl
 · rw [List.getElem?_eq_none (by rw [unkTo_len]; omega), List.getElem?_eq_none (by rw [unkTo_len]; omega)]
theorem unkTo_set {all : Bool} {p : List T.Nd} {k : Nat} {x : T.Nd} {b : Bool} (hx : p[k]? = some x) (hb : (need p)[k]? = some b) (hab : (all || b) = true) {v : Nat} (hv : v < 6) (h : ∀ i, i < 6 → lab i x = decide (i = v)) : unkTo all p (k + 1) = (unkTo all p k).set v true := by
 refine List.ext_getElem? fun i => ?_
 by_cases hi : i < 6
 · rw [unkTo_snoc hx hb hi, hab, h i hi, List.getElem?_set, Bool.true_and, List.getD_eq_getElem?_getD, List.getElem?_eq_getElem (by rw [unkTo_len]; exact hi)]
   by_cases e : v = i
   · subst e; simp [unkTo_len, hi]
   · have : ¬ i = v := fun h => e h.symm
     simp [e, this]
 · rw [List.getElem?_eq_none (by rw [unkTo_len]; omega), List.getElem?_eq_none (by rw [List.length_set, unkTo_len]; omega)]
theorem lab_var {x : T.Nd} {v : Nat} (ho : x.op = 33) (hi : x.imm = v) (hv : v < 4) : ∀ i, i < 6 → lab i x = decide (i = v) := by
 intro i h
 unfold lab
 rw [ho, hi]
 by_cases h4 : i < 4
 · simp [h4]; omega
 · simp [h4]; omega
theorem lab_hole {x : T.Nd} {v : Nat} (ho : x.op = 34) (hi : x.imm = v) (hv : v < 2) : ∀ i, i < 6 → lab i x = decide (i = 4 + v) := by
 intro i h
 unfold lab
 rw [ho, hi]
 by_cases h4 : i < 4
 · simp [h4]; omega
 · simp [h4]; omega
theorem lab_other {x : T.Nd} (h1 : x.op ≠ 33) (h2 : x.op ≠ 34) (i : Nat) : lab i x = false := by
 unfold lab
 simp [h1, h2]
theorem nfold_len (a : Nat) : ∀ (q : List Int) (o : List Bool), (q.foldl (nstep a) o).length = o.length := by
 intro q
 induction q with
 | nil => intro o; rfl
 | cons c q ih => intro o; rw [List.foldl_cons, ih, nstep_len]
theorem need_len (p : List T.Nd) : (need p).length = p.length := by
 have h1 : ∀ (l : List Nat) (o : List Bool), (l.foldl (need1 p) o).length = o.length := by
  intro l
  induction l with
  | nil => intro o; rfl
  | cons a l ih => intro o; rw [List.foldl_cons, ih]; exact nfold_len a _ o
 unfold need
 rw [h1, List.length_set, List.length_replicate]
end R
def unkV (l : List Bool) : Value := .agg #[.bool (l.getD 0 false), .bool (l.getD 1 false), .bool (l.getD 2 false), .bool (l.getD 3 false), .bool (l.getD 4 false), .bool (l.getD 5 false)]
theorem gunknowns_any (all : Bool) (p : List T.Nd) (n cp : Nat) (Ap : Option Addr) (W : World) (hP : StAt 5 NdR W Ap n p) (hn1 : 1 ≤ n) (hn : n ≤ 1000000) (harg : ∀ x ∈ p, ∀ a ∈ x.args, 0 ≤ a ∧ a < (n : Int)) (him : ∀ x ∈ p, (x.op = 33 → x.imm < 4) ∧ (x.op = 34 → x.imm < 2)) :
 Calls Tryz.prog 125 #[.slice Ap n cp, .bool all] W fun e w' => e = .returned (unkV (R.unk all p)) ∧ Below W.heap.size W w' := by
 have HP := kH hP
 have Him := kH him
 have Hlen := kH hP.len
 obtain ⟨W1, hW1⟩ : ∃ W1, W1 = (W.alloc (.cells #[.bool false, .bool false, .bool false, .bool false, .bool false, .bool false] 180)).alloc (.cells #[.bool false, .bool false, .bool false, .bool false, .bool false, .bool false] 180) := ⟨_, rfl⟩
 have hb1 : Below W.heap.size W W1 := by rw [hW1]; exact (al0).alloc (by simp) _
 have HN := kH (gneeded_any p n cp Ap W1 (hP.below monoNd hb1) hn1 hn harg)
 have Hr0 := kH (show W1.heap[W.heap.size]? = some (.cells #[.bool false, .bool false, .bool false, .bool false, .bool false, .bool false] 180 (0, 0)) from by rw [hW1]; exact row_alloc (heap_alloc_new W _) _)
 have Hr1 := kH (show W1.heap[W.heap.size + 1]? = some (.cells #[.bool false, .bool false, .bool false, .bool false, .bool false, .bool false] 180 (0, 0)) from by rw [hW1]; exact new_two W _ _)
 have Hb1 := kH hb1
 have hs1 : W1.heap.size = W.heap.size + 2 := by rw [hW1]; simp
 clear hP him hb1 harg
 go_enter Tryz.func125, Tryz.ntmps125
 go_wp2_with fail
 rw [← hW1]
 clear hW1
 (with_reducible refine HN.out.mono ?_)
 rintro e w2 ⟨gn, rfl, hgn, hb2, hrn⟩
 have hs2 := hb2.size
 have Hr02 := kH (row_step (kH hb2) Hr0.out)
 have Hr12 := kH (row_step (kH hb2) Hr1.out)
 have Hb2 := kH (Hb1.out.trans (hb2.mono Hb1.out.size))
 have Hrn := kH hrn
 clear hb2 HN Hr0 Hr1 Hb1 hrn
 go_wp2
 go_loopg [13] (n + 1) (fun g i wr => ∃ (j : Nat), j ≤ n ∧ i = .int .i64 (j : Int) ∧ g + j = n + 1 ∧ Below W.heap.size W wr ∧ Hid (wr.heap[W.heap.size + 1]? = some (.cells ((R.unkTo all p j).map Value.bool).toArray 180 (0, 0))) ∧ Hid (wr.heap[W.heap.size]? = some (.cells #[.bool false, .bool false, .bool false, .bool false, .bool false, .bool false] 180 (0, 0))) ∧ Hid (wr.heap[gn]? = some (.cells ((R.need p).map Value.bool).toArray 4 (0, 0))))
 case atStart => exact ⟨0, Nat.zero_le _, rfl, rfl, Hb2.out, Hr12, Hr02, Hrn⟩
 case round =>
  clear Hb2 Hr12 Hr02 Hrn
  obtain ⟨j, hj, rfl, hgk, hbw, HU, HZ, HNe⟩ := hrel
  have Hgk := kH hgk; clear hgk
  by_cases hlt : j < n
  · obtain ⟨x, b, off, A, c, hx, rfl, hb, h0, h1, h2, h3, h4, hs, i0, i1⟩ := nd_cells HP.out hlt
    have k0 := (hbw.cell (p := ⟨b, off + j * 5, none⟩) hb).trans h0
    have k1 := (hbw.cell (p := ⟨b, off + j * 5 + 1, none⟩) hb).trans h1
    have k2 := (hbw.cell (p := ⟨b, off + j * 5 + 2, none⟩) hb).trans h2
    have k3 := (hbw.cell (p := ⟨b, off + j * 5 + 3, none⟩) hb).trans h3
    have k4 := (hbw.cell (p := ⟨b, off + j * 5 + 4, none⟩) hb).trans h4
    obtain ⟨bn, hbn⟩ : ∃ bn, (R.need p)[j]? = some bn := ⟨_, List.getElem?_eq_getElem (by rw [R.need_len, Hlen.out]; exact hlt)⟩
    have Hx := kH hx
    have Hbn := kH hbn
    have hbs := hbw.size
    have hlt1 : W.heap.size + 1 < wr.heap.size := (gA HU.out).1
    obtain ⟨l1, l2⟩ := Him.out x (List.mem_of_getElem? hx)
    obtain ⟨op, w, fl, args, imm⟩ := x
    dsimp only at k0 k1 k2 k3 k4 l1 l2 i0 i1
    have HbwR := kH hbw
    have Hbw := kH (hbw.alloc hbw.size (.cells #[.int .i64 op, .int .i64 w, .int .i64 fl, .slice A args.length c, .int .u32 imm] 62))
    have HU1 := kH (row_alloc HU.out (.cells #[.int .i64 op, .int .i64 w, .int .i64 fl, .slice A args.length c, .int .u32 imm] 62))
    have HZ1 := kH (row_alloc HZ.out (.cells #[.int .i64 op, .int .i64 w, .int .i64 fl, .slice A args.length c, .int .u32 imm] 62))
    have HN1 := kH (row_alloc HNe.out (.cells #[.int .i64 op, .int .i64 w, .int .i64 fl, .slice A args.length c, .int .u32 imm] 62))
    have hcn : (wr.alloc (.cells #[.int .i64 op, .int .i64 w, .int .i64 fl, .slice A args.length c, .int .u32 imm] 62)).cell? ⟨gn, j, none⟩ = some (.bool bn) := by
     rw [cell_of_row _ _ _ _ _ (0, 0) HN1.out, List.getElem?_toArray, List.getElem?_map, hbn]; rfl
    clear h0 h1 h2 h3 h4 hs hb hbw hx hbn
    have hab : (all = false ∧ bn = false) ∨ (all = true ∨ (all = false ∧ bn = true)) := by cases all <;> cases bn <;> simp
    rcases hab with ⟨rfl, rfl⟩ | hab
    · have HE := kH (R.unkTo_same (all := false) Hx.out Hbn.out (fun i _ => rfl))
      rw [← HE.out] at HU1
      clear i0 i1 l1 l2
      go_wp2
      go_roundg (gk - 1)
      case measure => have := Hgk.out; omega
      case rel => have := Hgk.out; exact ⟨j + 1, by omega, by go_num, by omega, Hbw.out, HU1, HZ1, HN1⟩
    have Hab := kH (show (all || bn) = true from by rcases hab with rfl | ⟨rfl, rfl⟩ <;> simp)
    by_cases o33 : op = 33
    · have hv4 := l1 o33
      obtain ⟨v, rfl⟩ : ∃ v : Nat, imm = v := ⟨imm.toNat, by omega⟩
      have hv : v < 4 := by omega
      have HE := kH (R.unkTo_set Hx.out Hbn.out Hab.out (v := v) (by omega) (R.lab_var (x := ⟨op, w, fl, args, (v : Int)⟩) o33 rfl hv))
      subst o33
      obtain ⟨z, hz⟩ : ∃ z, (R.unkTo all p j)[v]? = some z := ⟨_, List.getElem?_eq_getElem (by rw [R.unkTo_len]; omega)⟩
      have hcz : (wr.alloc (.cells #[.int .i64 33, .int .i64 w, .int .i64 fl, .slice A args.length c, .int .u32 (v : Int)] 62)).cell? ⟨W.heap.size + 1, v, none⟩ = some (.bool z) := by
       rw [cell_of_row _ _ _ _ _ (0, 0) HU1.out, List.getElem?_toArray, List.getElem?_map, hz]; rfl
      have hfz := frozen_row HU1.out v
      have HU2 := kH (show ((wr.setCell ⟨W.heap.size + 1, v, none⟩ (.bool true)).alloc (.cells #[.int .i64 33, .int .i64 w, .int .i64 fl, .slice A args.length c, .int .u32 (v : Int)] 62)).heap[W.heap.size + 1]? = some (.cells ((R.unkTo all p (j + 1)).map Value.bool).toArray 180 (0, 0)) from by
       refine row_alloc ?_ _
       rw [heap_setCell_same _ _ _ _ _ _ HU.out, HE.out]
       simp [List.map_set])
      have HZ2 := kH (show ((wr.setCell ⟨W.heap.size + 1, v, none⟩ (.bool true)).alloc (.cells #[.int .i64 33, .int .i64 w, .int .i64 fl, .slice A args.length c, .int .u32 (v : Int)] 62)).heap[W.heap.size]? = some (.cells #[.bool false, .bool false, .bool false, .bool false, .bool false, .bool false] 180 (0, 0)) from row_alloc ((heap_setCell_other _ _ _ _ (by simp)).trans HZ.out) _)
      have HN2 := kH (show ((wr.setCell ⟨W.heap.size + 1, v, none⟩ (.bool true)).alloc (.cells #[.int .i64 33, .int .i64 w, .int .i64 fl, .slice A args.length c, .int .u32 (v : Int)] 62)).heap[gn]? = some (.cells ((R.need p).map Value.bool).toArray 4 (0, 0)) from row_alloc ((heap_setCell_other _ _ _ _ (by simp; omega)).trans HNe.out) _)
      have Hb2 := kH (show Below W.heap.size W ((wr.setCell ⟨W.heap.size + 1, v, none⟩ (.bool true)).alloc (.cells #[.int .i64 33, .int .i64 w, .int .i64 fl, .slice A args.length c, .int .u32 (v : Int)] 62)) from (HbwR.out.setCell (p := ⟨W.heap.size + 1, v, none⟩) (by simp) _).alloc (by simp; exact HbwR.out.size) _)
      clear hz l1 l2 hv4 i0 i1
      rcases hab with rfl | ⟨rfl, rfl⟩
      · clear hcn
        go_wp2
        go_roundg (gk - 1)
        case measure => have := Hgk.out; omega
        case rel => have := Hgk.out; exact ⟨j + 1, by omega, by go_num, by omega, Hb2.out, HU2, HZ2, HN2⟩
      · go_wp2
        go_roundg (gk - 1)
        case measure => have := Hgk.out; omega
        case rel => have := Hgk.out; exact ⟨j + 1, by omega, by go_num, by omega, Hb2.out, HU2, HZ2, HN2⟩
    have q33 : (op == 33) = false := by simpa using o33
    by_cases o34 : op = 34
    · have hv4 := l2 o34
      obtain ⟨v, rfl⟩ : ∃ v : Nat, imm = v := ⟨imm.toNat, by omega⟩
      have hv : v < 2 := by omega
      have HE := kH (R.unkTo_set Hx.out Hbn.out Hab.out (v := 4 + v) (by omega) (R.lab_hole (x := ⟨op, w, fl, args, (v : Int)⟩) o34 rfl hv))
      subst o34
      obtain ⟨z, hz⟩ : ∃ z, (R.unkTo all p j)[4 + v]? = some z := ⟨_, List.getElem?_eq_getElem (by rw [R.unkTo_len]; omega)⟩
      have hcz : (wr.alloc (.cells #[.int .i64 34, .int .i64 w, .int .i64 fl, .slice A args.length c, .int .u32 (v : Int)] 62)).cell? ⟨W.heap.size + 1, 4 + v, none⟩ = some (.bool z) := by
       rw [cell_of_row _ _ _ _ _ (0, 0) HU1.out, List.getElem?_toArray, List.getElem?_map, hz]; rfl
      have hfz := frozen_row HU1.out (4 + v)
      have HU2 := kH (show ((wr.setCell ⟨W.heap.size + 1, 4 + v, none⟩ (.bool true)).alloc (.cells #[.int .i64 34, .int .i64 w, .int .i64 fl, .slice A args.length c, .int .u32 (v : Int)] 62)).heap[W.heap.size + 1]? = some (.cells ((R.unkTo all p (j + 1)).map Value.bool).toArray 180 (0, 0)) from by
       refine row_alloc ?_ _
       rw [heap_setCell_same _ _ _ _ _ _ HU.out, HE.out]
       simp [List.map_set])
      have HZ2 := kH (show ((wr.setCell ⟨W.heap.size + 1, 4 + v, none⟩ (.bool true)).alloc (.cells #[.int .i64 34, .int .i64 w, .int .i64 fl, .slice A args.length c, .int .u32 (v : Int)] 62)).heap[W.heap.size]? = some (.cells #[.bool false, .bool false, .bool false, .bool false, .bool false, .bool false] 180 (0, 0)) from row_alloc ((heap_setCell_other _ _ _ _ (by simp)).trans HZ.out) _)
      have HN2 := kH (show ((wr.setCell ⟨W.heap.size + 1, 4 + v, none⟩ (.bool true)).alloc (.cells #[.int .i64 34, .int .i64 w, .int .i64 fl, .slice A args.length c, .int .u32 (v : Int)] 62)).heap[gn]? = some (.cells ((R.need p).map Value.bool).toArray 4 (0, 0)) from row_alloc ((heap_setCell_other _ _ _ _ (by simp; omega)).trans HNe.out) _)
      have Hb2 := kH (show Below W.heap.size W ((wr.setCell ⟨W.heap.size + 1, 4 + v, none⟩ (.bool true)).alloc (.cells #[.int .i64 34, .int .i64 w, .int .i64 fl, .slice A args.length c, .int .u32 (v : Int)] 62)) from (HbwR.out.setCell (p := ⟨W.heap.size + 1, 4 + v, none⟩) (by simp) _).alloc (by simp; exact HbwR.out.size) _)
      clear hz l1 l2 hv4 i0 i1 q33
      rcases hab with rfl | ⟨rfl, rfl⟩
      · clear hcn
        go_wp2
        go_roundg (gk - 1)
        case measure => have := Hgk.out; omega
        case rel => have := Hgk.out; exact ⟨j + 1, by omega, by go_num, by omega, Hb2.out, HU2, HZ2, HN2⟩
      · go_wp2
        go_roundg (gk - 1)
        case measure => have := Hgk.out; omega
        case rel => have := Hgk.out; exact ⟨j + 1, by omega, by go_num, by omega, Hb2.out, HU2, HZ2, HN2⟩
    have q34 : (op == 34) = false := by simpa using o34
    have HE := kH (R.unkTo_same (all := all) Hx.out Hbn.out (fun i _ => by rw [R.lab_other (x := ⟨op, w, fl, args, imm⟩) o33 o34, Bool.and_false]))
    rw [← HE.out] at HU1
    clear i0 i1 l1 l2 o33 o34
    rcases hab with rfl | ⟨rfl, rfl⟩
    · clear hcn
      go_wp2
      go_roundg (gk - 1)
      case measure => have := Hgk.out; omega
      case rel => have := Hgk.out; exact ⟨j + 1, by omega, by go_num, by omega, Hbw.out, HU1, HZ1, HN1⟩
    · go_wp2
      go_roundg (gk - 1)
      case measure => have := Hgk.out; omega
      case rel => have := Hgk.out; exact ⟨j + 1, by omega, by go_num, by omega, Hbw.out, HU1, HZ1, HN1⟩
  · obtain rfl : j = n := by omega
    have e : R.unkTo all p j = R.unk all p := by unfold R.unk; rw [Hlen.out]
    rw [e] at HU
    have hul : (R.unk all p).length = 6 := R.unkTo_len _ _ _
    obtain ⟨b0, b1, b2, b3, b4, b5, hu⟩ : ∃ b0 b1 b2 b3 b4 b5, R.unk all p = [b0, b1, b2, b3, b4, b5] := by
     revert hul
     generalize R.unk all p = u
     intro hul
     match u, hul with
     | [b0, b1, b2, b3, b4, b5], _ => exact ⟨_, _, _, _, _, _, rfl⟩
    rw [hu] at HU
    have Hu := kH hu
    clear hu
    have c0 : wr.cell? ⟨W.heap.size + 1, 0, none⟩ = some (.bool b0) := by rw [cell_of_row _ _ _ _ _ (0, 0) HU.out]; rfl
    have c1 : wr.cell? ⟨W.heap.size + 1, 1, none⟩ = some (.bool b1) := by rw [cell_of_row _ _ _ _ _ (0, 0) HU.out]; rfl
    have c2 : wr.cell? ⟨W.heap.size + 1, 2, none⟩ = some (.bool b2) := by rw [cell_of_row _ _ _ _ _ (0, 0) HU.out]; rfl
    have c3 : wr.cell? ⟨W.heap.size + 1, 3, none⟩ = some (.bool b3) := by rw [cell_of_row _ _ _ _ _ (0, 0) HU.out]; rfl
    have c4 : wr.cell? ⟨W.heap.size + 1, 4, none⟩ = some (.bool b4) := by rw [cell_of_row _ _ _ _ _ (0, 0) HU.out]; rfl
    have c5 : wr.cell? ⟨W.heap.size + 1, 5, none⟩ = some (.bool b5) := by rw [cell_of_row _ _ _ _ _ (0, 0) HU.out]; rfl
    have z0 : wr.cell? ⟨W.heap.size, 0, none⟩ = some (.bool false) := by rw [cell_of_row _ _ _ _ _ (0, 0) HZ.out]; rfl
    have f0 := frozen_row HZ.out 0
    have z1 : wr.cell? ⟨W.heap.size, 1, none⟩ = some (.bool false) := by rw [cell_of_row _ _ _ _ _ (0, 0) HZ.out]; rfl
    have f1 := frozen_row HZ.out 1
    have z2 : wr.cell? ⟨W.heap.size, 2, none⟩ = some (.bool false) := by rw [cell_of_row _ _ _ _ _ (0, 0) HZ.out]; rfl
    have f2 := frozen_row HZ.out 2
    have z3 : wr.cell? ⟨W.heap.size, 3, none⟩ = some (.bool false) := by rw [cell_of_row _ _ _ _ _ (0, 0) HZ.out]; rfl
    have f3 := frozen_row HZ.out 3
    have z4 : wr.cell? ⟨W.heap.size, 4, none⟩ = some (.bool false) := by rw [cell_of_row _ _ _ _ _ (0, 0) HZ.out]; rfl
    have f4 := frozen_row HZ.out 4
    have z5 : wr.cell? ⟨W.heap.size, 5, none⟩ = some (.bool false) := by rw [cell_of_row _ _ _ _ _ (0, 0) HZ.out]; rfl
    have f5 := frozen_row HZ.out 5
    have HR := kH (show ((((((wr.setCell ⟨W.heap.size, 0, none⟩ (.bool b0)).setCell ⟨W.heap.size, 1, none⟩ (.bool b1)).setCell ⟨W.heap.size, 2, none⟩ (.bool b2)).setCell ⟨W.heap.size, 3, none⟩ (.bool b3)).setCell ⟨W.heap.size, 4, none⟩ (.bool b4)).setCell ⟨W.heap.size, 5, none⟩ (.bool b5)).heap[W.heap.size]? = some (.cells #[.bool b0, .bool b1, .bool b2, .bool b3, .bool b4, .bool b5] 180 (0, 0)) from by
     rw [heap_setCell_same _ _ _ _ _ _ (heap_setCell_same _ _ _ _ _ _ (heap_setCell_same _ _ _ _ _ _ (heap_setCell_same _ _ _ _ _ _ (heap_setCell_same _ _ _ _ _ _ (heap_setCell_same _ _ _ _ _ _ HZ.out)))))]
     rfl)
    have HbR := kH (show Below W.heap.size W ((((((wr.setCell ⟨W.heap.size, 0, none⟩ (.bool b0)).setCell ⟨W.heap.size, 1, none⟩ (.bool b1)).setCell ⟨W.heap.size, 2, none⟩ (.bool b2)).setCell ⟨W.heap.size, 3, none⟩ (.bool b3)).setCell ⟨W.heap.size, 4, none⟩ (.bool b4)).setCell ⟨W.heap.size, 5, none⟩ (.bool b5)) from ((((((hbw.setCell (p := ⟨W.heap.size, 0, none⟩) (Nat.le_refl _) _).setCell (p := ⟨W.heap.size, 1, none⟩) (Nat.le_refl _) _).setCell (p := ⟨W.heap.size, 2, none⟩) (Nat.le_refl _) _).setCell (p := ⟨W.heap.size, 3, none⟩) (Nat.le_refl _) _).setCell (p := ⟨W.heap.size, 4, none⟩) (Nat.le_refl _) _).setCell (p := ⟨W.heap.size, 5, none⟩) (Nat.le_refl _) _))
    clear hbw e hul
    go_wp2
    refine bodyPost_ret (results_cell_row rfl _ _ W.heap.size _ _ (0, 0) _ rfl HR.out Tryz.underlying180 rfl (by kernel_rfl)) rfl ?_
    exact ⟨by rw [Hu.out]; rfl, HbR.out⟩
end
section
namespace R
theorem unk_left {p : List T.Nd} {i : Nat} (hi : i < 6) : (unk false p).getD i false = if i < 4 then occ p 33 i else occ p 34 ((i : Int) - 4) := by
 unfold unk unkTo occ
 rw [List.getD_eq_getElem?_getD, List.getElem?_map, List.getElem?_range hi]
 have e : (p.zip (need p)).take p.length = p.zip (need p) := List.take_of_length_le (by rw [List.length_zip]; omega)
 rw [e]
 simp only [Option.map_some, Option.getD_some, Bool.false_or]
 by_cases h : i < 4
 · rw [if_pos h]
   congr 1
   funext q
   unfold lab
   rw [if_pos h, Bool.and_assoc]
 · rw [if_neg h]
   congr 1
   funext q
   unfold lab
   rw [if_neg h, Bool.and_assoc]
theorem unk_right {p : List T.Nd} {i : Nat} (hi : i < 6) : (unk true p).getD i false = p.any (lab i) := by
 unfold unk unkTo
 rw [List.getD_eq_getElem?_getD, List.getElem?_map, List.getElem?_range hi]
 have e : (p.zip (need p)).take p.length = p.zip (need p) := List.take_of_length_le (by rw [List.length_zip]; omega)
 rw [e]
 simp only [Option.map_some, Option.getD_some, Bool.true_or, Bool.true_and]
 have h : ∀ (l : List T.Nd) (b : List Bool), l.length ≤ b.length → ((l.zip b).any fun q => lab i q.1) = l.any (lab i) := by
  intro l
  induction l with
  | nil => intro b _; rfl
  | cons x l ih =>
   intro b hb
   cases b with
   | nil => simp at hb
   | cons c b => rw [List.zip_cons_cons, List.any_cons, List.any_cons, ih b (by simpa using hb)]
 exact h _ _ (by rw [need_len]; exact Nat.le_refl _)
def within (r : Rl) : Bool := (List.range 6).all fun i => !(unk true r.right).getD i false || (unk false r.left).getD i false
theorem within_iff {r : Rl} (h : ∀ x ∈ r.right, (x.op = 33 ∨ x.op = 34) → 0 ≤ x.imm ∧ x.imm < 2) : (r.right.all fun x => (!decide (x.op = 33 ∨ x.op = 34)) || occ r.left x.op x.imm) = within r := by
 rw [Bool.eq_iff_iff]
 unfold within
 rw [List.all_eq_true, List.all_eq_true]
 constructor
 · intro hh i hi
   have hi6 : i < 6 := by simpa using hi
   rw [unk_right hi6, unk_left hi6]
   cases ha : r.right.any (lab i)
   · rfl
   obtain ⟨x, hx, hl⟩ := List.any_eq_true.1 ha
   have := hh x hx
   unfold lab at hl
   by_cases h4 : i < 4
   · rw [if_pos h4] at hl ⊢
     simp only [Bool.and_eq_true, decide_eq_true_eq] at hl
     obtain ⟨o, m⟩ := hl
     rw [← m, ← o]
     simpa [o] using this
   · rw [if_neg h4] at hl ⊢
     simp only [Bool.and_eq_true, decide_eq_true_eq] at hl
     obtain ⟨o, m⟩ := hl
     rw [← m, ← o]
     simpa [o] using this
 · intro hh x hx
   by_cases ho : x.op = 33 ∨ x.op = 34
   · obtain ⟨h0, h2⟩ := h x hx ho
     obtain ⟨v, hv⟩ : ∃ v : Nat, x.imm = v := ⟨x.imm.toNat, by omega⟩
     rcases ho with ho | ho
     · have := hh v (by simp; omega)
       rw [unk_right (by omega), unk_left (by omega), if_pos (by omega)] at this
       have ha : r.right.any (lab v) = true := List.any_eq_true.2 ⟨x, hx, by unfold lab; rw [if_pos (by omega)]; simp [ho, hv]⟩
       rw [ha] at this
       rw [ho, hv]
       simpa using this
     · have := hh (4 + v) (by simp; omega)
       have e : ((4 + v : Nat) : Int) - 4 = (v : Int) := by omega
       rw [unk_right (by omega), unk_left (by omega), if_neg (by omega), e] at this
       have ha : r.right.any (lab (4 + v)) = true := List.any_eq_true.2 ⟨x, hx, by unfold lab; rw [if_neg (by omega), e]; simp [ho, hv]⟩
       rw [ha] at this
       rw [ho, hv]
       simpa using this
   · simp [ho]
theorem pnode_imm {p : List T.Nd} {right : Bool} {k : Nat} {x : T.Nd} (h : pnode p right k x = true) (ho : x.op = 33 ∨ x.op = 34) : x.imm < 2 := by
 unfold pnode at h
 simp only [Bool.and_eq_true] at h
 have := h.2
 unfold pimmOk at this
 rw [if_neg (by omega), if_pos ho] at this
 simp only [Bool.and_eq_true, decide_eq_true_eq] at this
 exact this.2
theorem pnode_args {p : List T.Nd} {right : Bool} {k : Nat} {x : T.Nd} (h : pnode p right k x = true) : ∀ a ∈ x.args, 0 ≤ a ∧ a < (k : Int) := by
 unfold pnode at h
 simp only [Bool.and_eq_true] at h
 have := h.1.2
 unfold T.argsOk at this
 intro a ha
 have := List.all_eq_true.1 this a ha
 simpa using this
theorem pnode_len {p : List T.Nd} {right : Bool} {k : Nat} {x : T.Nd} (h : pnode p right k x = true) : (x.args.length : Int) = par x.op ∧ 0 ≤ par x.op := by
 unfold pnode at h
 simp only [Bool.and_eq_true, decide_eq_true_eq] at h
 obtain ⟨⟨⟨⟨⟨⟨h1, h2⟩, h3⟩, h4⟩, h5⟩, h6⟩, h7⟩ := h
 exact ⟨h2, h1⟩
theorem pnode_ar {p : List T.Nd} {right : Bool} {k : Nat} {x : T.Nd} (h : pnode p right k x = true) (h1 : 1 ≤ x.op) (h2 : x.op ≤ 18) : (x.args.length : Int) = T.ar x.op := by
 obtain ⟨e1, e2⟩ := pnode_len h
 by_cases hr : 16 ≤ x.op ∧ x.op ≤ 18
 · rw [par_none hr] at e2; omega
 · rw [e1, par_rar hr]
   unfold rar
   rw [if_neg (by omega), if_neg (by omega)]
end R
end
section
namespace R
open T (Nd F)
structure ROk (r : Rl) : Prop where
 lpos : 1 ≤ r.left.length
 llen : r.left.length ≤ 12
 rpos : 1 ≤ r.right.length
 rlen : r.right.length ≤ 12
 plen : r.pre.length ≤ 4
 lp : ∀ k x, r.left[k]? = some x → pnode r.left false k x = true
 rp : ∀ k x, r.right[k]? = some x → pnode r.right true k x = true
 cd : r.pre.all cdOk = true
 lt : ∀ x ∈ r.left, T.typed r.left x = true
 rt : ∀ x ∈ r.right, T.typed r.right x = true
 root : rootW r.left ≤ 1
 same : rootW r.right = rootW r.left
 occ : ∀ x ∈ r.right, (x.op = 33 ∨ x.op = 34) → occ r.left x.op x.imm = true
 cocc : ∀ c ∈ r.pre, R.occ r.left 34 c.hole = true
theorem all_zip {p : List Nd} {f : Nat → Nd → Bool} : (p.zipIdx.all fun q => f q.2 q.1) = true ↔ ∀ k x, p[k]? = some x → f k x = true := by
 rw [List.all_eq_true]
 constructor
 · intro h i x hx
   exact h (x, i) (List.mem_zipIdx_iff_getElem?.2 hx)
 · rintro h ⟨x, i⟩ hp
   exact h i x (List.mem_zipIdx_iff_getElem?.1 hp)
theorem rok_of {r : Rl} (h : rvalid r = 0) : ROk r := by
 unfold rvalid at h
 split at h
 · cases h
 rename_i h1
 split at h
 · cases h
 rename_i h2
 split at h
 · cases h
 rename_i h3
 split at h
 · cases h
 rename_i h4
 split at h
 · cases h
 rename_i h5
 simp only [Bool.not_eq_false, Bool.and_eq_true, decide_eq_true_eq] at h2 h3 h4 h5
 refine ⟨by omega, by omega, by omega, by omega, by omega, all_zip.1 h2.1, all_zip.1 h2.2, h3, fun x hx => List.all_eq_true.1 h4.1.1.1 x hx, fun x hx => List.all_eq_true.1 h4.1.1.2 x hx, h4.1.2, h4.2, fun x hx ho => ?_, fun c hc => List.all_eq_true.1 h5.2 c hc⟩
 have := List.all_eq_true.1 h5.1 x hx
 simp only [ho, decide_true, Bool.not_true, Bool.false_or] at this
 exact this
theorem ar_bd {op : Int} (h : 0 ≤ T.ar op) : 0 ≤ op ∧ op ≤ 33 ∧ T.ar op ≤ 3 := by
 unfold T.ar at h ⊢
 repeat' split at h
 all_goals first | omega | skip
 all_goals simp_all
 all_goals omega
theorem flOk_bd {op fl : Int} (h : flOk op fl = true) : 0 ≤ fl ∧ fl ≤ 4 := by
 unfold flOk at h
 split at h
 · simp at h; omega
 · split at h
   · simp at h; omega
   · simp at h; omega
section
end
theorem pnode_ord {p : List Nd} {right : Bool} (h : ∀ k x, p[k]? = some x → pnode p right k x = true) : T.Ord p := fun k x hx => pnode_args (h k x hx)
theorem pnode_flags {p : List Nd} {right : Bool} {k : Nat} {x : Nd} (h : pnode p right k x = true) : flOk x.op x.fl = true := by
 unfold pnode at h
 simp only [Bool.and_eq_true, decide_eq_true_eq] at h
 exact h.1.1.2
end R
end
section
namespace T
def InT (t : List Nd) (g : F) : Prop := ∃ k : Int, Rep t [k] g
theorem Rep.inj {out : List Nd} (hn : out.Nodup) {la : List Int} {f : F} (r : Rep out la f) : ∀ {lb : List Int}, Rep out lb f → la = lb := by
 induction r with
 | nil => intro lb s; cases s; rfl
 | @cons a la x kids rest h0 hx _ _ ih1 ih2 =>
  intro lb s
  generalize hg : F.cons x.op x.w x.fl x.imm kids rest = g at s
  cases s with
  | nil => cases hg
  | @cons b lb y kids' rest' h0' hx' hk' hr' =>
   injection hg with e1 e2 e3 e4 e5 e6
   subst e5
   subst e6
   have e := ih1 hk'
   have e' := ih2 hr'
   have exy : x = y := by
    obtain ⟨xo, xw, xf, xa, xi⟩ := x
    obtain ⟨yo, yw, yf, ya, yi⟩ := y
    dsimp only at *
    subst e1 e2 e3 e4 e
    rfl
   subst exy
   have h1 := (idx_at hn hx).2
   have h2 := (idx_at hn hx').2
   have : a = b := by omega
   rw [this, e']
def Cov (t out : List Nd) : Prop := ∀ (i : Int) (g : F), Rep out [i] g → InT t g
theorem cov_add {t out : List Nd} {y : Nd} {kids : F} (hc : Cov t out) (ho : Ord out) (hy : ∀ a ∈ y.args, 0 ≤ a ∧ a < (out.length : Int)) (hk : Rep out y.args kids) (ht : InT t (.cons y.op y.w y.fl y.imm kids .nil)) : Cov t (addN out y).1 := by
 unfold addN
 by_cases hm : y ∈ out
 · rw [if_pos hm]; exact hc
 · rw [if_neg hm]
   intro i f r
   rcases Int.lt_or_le i out.length with hi | hi
   · exact hc i f (r.cut ho hi)
   · cases r with
     | @cons _ _ x kids' rest h0 hx hk' hr =>
      cases hr
      have hi' : i.toNat = out.length := by
       have := (List.getElem?_eq_some_iff.1 hx).1
       simp at this
       omega
      rw [hi'] at hx
      simp at hx
      subst hx
      have e := (hk.mono (u := out ++ [y]) (fun k x hx => pre_at (List.prefix_append _ _) k x hx)).det hk'
      subst e
      exact ht
theorem cnn_cov {t : List Nd} {la : List Int} {f : F} (r : Rep t la f) : ∀ {out : List Nd}, out.Nodup → Ord out → Cov t out → Cov t (cnn f out).1 := by
 induction r with
 | nil => intro out _ _ hc; exact hc
 | @cons a la x kids rest h0 hx hk _ ih1 ih2 =>
  intro out hn ho hc
  have t1 := cnn_told kids hn ho
  have c1 := ih1 hn ho hc
  simp only [cnn]
  have s2 := addN_spec (y := ⟨x.op, x.w, x.fl, (cnn kids out).2, x.imm⟩) t1.nd
  have o2 := addN_ord (y := ⟨x.op, x.w, x.fl, (cnn kids out).2, x.imm⟩) t1.ord t1.lo
  exact ih2 s2.2.1 o2 (cov_add c1 t1.ord t1.lo t1.rep ⟨a, Rep.cons (x := x) h0 hx hk .nil⟩)
theorem nodup_le : ∀ (n : Nat) (l : List Nat), l.Nodup → (∀ a ∈ l, a < n) → l.length ≤ n := by
 intro n
 induction n with
 | zero =>
  intro l _ h
  cases l with
  | nil => simp
  | cons a l => have := h a (by simp); omega
 | succ n ih =>
  intro l hd h
  by_cases hm : n ∈ l
  · have h1 := List.length_erase_of_mem hm
    have h2 := ih (l.erase n) (hd.erase _) (fun a ha => by
     have ha' := List.mem_of_mem_erase ha
     have := h a ha'
     have hne : a ≠ n := fun e => by
      rw [List.Nodup.mem_erase_iff hd] at ha
      exact ha.1 e
     omega)
    omega
  · have := ih l hd (fun a ha => by
     have := h a ha
     have hne : a ≠ n := fun e => hm (e ▸ ha)
     omega)
    omega
theorem cov_len {t out : List Nd} (hn : out.Nodup) (ho : Ord out) (hc : Cov t out) : out.length ≤ t.length := by
 have h : ∀ i : Nat, ∃ k : Nat, i < out.length → (k < t.length ∧ ∀ g, Rep out [(i : Int)] g → Rep t [(k : Int)] g) := fun i => by
  by_cases hi : i < out.length
  · obtain ⟨g, hg⟩ := Rep.one ho hi
    obtain ⟨k, hk⟩ := hc i g hg
    have hk0 : 0 ≤ k ∧ k.toNat < t.length := by
     cases hk with
     | cons h0 hx _ _ => exact ⟨h0, (List.getElem?_eq_some_iff.1 hx).1⟩
    exact ⟨k.toNat, fun _ => ⟨hk0.2, fun g' hg' => by rw [hg'.det hg, Int.toNat_of_nonneg hk0.1]; exact hk⟩⟩
  · exact ⟨0, fun h => absurd h hi⟩
 obtain ⟨c, hcf⟩ := Classical.axiomOfChoice h
 have hnd : ((List.range out.length).map c).Nodup := by
  unfold List.Nodup
  rw [List.pairwise_map]
  refine List.Pairwise.imp_of_mem ?_ (List.nodup_range (n := out.length))
  intro i j hi hj hij e
  have hi := List.mem_range.1 hi
  have hj := List.mem_range.1 hj
  obtain ⟨g, hg⟩ := Rep.one ho hi
  obtain ⟨g', hg'⟩ := Rep.one ho hj
  have r1 := (hcf i hi).2 g hg
  have r2 := (hcf j hj).2 g' hg'
  rw [e] at r1
  have := r1.det r2
  subst this
  have := hg.inj hn hg'
  simp at this
  omega
 have := nodup_le t.length _ hnd (fun a ha => by
  obtain ⟨i, hi, rfl⟩ := List.mem_map.1 ha
  exact (hcf i (List.mem_range.1 hi)).1)
 simpa using this
theorem cov_nil (t : List Nd) : Cov t [] := fun i g r => by cases r with | cons h0 hx _ _ => simp at hx
end T
namespace R
open T (Nd F)
end R
end
section
namespace T
inductive Fin_ (t : List Nd) : List Nat → List Nd → List Nd → Prop where
 | nil {out : List Nd} : Fin_ t [] out out
 | cons {n : Nat} {S : List Nat} {f : F} {out res : List Nd} (r : Rep t [(n : Int)] f) (h : Fin_ t S (cnn f out).1 res) : Fin_ t (n :: S) out res
def untold (l : List Int) : Nat := l.countP fun v => decide (v < 0)
structure ShI (t : List Nd) (tab : List Int) (S : List Nat) (out res : List Nd) : Prop where
 nd : out.Nodup
 ord : Ord out
 len : tab.length = t.length
 told : ∀ (k : Nat) (v : Int), tab[k]? = some v → 0 ≤ v → ∃ f, Rep t [(k : Int)] f ∧ Rep out [v] f
 unt : ∀ n ∈ S, ∃ v, tab[n]? = some v ∧ v < 0
 asc : S.Pairwise (· < ·)
 lt : ∀ n ∈ S, n < t.length
 sz : out.length + untold tab ≤ t.length
 fin : Fin_ t S out res
theorem ShI.start {t : List Nd} {k : Nat} {f : F} (hk : k < t.length) (hf : Rep t [(k : Int)] f) : ShI t (List.replicate t.length (-1)) [k] [] (canon f) := by
 refine ⟨List.nodup_nil, ord_nil, by simp, fun j v hv h0 => ?_, fun n hn => ?_, by simp, fun n hn => ?_, ?_, .cons hf .nil⟩
 · rw [List.getElem?_replicate] at hv
   split at hv
   · cases hv; omega
   · cases hv
 · simp at hn; subst hn
   exact ⟨-1, by rw [List.getElem?_replicate, if_pos hk], by omega⟩
 · simp at hn; subst hn; exact hk
 · have := List.countP_le_length (p := fun v : Int => decide (v < 0)) (l := List.replicate t.length (-1))
   simp only [List.length_nil, Nat.zero_add, T.untold]
   simpa using this
theorem asc_len {S : List Nat} {n : Nat} (h : S.Pairwise (· < ·)) (hl : ∀ x ∈ S, x < n) : S.length ≤ n := by
 have key : ∀ (S : List Nat) (lo : Nat), S.Pairwise (· < ·) → (∀ x ∈ S, lo ≤ x ∧ x < n) → lo ≤ n → lo + S.length ≤ n := by
  intro S
  induction S with
  | nil => intro lo _ _ h; simpa using h
  | cons x S ih =>
   intro lo hp hx h
   have h1 := hx x (by simp)
   rw [List.pairwise_cons] at hp
   have := ih (x + 1) hp.2 (fun y hy => ⟨hp.1 y hy, (hx y (by simp [hy])).2⟩) (by omega)
   simp only [List.length_cons]
   omega
 have := key S 0 h (fun x hx => ⟨Nat.zero_le _, hl x hx⟩) (Nat.zero_le _)
 omega
def miss (tab : List Int) : List Int → Int
 | [] => -1
 | a :: l => if tab.getD a.toNat 0 < 0 then a else miss tab l
theorem miss_none {tab : List Int} : ∀ {l : List Int}, (∀ a ∈ l, 0 ≤ a) → miss tab l < 0 → ∀ a ∈ l, 0 ≤ tab.getD a.toNat 0
 | [], _, _, a, ha => by simp at ha
 | b :: l, h0, h, a, ha => by
  unfold miss at h
  split at h
  · have := h0 b (by simp); omega
  · rcases List.mem_cons.1 ha with rfl | ha
    · omega
    · exact miss_none (fun c hc => h0 c (by simp [hc])) h a ha
theorem miss_some {tab : List Int} : ∀ {l : List Int}, 0 ≤ miss tab l → ∃ p q, l = p ++ miss tab l :: q ∧ (∀ a ∈ p, 0 ≤ tab.getD a.toNat 0) ∧ tab.getD (miss tab l).toNat 0 < 0
 | [], h => by simp [miss] at h
 | b :: l, h => by
  unfold miss at h ⊢
  by_cases e : tab.getD b.toNat 0 < 0
  · rw [if_pos e]
    exact ⟨[], l, rfl, fun a ha => by simp at ha, e⟩
  · rw [if_neg e] at h ⊢
    obtain ⟨p, q, h1, h2, h3⟩ := miss_some h
    refine ⟨b :: p, q, by rw [List.cons_append, ← h1], fun a ha => ?_, h3⟩
    rcases List.mem_cons.1 ha with rfl | ha
    · omega
    · exact h2 a ha
theorem getD_some {α : Type} {l : List α} {k : Nat} {d : α} (hk : k < l.length) : l[k]? = some (l.getD k d) := by
 rw [List.getD_eq_getElem?_getD, List.getElem?_eq_getElem hk]; rfl
theorem ShI.kids {t : List Nd} {tab : List Int} {S : List Nat} {out res : List Nd} (h : ShI t tab S out res) {l : List Int} (hl : ∀ a ∈ l, 0 ≤ a ∧ a < (t.length : Int)) (ht : ∀ a ∈ l, 0 ≤ tab.getD a.toNat 0) :
 ∃ f, Rep t l f ∧ Rep out (l.map fun a => tab.getD a.toNat 0) f := by
 induction l with
 | nil => exact ⟨.nil, .nil, .nil⟩
 | cons a l ih =>
  obtain ⟨f, h1, h2⟩ := ih (fun b hb => hl b (by simp [hb])) (fun b hb => ht b (by simp [hb]))
  have ha := hl a (by simp)
  obtain ⟨g, g1, g2⟩ := h.told a.toNat _ (getD_some (d := 0) (by rw [h.len]; omega)) (ht a (by simp))
  rw [Int.toNat_of_nonneg ha.1] at g1
  exact ⟨g.app f, g1.app h1, g2.app h2⟩
theorem Rep.split {t : List Nd} {p q : List Int} {f : F} (r : Rep t (p ++ q) f) : ∃ g h, f = g.app h ∧ Rep t p g ∧ Rep t q h := by
 induction p generalizing f with
 | nil => exact ⟨.nil, f, rfl, .nil, r⟩
 | cons a p ih =>
  cases r with
  | cons h0 hx hk hr =>
   obtain ⟨g, h, rfl, h1, h2⟩ := ih hr
   exact ⟨_, h, rfl, .cons h0 hx hk h1, h2⟩
theorem addN_len {out : List Nd} {y : Nd} : (addN out y).1.length ≤ out.length + 1 := by
 unfold addN; split <;> simp
theorem ShI.pop {t : List Nd} {tab : List Int} {n : Nat} {S : List Nat} {out res : List Nd} {x : Nd} (h : ShI t tab (n :: S) out res) (ho : Ord t) (hx : t[n]? = some x) (ht : ∀ a ∈ x.args, 0 ≤ tab.getD a.toNat 0) :
 ShI t (tab.set n (addN out ⟨x.op, x.w, x.fl, x.args.map fun a => tab.getD a.toNat 0, x.imm⟩).2) S (addN out ⟨x.op, x.w, x.fl, x.args.map fun a => tab.getD a.toNat 0, x.imm⟩).1 res ∧
 T.untold (tab.set n (addN out ⟨x.op, x.w, x.fl, x.args.map fun a => tab.getD a.toNat 0, x.imm⟩).2) + 1 = T.untold tab := by
 have hn : n < t.length := h.lt n (by simp)
 obtain ⟨kids, k1, k2⟩ := h.kids (l := x.args) (fun a ha => by have := ho n x hx a ha; omega) ht
 have hr : Rep t [(n : Int)] (.cons x.op x.w x.fl x.imm kids .nil) := Rep.cons (by omega) (by rw [Int.toNat_natCast]; exact hx) k1 .nil
 have hs := cnn_stable h.nd k2
 have hlo : ∀ a ∈ (x.args.map fun a => tab.getD a.toNat 0), 0 ≤ a ∧ a < (out.length : Int) := by
  intro a ha
  obtain ⟨b, hb, rfl⟩ := List.mem_map.1 ha
  have hb' := ho n x hx b hb
  obtain ⟨g, g1, g2⟩ := h.told b.toNat _ (getD_some (d := 0) (by rw [h.len]; omega)) (ht b hb)
  cases g2 with
  | cons h0 hx' _ _ => have := (List.getElem?_eq_some_iff.1 hx').1; omega
 generalize hy : (⟨x.op, x.w, x.fl, x.args.map fun a => tab.getD a.toNat 0, x.imm⟩ : Nd) = y
 have hya : y.args = x.args.map fun a => tab.getD a.toNat 0 := by rw [← hy]
 obtain ⟨a1, a2, a3, a4, a5⟩ := addN_spec (y := y) h.nd
 have a6 := addN_ord (y := y) h.ord (by rw [hya]; exact hlo)
 have a7 := addN_len (out := out) (y := y)
 obtain ⟨v0, hv0, hv1⟩ := h.unt n (by simp)
 have hnt : n < tab.length := by rw [h.len]; exact hn
 have hpw := h.asc
 rw [List.pairwise_cons] at hpw
 have hcount : T.untold (tab.set n (addN out y).2) + 1 = T.untold tab := by
  unfold T.untold
  have hpos : 0 < tab.countP fun v => decide (v < 0) := List.countP_pos_iff.2 ⟨v0, List.mem_of_getElem? hv0, by simpa using hv1⟩
  rw [List.countP_set (h := hnt)]
  have e1 : tab[n] = v0 := by rw [List.getElem?_eq_getElem hnt] at hv0; exact Option.some.inj hv0
  rw [e1, if_pos (by simpa using hv1), if_neg (by simp; omega)]
  omega
 refine ⟨⟨a2, a6, by rw [List.length_set]; exact h.len, ?_, ?_, hpw.2, fun m hm => h.lt m (by simp [hm]), by have := h.sz; omega, ?_⟩, hcount⟩
 · intro k v hv h0
   rw [List.getElem?_set] at hv
   split at hv
   · rename_i e
     subst e
     have hv : some (addN out y).2 = some v := by simpa [hnt] using hv
     cases hv
     refine ⟨_, hr, ?_⟩
     have : Rep (addN out y).1 [(addN out y).2] (.cons y.op y.w y.fl y.imm kids .nil) := Rep.cons a3 a5 (by rw [hya]; exact k2.mono (pre_at a1)) .nil
     rw [← hy] at this ⊢
     exact this
   · obtain ⟨f, f1, f2⟩ := h.told k v hv h0
     exact ⟨f, f1, f2.mono (pre_at a1)⟩
 · intro m hm
   obtain ⟨v, hv, hv'⟩ := h.unt m (by simp [hm])
   have := hpw.1 m hm
   exact ⟨v, by rw [List.getElem?_set_ne (by omega)]; exact hv, hv'⟩
 · have hf := h.fin
   cases hf with
   | cons r hrest =>
    have := r.det hr
    subst this
    have e : (cnn (.cons x.op x.w x.fl x.imm kids .nil) out).1 = (addN out y).1 := by
     simp only [cnn, hs, hy]
    rw [e] at hrest
    exact hrest
theorem ShI.push {t : List Nd} {tab : List Int} {n : Nat} {S : List Nat} {out res : List Nd} {x : Nd} (h : ShI t tab (n :: S) out res) (ho : Ord t) (hx : t[n]? = some x) (hm : 0 ≤ miss tab x.args) :
 ShI t tab ((miss tab x.args).toNat :: n :: S) out res ∧ (miss tab x.args).toNat < n := by
 obtain ⟨p, q, hpq, hp, hneg⟩ := miss_some hm
 generalize miss tab x.args = m at *
 have hmem : m ∈ x.args := by rw [hpq]; simp
 have hm2 := ho n x hx m hmem
 have hn : n < t.length := h.lt n (by simp)
 have hmn : m.toNat < n := by omega
 have hasc := h.asc
 refine ⟨⟨h.nd, h.ord, h.len, h.told, ?_, ?_, ?_, h.sz, ?_⟩, hmn⟩
 · intro k hk
   rcases List.mem_cons.1 hk with rfl | hk
   · exact ⟨_, getD_some (d := 0) (by rw [h.len]; omega), hneg⟩
   · exact h.unt k hk
 · rw [List.pairwise_cons]
   refine ⟨fun k hk => ?_, hasc⟩
   rcases List.mem_cons.1 hk with rfl | hk
   · exact hmn
   · rw [List.pairwise_cons] at hasc
     have := hasc.1 k hk
     omega
 · intro k hk
   rcases List.mem_cons.1 hk with rfl | hk
   · omega
   · exact h.lt k hk
 · have hf := h.fin
   cases hf with
   | @cons _ _ f _ _ r hrest =>
    cases r with
    | @cons _ _ x' kids rest h0 hx' hk hr =>
     cases hr
     rw [Int.toNat_natCast, hx] at hx'
     cases hx'
     rw [hpq] at hk
     obtain ⟨g1, g2, rfl, r1, r2⟩ := hk.split
     obtain ⟨gm, g3, rfl, r3, r4⟩ := Rep.split (p := [m]) (q := q) r2
     have r3' : Rep t [(m.toNat : Int)] gm := by rw [Int.toNat_of_nonneg hm]; exact r3
     refine .cons r3' (.cons (f := .cons x.op x.w x.fl x.imm (g1.app (gm.app g3)) .nil) ?_ ?_)
     · exact Rep.cons (by omega) (by rw [Int.toNat_natCast]; exact hx) (by rw [hpq]; exact r1.app (r3.app r4)) .nil
     · obtain ⟨fp, p1, p2⟩ := h.kids (l := p) (fun a ha => by have := ho n x hx a (by rw [hpq]; simp [ha]); omega) hp
       obtain rfl := p1.det r1
       have tm := cnn_told gm h.nd h.ord
       have s1 := cnn_stable h.nd p2
       have s2 := cnn_stable tm.nd (p2.mono (pre_at tm.pre))
       have s3 := cnn_again gm h.nd h.ord List.prefix_rfl tm.nd tm.ord
       have e : cnn (fp.app (gm.app g3)) (cnn gm out).1 = cnn (fp.app (gm.app g3)) out := by
        simp only [cnn_app, s1, s2, s3]
       have e2 : (cnn (.cons x.op x.w x.fl x.imm (fp.app (gm.app g3)) .nil) (cnn gm out).1).1 = (cnn (.cons x.op x.w x.fl x.imm (fp.app (gm.app g3)) .nil) out).1 := by
        simp only [cnn, e]
       rw [e2]
       exact hrest
theorem ShI.end_ {t : List Nd} {tab : List Int} {out res : List Nd} (h : ShI t tab [] out res) : out = res := by
 have := h.fin
 cases this with
 | nil => rfl
end T
end
end Go.Proofs.YtbiopedpceddeaaGreatDoor
