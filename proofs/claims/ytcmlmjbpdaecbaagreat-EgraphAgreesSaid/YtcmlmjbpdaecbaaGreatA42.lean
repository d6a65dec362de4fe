/- The values of a term: the program. -/
import Derived.Test.YtcmlmjbpdaecbaaGreatA41
import Derived.Test.YtcmlmjbpdaecbaaGreatA06
set_option linter.unusedVariables false
set_option linter.unusedSimpArgs false
namespace Go.Proofs.YtcmlmjbpdaecbaaGreat
open Go.RowKit
set_option linter.unusedVariables false
set_option linter.unusedSimpArgs false

theorem slAt_fill {W : World} {g n : Nat} {xs : List Int} {T : TypeId} (h : W.heap[g]? = some (.cells (fillC xs n).toArray T (0, 0))) (hl : xs.length ≤ n) (hn : n ≤ 1000000) : SlAt (IntR .u32) W (some ⟨g, 0, none⟩) n (xs ++ List.replicate (n - xs.length) 0) := by
  refine ⟨by simp; omega, by omega, fun k x hx => ⟨g, 0, .int .u32 x, rfl, (Array.getElem?_eq_some_iff.1 h).1, ?_, rfl⟩⟩
  rw [cell_of_row _ _ _ _ _ (0, 0) h, Nat.zero_add]
  have : fillC xs n = (xs ++ List.replicate (n - xs.length) 0).map (Value.int .u32) := by simp [fillC]
  rw [this, List.getElem?_toArray, List.getElem?_map, hx]
  rfl

theorem fill_zero {xs : List Int} {n : Nat} (h : xs.length < n) : fillC (xs ++ [0]) n = fillC xs n := by
  unfold fillC
  rw [List.map_append, List.append_assoc]
  congr 1
  obtain ⟨k, hk⟩ : ∃ k, n - xs.length = k + 1 := ⟨n - xs.length - 1, by omega⟩
  have e : n - (xs ++ [0]).length = k := by simp; omega
  rw [hk, e, List.replicate_succ]
  rfl

set_option maxRecDepth 100000 in
set_option maxHeartbeats 8000000 in
theorem pvalues_any (t : List T.Nd) (env : List Int) (n ct ce : Nat) (At Ae : Option Addr) (W : World) (hT : StAt 5 NdR W At n t) (hE : SlAt (IntR .u32) W Ae 4 env) (hS : T.Std t env) (hn : n ≤ 1000000) :
    Calls Tryz.prog 154 #[.slice At n ct, .slice Ae 4 ce] W fun e w' => ∃ g, e = .returned (.slice (some ⟨g, 0, none⟩) n n) ∧ W.heap.size ≤ g ∧ w'.heap[g]? = some (.cells ((T.vals t env).map (Value.int .u32)).toArray 61 (0, 0)) ∧ Below W.heap.size W w' := by
  have HT := Lib.hid hT
  have HE := Lib.hid hE
  have HS := Lib.hid hS
  have Hlen := Lib.hid hT.len
  have hle := hT.le
  clear hT hE hS
  have hmk := fun (W' : World) => run_make_n (P := Tryz.prog) 23 61 (.int .u32 0) 4 Tryz.underlying23 infoU32 rfl .i64 .i64 n (n : Int) rfl (by omega) (by omega) W'
  go_enter Tryz.func154, Tryz.ntmps154
  go_wp2
  clear hmk
  go_loopg [16] (n + 1) (fun g i wr => ∃ (j : Nat), j ≤ n ∧ i = .int .i64 (j : Int) ∧ g + j = n + 1 ∧ Below W.heap.size W wr ∧ W.heap.size + 1 < wr.heap.size ∧ Hid (wr.heap[W.heap.size]? = some (.cells (fillC (T.valsTo t env j) n).toArray 61 (0, 0))) ∧ Hid (wr.heap[W.heap.size + 1]? = some (.cells #[.slice (some ⟨W.heap.size, 0, none⟩) n n] 23 (0, 0))))
  case atStart => exact ⟨0, Nat.zero_le _, rfl, rfl, ((Below.refl _ _).alloc (Nat.le_refl _) _).alloc (by simp) _, by simp, Lib.hid (by rw [show (fillC (T.valsTo t env 0) n).toArray = Array.replicate n (.int .u32 0) from fillC_nil n]; exact row_alloc (heap_alloc_new W _) _), Lib.hid (new_two W _ _)⟩
  case round =>
    obtain ⟨j, hj, rfl, hgk, hbw, hsz, HG, HO⟩ := hrel
    have Hgk := Lib.hid hgk; clear hgk
    by_cases hlt : j < n
    · obtain ⟨x, b, off, A, c, hx, rfl, hb, h0, h1, h2, h3, h4, hs, i0, i1⟩ := nd_cells (HT.out.below monoNd hbw) hlt
      have Hx := Lib.hid hx
      have Hval := Lib.hid (show T.valsTo t env (j + 1) = T.valsTo t env j ++ [T.val t (T.valsTo t env j) env x] from by rw [T.valsTo, getD_of hx])
      have Hnod := Lib.hid (show T.Nod t env (T.valsTo t env j) x from HS.out.nod (T.valsTo_words HS.out j (by rw [Hlen.out]; omega)) (by rw [T.valsTo_len]; exact hx))
      obtain ⟨vv, hvv⟩ : ∃ vv, vv = T.val t (T.valsTo t env j) env x := ⟨_, rfl⟩
      rw [← hvv] at Hval
      have Hvv := Lib.hid hvv
      have Hs := Lib.hid hs
      have Hb := Lib.hid hbw
      obtain ⟨W1, hW1⟩ : ∃ W1, W1 = wr.alloc (.cells #[.int .i64 x.op, .int .i64 x.w, .int .i64 x.fl, .slice A x.args.length c, .int .u32 x.imm] 63) := ⟨_, rfl⟩
      have hB1 : Below wr.heap.size wr W1 := by rw [hW1]; exact (Below.refl _ _).alloc (Nat.le_refl _) _
      have hr1 : W1.heap[wr.heap.size]? = some (.cells #[.int .i64 x.op, .int .i64 x.w, .int .i64 x.fl, .slice A x.args.length c, .int .u32 x.imm] 63 (0, 0)) := by rw [hW1]; exact heap_alloc_new wr _
      have HB1 := Lib.hid hB1
      obtain ⟨ov⟩ := ov_ex W1
      have Hs1 := Lib.hid (show W1.heap.size = wr.heap.size + 1 from by rw [hW1]; simp)
      have hX : W1.cell? ⟨wr.heap.size, 0, none⟩ = some (.int .i64 x.op) ∧ W1.cell? ⟨wr.heap.size, 1, none⟩ = some (.int .i64 x.w) ∧ W1.cell? ⟨wr.heap.size, 3, none⟩ = some (.slice A x.args.length c) ∧ W1.cell? ⟨wr.heap.size, 4, none⟩ = some (.int .u32 x.imm) := by
        refine ⟨?_, ?_, ?_, ?_⟩
        all_goals rw [cell_of_row _ _ _ _ _ (0, 0) hr1]; rfl
      obtain ⟨x0, x1, x3, x4⟩ := hX
      have HG1 := Lib.hid (row_step HB1 HG.out)
      have HO1 := Lib.hid (row_step HB1 HO.out)
      have ho1 : W1.cell? ⟨W.heap.size + 1, 0, none⟩ = some (.slice (some ⟨W.heap.size, 0, none⟩) n n) := by rw [cell_of_row _ _ _ _ _ (0, 0) HO1.out]; rfl
      have Hb1 := Lib.hid (show Below W.heap.size W W1 from Hb.out.trans (HB1.out.mono Hb.out.size))
      have Hfin := Lib.hid (show ∀ (X : World) (u : Int), Below W1.heap.size W1 X → vv = u → Below W.heap.size W (X.setCell ⟨W.heap.size, j, none⟩ (.int .u32 u)) ∧ W.heap.size + 1 < (X.setCell ⟨W.heap.size, j, none⟩ (.int .u32 u)).heap.size ∧ Hid ((X.setCell ⟨W.heap.size, j, none⟩ (.int .u32 u)).heap[W.heap.size]? = some (.cells (fillC (T.valsTo t env (j + 1)) n).toArray 61 (0, 0))) ∧ Hid ((X.setCell ⟨W.heap.size, j, none⟩ (.int .u32 u)).heap[W.heap.size + 1]? = some (.cells #[.slice (some ⟨W.heap.size, 0, none⟩) n n] 23 (0, 0))) from fun X u hX hu => by
        have hXs := hX.size
        have e1 := Hs1.out
        refine ⟨(Hb1.out.trans (hX.mono Hb1.out.size)).setCell (p := ⟨W.heap.size, j, none⟩) (Nat.le_refl _) _, by simp; omega, Lib.hid ?_, Lib.hid ?_⟩
        · subst hu
          rw [Hval.out]
          exact fill_step (row_step (Lib.hid hX) HG1.out) (T.valsTo_len _ _ _) hlt
        · rw [heap_setCell_other _ _ _ _ (by simp)]
          exact row_step (Lib.hid hX) HO1.out)
      have HfinZ := Lib.hid (show ∀ (X : World), Below W1.heap.size W1 X → vv = 0 → Below W.heap.size W X ∧ W.heap.size + 1 < X.heap.size ∧ Hid (X.heap[W.heap.size]? = some (.cells (fillC (T.valsTo t env (j + 1)) n).toArray 61 (0, 0))) ∧ Hid (X.heap[W.heap.size + 1]? = some (.cells #[.slice (some ⟨W.heap.size, 0, none⟩) n n] 23 (0, 0))) from fun X hX hu => by
        have hXs := hX.size
        have e1 := Hs1.out
        refine ⟨Hb1.out.trans (hX.mono Hb1.out.size), by omega, Lib.hid ?_, Lib.hid (row_step (Lib.hid hX) HO1.out)⟩
        subst hu
        rw [Hval.out, fill_zero (by rw [T.valsTo_len]; exact hlt)]
        exact row_step (Lib.hid hX) HG1.out)
      have hsf : ∀ (X : World), Below W1.heap.size W1 X → (∃ v0, X.cell? ⟨W.heap.size, j, none⟩ = some v0) ∧ X.frozen? ⟨W.heap.size, j, none⟩ = false := fun X hX => by
        obtain ⟨q1, q2⟩ := fill_cell (row_step (Lib.hid hX) HG1.out) (a := j) (by rw [T.valsTo_len]; omega) hlt
        exact ⟨Option.isSome_iff_exists.1 q1, q2⟩
      have Hsf := Lib.hid hsf
      have HClo := Lib.hid (show ∀ (u : World) (i : Nat), i < x.args.length → 0 ≤ x.args.getD i 0 ∧ x.args.getD i 0 < (j : Int) → Calls Tryz.prog 171 #[.int .i64 (i : Int), .pointer (some ⟨W.heap.size + 1, 0, none⟩), .pointer (some ⟨wr.heap.size, 0, none⟩)] (ov.f u) (fun e w' => e = .returned (.int .u32 (T.at_ (T.valsTo t env j) x i)) ∧ ∃ m, w' = ov.f m) from fun u i hi ha => by
        have hV := (slAt_fill HG1.out (by rw [T.valsTo_len]; omega) hn).below (monoInt _) (ov.below u)
        have hA := (hs.below (monoInt _) hB1).below (monoInt _) (ov.below u)
        have := valClo_any _ x.args i (W.heap.size + 1) wr.heap.size n x.args.length c n _ A (ov.f u) hV hA (ov.cell ho1 u) (ov.cell x3 u) hi ⟨ha.1, by omega⟩
        have he : (T.valsTo t env j ++ List.replicate (n - (T.valsTo t env j).length) (0 : Int)).getD (x.args.getD i 0).toNat 0 = T.at_ (T.valsTo t env j) x i := by unfold T.at_; exact T.getD_l (by rw [T.valsTo_len]; omega)
        rw [he] at this
        exact calls_over_dr this)
      obtain ⟨op, w, fl, args, imm⟩ := x
      dsimp only at h0 h1 h2 h3 h4 x0 x1 x3 x4 i0 i1 hW1
      clear hx hvv hs hbw hB1 hr1 hsf
      have hcase : op = 0 ∨ op = 33 ∨ op = 14 ∨ op = 15 ∨ (16 ≤ op ∧ op ≠ 33) ∨ (op ≠ 0 ∧ op < 14) := by omega
      rcases hcase with rfl | rfl | rfl | rfl | ho | ho
      · have Hv := Lib.hid (show vv = imm from Hvv.out.trans (T.val_0 rfl))
        obtain ⟨⟨v0, hv0⟩, hf0⟩ := Hsf.out W1 (Below.refl _ _)
        subst hW1
        go_wp2
        obtain ⟨g1, g2, g3, g4⟩ := Hfin.out _ imm (Below.refl _ _) Hv.out
        go_roundg (gk - 1)
        case measure => have := Hgk.out; omega
        case rel => have := Hgk.out; exact ⟨j + 1, by omega, by go_num, by omega, g1, g2, g3, g4⟩
      · have Hi := Lib.hid (show imm < 4 from by have := Hnod.out.imm; unfold T.immOk at this; simpa using this)
        obtain ⟨v, rfl⟩ : ∃ v : Nat, imm = v := ⟨imm.toNat, by omega⟩
        have hv4 : v < 4 := by have := Hi.out; omega
        obtain ⟨y, be, offe, ue, hy, rfl, hbe, hce, hue⟩ := (HE.out.below (monoInt _) Hb1.out).at_ hv4
        obtain rfl : ue = .int .u32 y := hue
        have Hv := Lib.hid (show vv = y from by rw [Hvv.out, T.val_33 rfl]; exact getD_of hy)
        have o1 := ov.cell ho1
        have o2 := ov.cell hce
        have o3 := ov.cell x4
        clear hy hbe hce
        rw [hW1] at x0
        go_wp2
        rw [← hW1] at x0 ⊢
        clear hW1 h0 h1 h2 h3 h4
        refine wp_region_ov ov (by kernel_rfl) (by kernel_rfl) ?_
        dsimp only [headOf, lastOf]
        repeat (go_big_quiet_step (fail))
        refine wpQuiet_nil ?_
        clear o1 o2 o3 x0 x1 x3 x4
        rintro _ ⟨u, rfl⟩ K hK
        have hb2 := ov.below u
        obtain ⟨⟨v0, hv0⟩, hf0⟩ := Hsf.out _ hb2
        obtain ⟨g1, g2, g3, g4⟩ := Hfin.out _ (y) hb2 Hv.out
        generalize ov.f u = w2 at hv0 hf0 g1 g2 g3 g4 ⊢
        clear hb2
        go_wp2
        refine hK _ _ ?_
        clear hK K
        go_wp2
        go_roundg (gk - 1)
        case measure => have := Hgk.out; omega
        case rel => have := Hgk.out; exact ⟨j + 1, by omega, by go_num, by omega, g1, g2, g3, g4⟩
      · obtain ⟨hl, m0, m9, ew⟩ := Hnod.out.cmp rfl
        dsimp only at hl m0 m9
        have hlo0 := Hnod.out.lo 0 (by dsimp only at hl ⊢; omega)
        rw [T.valsTo_len] at hlo0
        dsimp only at hlo0
        have hlo1 := Hnod.out.lo 1 (by dsimp only at hl ⊢; omega)
        rw [T.valsTo_len] at hlo1
        dsimp only at hlo1
        have hzw0 := Hnod.out.wd 0 (by dsimp only at hl ⊢; omega)
        have ha0 := Hnod.out.at_ 0 (by dsimp only at hl ⊢; omega)
        have ha1 := Hnod.out.at_ 1 (by dsimp only at hl ⊢; omega)
        rw [ew] at ha1
        obtain ⟨a0, hga0⟩ : ∃ a0, a0 = T.at_ (T.valsTo t env j) ⟨14, w, fl, args, imm⟩ 0 := ⟨_, rfl⟩
        obtain ⟨a1, hga1⟩ : ∃ a1, a1 = T.at_ (T.valsTo t env j) ⟨14, w, fl, args, imm⟩ 1 := ⟨_, rfl⟩
        have HC0 := Lib.hid (show ∀ u, Calls Tryz.prog 171 #[.int .i64 0, .pointer (some ⟨W.heap.size + 1, 0, none⟩), .pointer (some ⟨wr.heap.size, 0, none⟩)] (ov.f u) (fun e w' => e = .returned (.int .u32 a0) ∧ ∃ m, w' = ov.f m) from fun u => by rw [hga0]; exact HClo.out u 0 (by dsimp only at hl ⊢; omega) hlo0)
        have HC1 := Lib.hid (show ∀ u, Calls Tryz.prog 171 #[.int .i64 1, .pointer (some ⟨W.heap.size + 1, 0, none⟩), .pointer (some ⟨wr.heap.size, 0, none⟩)] (ov.f u) (fun e w' => e = .returned (.int .u32 a1) ∧ ∃ m, w' = ov.f m) from fun u => by rw [hga1]; exact HClo.out u 1 (by dsimp only at hl ⊢; omega) hlo1)
        obtain ⟨y0, ba, offa, ua, hy, hA0, _, hca, hua⟩ := (Hs.out.below (monoInt _) HB1.out).at_ (k := 0) (show 0 < args.length by omega)
        subst hA0
        rw [Nat.add_zero] at hca
        obtain rfl : ua = .int .i64 y0 := hua
        have hlo9 := hlo0
        rw [getD_of hy] at hlo9
        obtain ⟨q, rfl⟩ : ∃ q : Nat, y0 = q := ⟨y0.toNat, by omega⟩
        have hqn : q < n := by omega
        obtain ⟨zz, bz, offz, A2, c2, hz, hAz, hbz, _, hw2, _⟩ := nd_cells (HT.out.below monoNd Hb1.out) (j := q) hqn
        cases hAz
        have ewd : T.wd t ⟨14, w, fl, args, imm⟩ 0 = zz.w := by unfold T.wd; dsimp only; rw [getD_of hy, Int.toNat_natCast, getD_of hz]
        obtain ⟨zw, hzw⟩ : ∃ zw, zw = zz.w := ⟨_, rfl⟩
        rw [← hzw] at ewd hw2
        have o5 := ov.cell hca
        have o6 := ov.cell hw2
        have hv9 := Hvv.out.trans (T.val_14 rfl)
        dsimp only at hv9
        rw [← hga0, ← hga1, ewd] at hv9
        rw [ewd] at ha0 ha1 hzw0
        rw [← hga0] at ha0
        rw [← hga1] at ha1
        have hQ := fun W' : World => pCompare_any imm zw a0 a1 W' m0 m9 hzw0.1 hzw0.2 ha0.1 ha0.2 ha1.1 ha1.2
        generalize T.cmp imm zw a0 a1 = cc at hv9 hQ
        have HQ := Lib.hid (show ∀ u, Calls Tryz.prog 172 #[.int .i64 imm, .int .i64 zw, .int .u32 a0, .int .u32 a1] (ov.f u) (fun e w' => e = .returned (.tuple #[.bool cc, .int .i64 0]) ∧ ∃ m, w' = ov.f m) from fun u => calls_over (hQ _))
        have hle3 := Hs.out.le
        dsimp only at hle3
        rw [hl] at h3 x3 hW1 hle3
        have o3 := ov.cell x4
        have o4 := ov.cell x3
        clear hQ hga0 hga1 hzw ewd hz hy ha0 ha1 ew hzw0 hlo0 hlo1 hlo9 HClo hl hca hw2 hbz m0 m9
        rw [hW1] at x0
        go_wp2
        rw [← hW1] at x0 ⊢
        clear hW1 h0 h1 h2 h3 h4
        refine wp_region_ovq ov (by kernel_rfl) (by kernel_rfl) ?_
        repeat (go_big_quiet_step ((first | (go_at_call 171; with_reducible exact HC0.out _) | (go_at_call 171; with_reducible exact HC1.out _) | (go_at_call 172; with_reducible exact HQ.out _))))
        refine wpQuiet_nil ?_
        clear o3 o4 o5 o6 x0 x1 x3 x4 HC0 HC1 HQ
        rintro _ ⟨u, rfl⟩
        have hb2 := ov.below u
        cases cc
        · have Hv := Lib.hid (show vv = 0 from by rw [hv9]; simp)
          clear hv9
          obtain ⟨g1, g2, g3, g4⟩ := HfinZ.out _ hb2 Hv.out
          generalize ov.f u = w2 at g1 g2 g3 g4 ⊢
          clear hb2
          go_wp2
          go_roundg (gk - 1)
          case measure => have := Hgk.out; omega
          case rel => have := Hgk.out; exact ⟨j + 1, by omega, by go_num, by omega, g1, g2, g3, g4⟩
        · have Hv := Lib.hid (show vv = 1 from by rw [hv9]; simp)
          clear hv9
          obtain ⟨⟨v0, hv0⟩, hf0⟩ := Hsf.out _ hb2
          obtain ⟨g1, g2, g3, g4⟩ := Hfin.out _ 1 hb2 Hv.out
          have ho2 := ov.cell ho1 u
          generalize ov.f u = w2 at hv0 hf0 g1 g2 g3 g4 ho2 ⊢
          clear hb2
          go_wp2
          go_roundg (gk - 1)
          case measure => have := Hgk.out; omega
          case rel => have := Hgk.out; exact ⟨j + 1, by omega, by go_num, by omega, g1, g2, g3, g4⟩
      · obtain ⟨hl, ew1, ew2, ha⟩ := Hnod.out.ite rfl
        dsimp only at hl
        have hlo0 := Hnod.out.lo 0 (by dsimp only at hl ⊢; omega)
        rw [T.valsTo_len] at hlo0
        dsimp only at hlo0
        have hlo1 := Hnod.out.lo 1 (by dsimp only at hl ⊢; omega)
        rw [T.valsTo_len] at hlo1
        dsimp only at hlo1
        have hlo2 := Hnod.out.lo 2 (by dsimp only at hl ⊢; omega)
        rw [T.valsTo_len] at hlo2
        dsimp only at hlo2
        obtain ⟨a0, hga0⟩ : ∃ a0, a0 = T.at_ (T.valsTo t env j) ⟨15, w, fl, args, imm⟩ 0 := ⟨_, rfl⟩
        obtain ⟨a1, hga1⟩ : ∃ a1, a1 = T.at_ (T.valsTo t env j) ⟨15, w, fl, args, imm⟩ 1 := ⟨_, rfl⟩
        obtain ⟨a2, hga2⟩ : ∃ a2, a2 = T.at_ (T.valsTo t env j) ⟨15, w, fl, args, imm⟩ 2 := ⟨_, rfl⟩
        have HC0 := Lib.hid (show ∀ u, Calls Tryz.prog 171 #[.int .i64 0, .pointer (some ⟨W.heap.size + 1, 0, none⟩), .pointer (some ⟨wr.heap.size, 0, none⟩)] (ov.f u) (fun e w' => e = .returned (.int .u32 a0) ∧ ∃ m, w' = ov.f m) from fun u => by rw [hga0]; exact HClo.out u 0 (by dsimp only at hl ⊢; omega) hlo0)
        have HC1 := Lib.hid (show ∀ u, Calls Tryz.prog 171 #[.int .i64 1, .pointer (some ⟨W.heap.size + 1, 0, none⟩), .pointer (some ⟨wr.heap.size, 0, none⟩)] (ov.f u) (fun e w' => e = .returned (.int .u32 a1) ∧ ∃ m, w' = ov.f m) from fun u => by rw [hga1]; exact HClo.out u 1 (by dsimp only at hl ⊢; omega) hlo1)
        have HC2 := Lib.hid (show ∀ u, Calls Tryz.prog 171 #[.int .i64 2, .pointer (some ⟨W.heap.size + 1, 0, none⟩), .pointer (some ⟨wr.heap.size, 0, none⟩)] (ov.f u) (fun e w' => e = .returned (.int .u32 a2) ∧ ∃ m, w' = ov.f m) from fun u => by rw [hga2]; exact HClo.out u 2 (by dsimp only at hl ⊢; omega) hlo2)
        have hv9 := Hvv.out.trans (T.val_15 rfl)
        rw [← hga0] at ha hv9
        have hv8 : (a0 = 0 ∧ vv = a2) ∨ (a0 = 1 ∧ vv = a1) := by
          rcases ha with h | h
          · left; refine ⟨h, ?_⟩; rw [hv9, h, hga2]; rfl
          · right; refine ⟨h, ?_⟩; rw [hv9, h, hga1]; rfl
        have hle3 := Hs.out.le
        dsimp only at hle3
        rw [hl] at h3 x3 hW1 hle3
        clear hv9 ha hga0 hga1 hga2 ew1 ew2 hlo0 hlo1 hlo2 HClo hl
        have o1 := ov.cell ho1
        rcases hv8 with ⟨rfl, hv7⟩ | ⟨rfl, hv7⟩
        · have Hv := Lib.hid hv7
          clear hv7
          rw [hW1] at x0
          go_wp2
          rw [← hW1] at x0 ⊢
          clear hW1 h0 h1 h2 h3 h4
          refine wp_region_ov ov (by kernel_rfl) (by kernel_rfl) ?_
          dsimp only [headOf, lastOf]
          repeat (go_big_quiet_step ((first | (go_at_call 171; with_reducible exact HC0.out _) | (go_at_call 171; with_reducible exact HC1.out _) | (go_at_call 171; with_reducible exact HC2.out _))))
          refine wpQuiet_nil ?_
          clear o1 x0 x1 x3 x4 HC0 HC1 HC2
          rintro _ ⟨u, rfl⟩ K hK
          have hb2 := ov.below u
          obtain ⟨⟨v0, hv0⟩, hf0⟩ := Hsf.out _ hb2
          obtain ⟨g1, g2, g3, g4⟩ := Hfin.out _ (a2) hb2 Hv.out
          generalize ov.f u = w2 at hv0 hf0 g1 g2 g3 g4 ⊢
          clear hb2
          go_wp2
          refine hK _ _ ?_
          clear hK K
          go_wp2
          go_roundg (gk - 1)
          case measure => have := Hgk.out; omega
          case rel => have := Hgk.out; exact ⟨j + 1, by omega, by go_num, by omega, g1, g2, g3, g4⟩
        · have Hv := Lib.hid hv7
          clear hv7
          rw [hW1] at x0
          go_wp2
          rw [← hW1] at x0 ⊢
          clear hW1 h0 h1 h2 h3 h4
          refine wp_region_ov ov (by kernel_rfl) (by kernel_rfl) ?_
          dsimp only [headOf, lastOf]
          repeat (go_big_quiet_step ((first | (go_at_call 171; with_reducible exact HC0.out _) | (go_at_call 171; with_reducible exact HC1.out _) | (go_at_call 171; with_reducible exact HC2.out _))))
          refine wpQuiet_nil ?_
          clear o1 x0 x1 x3 x4 HC0 HC1 HC2
          rintro _ ⟨u, rfl⟩ K hK
          have hb2 := ov.below u
          obtain ⟨⟨v0, hv0⟩, hf0⟩ := Hsf.out _ hb2
          obtain ⟨g1, g2, g3, g4⟩ := Hfin.out _ (a1) hb2 Hv.out
          generalize ov.f u = w2 at hv0 hf0 g1 g2 g3 g4 ⊢
          clear hb2
          go_wp2
          refine hK _ _ ?_
          clear hK K
          go_wp2
          go_roundg (gk - 1)
          case measure => have := Hgk.out; omega
          case rel => have := Hgk.out; exact ⟨j + 1, by omega, by go_num, by omega, g1, g2, g3, g4⟩
      · obtain ⟨hl, hok⟩ := Hnod.out.ext ho.1 ho.2
        have h3k : op = 16 ∨ op = 17 ∨ op = 18 := by
          rcases hok.kk with h | h | h
          · exact .inl h.1
          · exact .inr (.inl h.1)
          · exact .inr (.inr h.1)
        dsimp only at hl
        have hlo0 := Hnod.out.lo 0 (by dsimp only at hl ⊢; omega)
        rw [T.valsTo_len] at hlo0
        dsimp only at hlo0
        obtain ⟨a0, hga0⟩ : ∃ a0, a0 = T.at_ (T.valsTo t env j) ⟨op, w, fl, args, imm⟩ 0 := ⟨_, rfl⟩
        have HC0 := Lib.hid (show ∀ u, Calls Tryz.prog 171 #[.int .i64 0, .pointer (some ⟨W.heap.size + 1, 0, none⟩), .pointer (some ⟨wr.heap.size, 0, none⟩)] (ov.f u) (fun e w' => e = .returned (.int .u32 a0) ∧ ∃ m, w' = ov.f m) from fun u => by rw [hga0]; exact HClo.out u 0 (by dsimp only at hl ⊢; omega) hlo0)
        obtain ⟨y0, ba, offa, ua, hy, hA0, _, hca, hua⟩ := (Hs.out.below (monoInt _) HB1.out).at_ (k := 0) (show 0 < args.length by omega)
        subst hA0
        rw [Nat.add_zero] at hca
        obtain rfl : ua = .int .i64 y0 := hua
        have hlo9 := hlo0
        rw [getD_of hy] at hlo9
        obtain ⟨q, rfl⟩ : ∃ q : Nat, y0 = q := ⟨y0.toNat, by omega⟩
        have hqn : q < n := by omega
        obtain ⟨zz, bz, offz, A2, c2, hz, hAz, hbz, _, hw2, _⟩ := nd_cells (HT.out.below monoNd Hb1.out) (j := q) hqn
        cases hAz
        have ewd : T.wd t ⟨op, w, fl, args, imm⟩ 0 = zz.w := by unfold T.wd; dsimp only; rw [getD_of hy, Int.toNat_natCast, getD_of hz]
        obtain ⟨zw, hzw⟩ : ∃ zw, zw = zz.w := ⟨_, rfl⟩
        rw [← hzw] at ewd hw2
        have o5 := ov.cell hca
        have o6 := ov.cell hw2
        have hv9 := Hvv.out.trans (T.val_16 ho.1 ho.2)
        dsimp only at hv9 hok
        rw [← hga0, ewd] at hok hv9
        have HQ := Lib.hid (show ∀ u, Calls Tryz.prog 173 #[.int .i64 op, .int .i64 zw, .int .i64 w, .int .u32 a0] (ov.f u) (fun e w' => e = .returned (.tuple #[.int .u32 vv, .int .i64 0]) ∧ ∃ m, w' = ov.f m) from fun u => by rw [hv9]; exact calls_over (pExtend_any op zw w a0 _ hok))
        have hle3 := Hs.out.le
        dsimp only at hle3
        rw [hl] at h3 x3 hW1 hle3
        have o1 := ov.cell ho1
        have o2 := ov.cell x0
        have o3 := ov.cell x1
        have o4 := ov.cell x3
        clear hv9 hok hga0 hzw ewd hz hy hlo0 hlo9 HClo hl hca hw2 hbz ho
        rcases h3k with rfl | rfl | rfl
        all_goals
          skip
          rw [hW1] at x0
          go_wp2
          rw [← hW1] at x0 ⊢
          clear hW1 h0 h1 h2 h3 h4
          refine wp_region_ov ov (by kernel_rfl) (by kernel_rfl) ?_
          dsimp only [headOf, lastOf]
          repeat (go_big_quiet_step ((first | (go_at_call 171; with_reducible exact HC0.out _) | (go_at_call 173; with_reducible exact HQ.out _))))
          refine wpQuiet_nil ?_
          clear o1 o2 o3 o4 o5 o6 x0 x1 x3 x4 HC0 HQ
          rintro _ ⟨u, rfl⟩ K hK
          have hb2 := ov.below u
          obtain ⟨⟨v0, hv0⟩, hf0⟩ := Hsf.out _ hb2
          obtain ⟨g1, g2, g3, g4⟩ := Hfin.out _ (vv) hb2 rfl
          generalize ov.f u = w2 at hv0 hf0 g1 g2 g3 g4 ⊢
          clear hb2
          go_wp2
          refine hK _ _ ?_
          clear hK K
          go_wp2
          go_roundg (gk - 1)
          case measure => have := Hgk.out; omega
          case rel => have := Hgk.out; exact ⟨j + 1, by omega, by go_num, by omega, g1, g2, g3, g4⟩
      · obtain ⟨hl, o1', o13, ew0, ew1⟩ := Hnod.out.bin ho.1 ho.2
        dsimp only at hl
        have ha0 := Hnod.out.at_ 0 (by dsimp only at hl ⊢; omega)
        have ha1 := Hnod.out.at_ 1 (by dsimp only at hl ⊢; omega)
        rw [ew0] at ha0
        rw [ew1] at ha1
        have hw0 := Hnod.out.w0
        have hw1 := Hnod.out.w1
        dsimp only at o1' o13 ha0 ha1 hw0 hw1
        have hlo0 := Hnod.out.lo 0 (by dsimp only at hl ⊢; omega)
        rw [T.valsTo_len] at hlo0
        dsimp only at hlo0
        have hlo1 := Hnod.out.lo 1 (by dsimp only at hl ⊢; omega)
        rw [T.valsTo_len] at hlo1
        dsimp only at hlo1
        obtain ⟨a0, hga0⟩ : ∃ a0, a0 = T.at_ (T.valsTo t env j) ⟨op, w, fl, args, imm⟩ 0 := ⟨_, rfl⟩
        obtain ⟨a1, hga1⟩ : ∃ a1, a1 = T.at_ (T.valsTo t env j) ⟨op, w, fl, args, imm⟩ 1 := ⟨_, rfl⟩
        have HC0 := Lib.hid (show ∀ u, Calls Tryz.prog 171 #[.int .i64 0, .pointer (some ⟨W.heap.size + 1, 0, none⟩), .pointer (some ⟨wr.heap.size, 0, none⟩)] (ov.f u) (fun e w' => e = .returned (.int .u32 a0) ∧ ∃ m, w' = ov.f m) from fun u => by rw [hga0]; exact HClo.out u 0 (by dsimp only at hl ⊢; omega) hlo0)
        have HC1 := Lib.hid (show ∀ u, Calls Tryz.prog 171 #[.int .i64 1, .pointer (some ⟨W.heap.size + 1, 0, none⟩), .pointer (some ⟨wr.heap.size, 0, none⟩)] (ov.f u) (fun e w' => e = .returned (.int .u32 a1) ∧ ∃ m, w' = ov.f m) from fun u => by rw [hga1]; exact HClo.out u 1 (by dsimp only at hl ⊢; omega) hlo1)
        have hv9 := Hvv.out.trans (T.val_bin ho.1 ho.2)
        dsimp only at hv9
        rw [← hga0, ← hga1] at hv9
        rw [← hga0] at ha0
        rw [← hga1] at ha1
        have hpl := B.pw_le hw1
        have htot : B.total op w a0 a1 = (vv, 0) := by
          unfold B.total B.okOp B.isW
          rw [B.isWd_iff.2 ⟨hw0, hw1⟩, if_pos (by simp [o1', o13, ha0.2, ha1.2]), hv9]
        have HQ := Lib.hid (show ∀ u, Calls Tryz.prog 174 #[.int .i64 op, .int .i64 w, .int .u32 a0, .int .u32 a1] (ov.f u) (fun e w' => e = .returned (.tuple #[.int .u32 vv, .int .i64 0]) ∧ ∃ m, w' = ov.f m) from fun u => calls_over ((total_any op w a0 a1 _ (by simp [Lit.wf, IntKind.min, IntKind.max, IntKind.signed, IntKind.bits]; omega) ha0.1 ha1.1).mono fun e w' ⟨h1, h2⟩ => ⟨by rw [htot] at h1; exact h1, h2⟩))
        have hle3 := Hs.out.le
        dsimp only at hle3
        rw [hl] at h3 x3 hW1 hle3
        have q0 : (op == 0) = false := by simp; omega
        have q33 : (op == 33) = false := by simp; omega
        have q14 : (op == 14) = false := by simp; omega
        have q15 : (op == 15) = false := by simp; omega
        have q16 : decide (16 ≤ op) = false := by simp; omega
        have o1 := ov.cell ho1
        have o2 := ov.cell x0
        have o3 := ov.cell x1
        clear htot hpl hv9 hga0 hga1 hlo0 hlo1 HClo hl ho o1' o13 ew0 ew1 ha0 ha1 hw0 hw1
        skip
        rw [hW1] at x0
        go_wp2
        rw [← hW1] at x0 ⊢
        clear hW1 h0 h1 h2 h3 h4
        refine wp_region_ov ov (by kernel_rfl) (by kernel_rfl) ?_
        dsimp only [headOf, lastOf]
        repeat (go_big_quiet_step ((first | (go_at_call 171; with_reducible exact HC0.out _) | (go_at_call 171; with_reducible exact HC1.out _) | (go_at_call 174; with_reducible exact HQ.out _))))
        refine wpQuiet_nil ?_
        clear o1 o2 o3 x0 x1 x3 x4 HC0 HC1 HQ q0 q33 q14 q15 q16
        rintro _ ⟨u, rfl⟩ K hK
        have hb2 := ov.below u
        obtain ⟨⟨v0, hv0⟩, hf0⟩ := Hsf.out _ hb2
        obtain ⟨g1, g2, g3, g4⟩ := Hfin.out _ (vv) hb2 rfl
        generalize ov.f u = w2 at hv0 hf0 g1 g2 g3 g4 ⊢
        clear hb2
        go_wp2
        refine hK _ _ ?_
        clear hK K
        go_wp2
        go_roundg (gk - 1)
        case measure => have := Hgk.out; omega
        case rel => have := Hgk.out; exact ⟨j + 1, by omega, by go_num, by omega, g1, g2, g3, g4⟩
    · obtain rfl : j = n := by omega
      have hrow := HG.out
      rw [fillC_full (T.valsTo_len t env j), show T.valsTo t env j = T.vals t env from by unfold T.vals; rw [Hlen.out]] at hrow
      have ho1 : wr.cell? ⟨W.heap.size + 1, 0, none⟩ = some (.slice (some ⟨W.heap.size, 0, none⟩) j j) := by rw [cell_of_row _ _ _ _ _ (0, 0) HO.out]; rfl
      have Hrow := Lib.hid hrow
      have Hb := Lib.hid hbw
      clear hrow hbw
      go_wp2
      go_ret
      exact ⟨W.heap.size, rfl, Nat.le_refl _, Hrow.out, Hb.out⟩
end Go.Proofs.YtcmlmjbpdaecbaaGreat
