/- The value with flags of a term (the program). -/
import Derived.Test.YtbiopedpceddeaaGreatDoorN43
import Derived.Test.YtbiopedpceddeaaGreatDoorN14
import Derived.Test.YtbiopedpceddeaaGreatDoorN10
set_option linter.unusedVariables false
set_option linter.unusedSimpArgs false
namespace Go.Proofs.YtbiopedpceddeaaGreatDoor
open Go.RowKit Go.Maps
set_option linter.unusedVariables false
set_option linter.unusedSimpArgs false

theorem slAt_fill {W : World} {g n : Nat} {xs : List Int} {T : TypeId} (h : W.heap[g]? = some (.cells (fillC xs n).toArray T (0, 0))) (hl : xs.length ≤ n) (hn : n ≤ 1000000) : SlAt (IntR .u32) W (some ⟨g, 0, none⟩) n (xs ++ List.replicate (n - xs.length) 0) := by
  refine ⟨by simp; omega, by omega, fun k x hx => ⟨g, 0, .int .u32 x, rfl, (Array.getElem?_eq_some_iff.1 h).1, ?_, rfl⟩⟩
  rw [cell_of_row _ _ _ _ _ (0, 0) h, Nat.zero_add]
  have : fillC xs n = (xs ++ List.replicate (n - xs.length) 0).map (Value.int .u32) := by simp [fillC]
  rw [this, List.getElem?_toArray, List.getElem?_map, hx]
  rfl

theorem fill_zero {xs : List Int} {n : Nat} (h : xs.length < n) : fillC (xs ++ [0]) n = fillC xs n := by
  unfold fillC
  rw [List.map_append, List.append_assoc]
  congr 1
  obtain ⟨k, hk⟩ : ∃ k, n - xs.length = k + 1 := ⟨n - xs.length - 1, by omega⟩
  have e : n - (xs ++ [0]).length = k := by simp; omega
  rw [hk, e, List.replicate_succ]
  rfl

theorem all_snoc {α : Type} {p : α → Bool} {xs : List α} {k : Nat} {x : α} (hx : xs[k]? = some x) (h : (xs.take k).all p = true) (hp : p x = true) : (xs.take (k + 1)).all p = true := by
  rw [List.take_add_one, hx, List.all_append, h]
  simp [hp]
set_option maxRecDepth 100000 in
set_option maxHeartbeats 8000000 in
theorem gValue_any (t : List T.Nd) (env : List Int) (n ct ne ce : Nat) (At Ae : Option Addr) (W : World) (hT : StAt 5 NdR W At n t) (hE : SlAt (IntR .u32) W Ae ne env) (hew : ∀ x ∈ env, 0 ≤ x ∧ x < 4294967296) (hfl : R.flr t) :
    Calls Tryz.prog 15 #[.slice At n ct, .slice Ae ne ce] W fun e w' => e = .returned (.tuple #[.int .u32 (V.value t env).1, .int .i64 (V.value t env).2.1, .int .i64 (V.value t env).2.2]) ∧ Below W.heap.size W w' := by
  have HV := Lib.hid (gValidateFlagged_any t n ct At W hT hfl)
  have HT0 := Lib.hid hT
  have HE0 := Lib.hid hE
  have Hew := Lib.hid hew
  have hle := hT.le
  have hleE := hE.le
  have Hlen := Lib.hid hT.len
  have HlenE := Lib.hid hE.len
  have Hi := Lib.hid (nd_imm hT)
  obtain ⟨rv, hrv⟩ : ∃ rv, V.value t env = rv := ⟨_, rfl⟩
  rw [hrv]
  have Hrv := Lib.hid hrv
  clear hT hE hew hfl hrv
  by_cases hv : R.fvalid t = 0
  rotate_left
  · have Hf := Lib.hid (show rv = (0, 0, R.fvalid t) from by rw [← Hrv.out, V.value, if_pos hv])
    obtain ⟨z, hz⟩ : ∃ z, R.fvalid t = z := ⟨_, rfl⟩
    rw [hz] at hv HV Hf
    have q : (z != 0) = true := by simpa using hv
    clear hv hz
    go_enter Tryz.func15, Tryz.ntmps15
    go_wp2_with fail
    (with_reducible refine HV.out.mono ?_)
    rintro e w1 ⟨rfl, hb1⟩
    have Hb1 := Lib.hid hb1
    clear hb1
    go_wp2
    go_ret3
    exact ⟨by rw [Hf.out]; rfl, Hb1.out⟩
  rw [hv] at HV
  have Hv := Lib.hid hv
  clear hv
  by_cases he4 : ne = 4
  rotate_left
  · have q : ((ne : Int) != 4) = true := by simp; omega
    have Hf := Lib.hid (show rv = (0, 0, 1) from by rw [← Hrv.out, V.value, if_neg (by rw [Hv.out]; simp), if_pos (.inl (by rw [HlenE.out]; exact he4))])
    clear he4
    go_enter Tryz.func15, Tryz.ntmps15
    go_wp2_with fail
    (with_reducible refine HV.out.mono ?_)
    rintro e w1 ⟨rfl, hb1⟩
    have Hb1 := Lib.hid hb1
    clear hb1
    go_wp2
    go_ret3
    exact ⟨by rw [Hf.out]; rfl, Hb1.out⟩
  subst he4
  have Hp := Lib.hid (V.fvalid_val Hv.out).1
  have hn := (valid_ok Hp.out).2.1
  have hn1 := (valid_ok Hp.out).1
  rw [Hlen.out] at hn hn1
  have Hvar := Lib.hid (show ∀ (k : Nat) (x : T.Nd), t[k]? = some x → x.op = 33 → 0 ≤ x.imm ∧ x.imm < 4 from fun k x hx h33 => by
    have hs := (T.shaped_args ((valid_ok Hp.out).2.2.1 k x hx)).2.2.2.2.1
    unfold T.immOk at hs
    rw [if_neg (by omega), if_pos h33] at hs
    exact ⟨Hi.out x (List.mem_of_getElem? hx), by simpa using hs⟩)
  go_enter Tryz.func15, Tryz.ntmps15
  go_wp2_with fail
  (with_reducible refine HV.out.mono ?_)
  rintro e w1 ⟨rfl, hb1⟩
  have Hb1 := Lib.hid hb1
  clear hb1 HV
  go_wp2
  go_loopg [28] (n + 1) (fun g i wr => ∃ (j : Nat), j ≤ n ∧ i = .int .i64 (j : Int) ∧ g + j = n + 1 ∧ Hid (Below W.heap.size W wr) ∧ Hid ((t.take j).all (V.fit1 env) = true))
  case atStart => exact ⟨0, Nat.zero_le _, rfl, rfl, Hb1, Lib.hid rfl⟩
  case round =>
    obtain ⟨j, hj, rfl, hgk, Hbw, Hall⟩ := hrel
    have Hgk := Lib.hid hgk; clear hgk
    by_cases hlt : j < n
    · obtain ⟨x, b, off, A, c, hx, rfl, hb, h0, h1, h2, h3, h4, hs, i0, i1⟩ := nd_cells (HT0.out.below monoNd Hbw.out) hlt
      have Hx := Lib.hid hx
      obtain ⟨W1, hW1⟩ : ∃ W1, W1 = wr.alloc (.cells #[.int .i64 x.op, .int .i64 x.w, .int .i64 x.fl, .slice A x.args.length c, .int .u32 x.imm] 62) := ⟨_, rfl⟩
      have hB1 : Below wr.heap.size wr W1 := by rw [hW1]; exact (Below.refl _ _).alloc (Nat.le_refl _) _
      have hr1 : W1.heap[wr.heap.size]? = some (.cells #[.int .i64 x.op, .int .i64 x.w, .int .i64 x.fl, .slice A x.args.length c, .int .u32 x.imm] 62 (0, 0)) := by rw [hW1]; exact heap_alloc_new wr _
      have hX : W1.cell? ⟨wr.heap.size, 0, none⟩ = some (.int .i64 x.op) ∧ W1.cell? ⟨wr.heap.size, 1, none⟩ = some (.int .i64 x.w) ∧ W1.cell? ⟨wr.heap.size, 4, none⟩ = some (.int .u32 x.imm) := by
        refine ⟨?_, ?_, ?_⟩
        all_goals rw [cell_of_row _ _ _ _ _ (0, 0) hr1]; rfl
      obtain ⟨x0, x1, x4⟩ := hX
      have Hbn := Lib.hid (show Below W.heap.size W W1 from Hbw.out.trans (hB1.mono Hbw.out.size))
      have Hvx := Lib.hid (Hvar.out j x hx)
      clear hx hs hB1 hr1
      by_cases h33 : x.op = 33
      · have q33 : (x.op == 33) = true := by simp [h33]
        obtain ⟨m0, m4⟩ := Hvx.out h33
        obtain ⟨v, hvx⟩ : ∃ v : Nat, x.imm = v := ⟨x.imm.toNat, by omega⟩
        rw [hvx] at h4 x4 hW1 m4
        have hv4 : v < 4 := by omega
        obtain ⟨y, be, offe, ue, hy, rfl, hbe, hce, hue⟩ := (HE0.out.below (monoInt _) Hbn.out).at_ hv4
        obtain rfl : ue = .int .u32 y := hue
        obtain ⟨iw, hiw⟩ : ∃ iw, B.isW x.w y = iw := ⟨_, rfl⟩
        have Hfit := Lib.hid (show V.fit1 env x = iw from by
          unfold V.fit1
          rw [decide_eq_true h33, hvx, Int.toNat_natCast, getD_of hy, hiw]
          rfl)
        have hy0 := (Hew.out y (List.mem_of_getElem? hy)).1
        have HW := Lib.hid (fun X => gisWord_any x.w y X hy0)
        rw [hiw] at HW
        clear hy hiw hy0 h33 hvx hbe m0 m4
        obtain ⟨ov⟩ := ov_ex W1
        have o0 := ov.cell x0
        have o1 := ov.cell x1
        have o4 := ov.cell x4
        have oe := ov.cell hce
        have K1 := Lib.hid (fun u => calls_over_same (ov := ov) (HW.out (ov.f u)))
        go_upto_region 9 with (fail)
        rw [← hW1]
        clear hW1
        refine wp_region_ovq ov (by kernel_rfl) (by kernel_rfl) ?_
        repeat (go_big_quiet_step ((go_at_call 45; with_reducible exact K1.out _)))
        refine wpQuiet_nil ?_
        rintro _ ⟨u, rfl⟩
        have Hbo := Lib.hid (Hbn.out.trans ((ov.below u).mono Hbn.out.size))
        clear o0 o1 o4 oe x0 x1 x4 h0 h1 h2 h3 h4 hce
        generalize ov.f u = w5 at *
        cases iw with
        | true =>
          go_wp2
          go_roundg (gk - 1)
          case measure => have := Hgk.out; omega
          case rel => have := Hgk.out; exact ⟨j + 1, by omega, by go_num, by omega, Hbo, Lib.hid (all_snoc Hx.out Hall.out Hfit.out)⟩
        | false =>
          have Hf := Lib.hid (show rv = (0, 0, 1) from by
            have hnf : V.fits t env = false := by
              unfold V.fits
              rw [List.all_eq_false]
              exact ⟨x, List.mem_of_getElem? Hx.out, by rw [Hfit.out]; simp⟩
            rw [← Hrv.out, V.value, if_neg (by rw [Hv.out]; simp), if_pos (.inr hnf)])
          go_wp2
          go_ret3
          exact ⟨by rw [Hf.out]; rfl, Hbo.out⟩
      · have q33 : (x.op == 33) = false := by simp [h33]
        have Hfit := Lib.hid (show V.fit1 env x = true from by unfold V.fit1; rw [decide_eq_false h33]; rfl)
        clear h33
        obtain ⟨ov⟩ := ov_ex W1
        have o0 := ov.cell x0
        go_upto_region 9 with (fail)
        rw [← hW1]
        clear hW1
        refine wp_region_ovq ov (by kernel_rfl) (by kernel_rfl) ?_
        repeat (go_big_quiet_step (fail))
        refine wpQuiet_nil ?_
        rintro _ ⟨u, rfl⟩
        have Hbo := Lib.hid (Hbn.out.trans ((ov.below u).mono Hbn.out.size))
        clear o0 x0 x1 x4 h0 h1 h2 h3 h4
        generalize ov.f u = w5 at *
        go_wp2
        go_roundg (gk - 1)
        case measure => have := Hgk.out; omega
        case rel => have := Hgk.out; exact ⟨j + 1, by omega, by go_num, by omega, Hbo, Lib.hid (all_snoc Hx.out Hall.out Hfit.out)⟩
    · obtain rfl : j = n := by omega
      have hall := Hall.out
      rw [List.take_of_length_le (by rw [Hlen.out]; exact Nat.le_refl _)] at hall
      have HS := Lib.hid (V.std_fits Hv.out Hi.out HlenE.out Hew.out hall)
      have Hf := Lib.hid (show rv = if 0 < V.bad t env then (0, V.bad t env, 0) else ((T.vals t env).getD (t.length - 1) 0, 0, 0) from by
        rw [← Hrv.out, V.value, if_neg (by rw [Hv.out]; simp), if_neg (by rw [HlenE.out]; unfold V.fits; rw [hall]; simp)])
      have Hnd := Lib.hid (gneeded_any t j ct At wr (HT0.out.below monoNd Hbw.out) hn1 (by omega) (fun x hx a ha => by
        obtain ⟨k, hk⟩ := List.getElem?_of_mem hx
        have h1 := V.std_ord HS.out k x hk a ha
        have h2 := (List.getElem?_eq_some_iff.1 hk).1
        rw [Hlen.out] at h2
        omega))
      have Hwf := Lib.hid (V.fvalid_val Hv.out).2
      clear hall Hall
      go_wp2_with fail
      (with_reducible refine Hnd.out.mono ?_)
      rintro e Z ⟨gn, rfl, hgn, hbz, hrowz⟩
      have HbZ := Lib.hid (Hbw.out.trans (hbz.mono Hbw.out.size))
      have HN := Lib.hid hrowz
      have HNl := Lib.hid (show (R.need t).length = j from by rw [V.need_len, Hlen.out])
      have HT := Lib.hid (HT0.out.below monoNd HbZ.out)
      have HE := Lib.hid (HE0.out.below (monoInt _) HbZ.out)
      clear hbz hrowz hgn Hnd HT0 HE0 Hbw
      obtain ⟨n, rfl⟩ : ∃ n, n = j := ⟨_, rfl⟩
      have hn : n ≤ 1000000 := by omega
      have hmk := fun (W' : World) => run_make_n (P := Tryz.prog) 23 26 (.int .u32 0) 4 Tryz.underlying23 infoU32 rfl .i64 .i64 n (n : Int) rfl (by omega) (by omega) W'
      go_wp2
      clear hmk
      go_loopg [12, 54] (n + 1) (fun g s12 i wr => ∃ (j : Nat), j ≤ n ∧ s12 = .int .i64 (V.badTo t (R.need t) (T.vals t env) j) ∧ i = .int .i64 (j : Int) ∧ g + j = n + 1 ∧ Below Z.heap.size Z wr ∧ Z.heap.size + 1 < wr.heap.size ∧ Hid (wr.heap[Z.heap.size]? = some (.cells (fillC (T.valsTo t env j) n).toArray 26 (0, 0))) ∧ Hid (wr.heap[Z.heap.size + 1]? = some (.cells #[.slice (some ⟨Z.heap.size, 0, none⟩) n n] 23 (0, 0))))
      case atStart => exact ⟨0, Nat.zero_le _, rfl, rfl, rfl, ((Below.refl _ _).alloc (Nat.le_refl _) _).alloc (by simp) _, by simp, Lib.hid (by rw [show (fillC (T.valsTo t env 0) n).toArray = Array.replicate n (.int .u32 0) from fillC_nil n]; exact row_alloc (heap_alloc_new Z _) _), Lib.hid (new_two Z _ _)⟩
      case round =>
        obtain ⟨j, hj, rfl, rfl, hgk, hbw, hsz, HG, HO⟩ := hrel
        obtain ⟨bj, hbj⟩ : ∃ bj, V.badTo t (R.need t) (T.vals t env) j = bj := ⟨_, rfl⟩
        have Hbr := Lib.hid (show 0 ≤ bj from by rw [← hbj]; exact (V.bad_range _ _ _ _).1)
        rw [hbj]
        have Hbj := Lib.hid hbj
        clear hbj
        have Hgk := Lib.hid hgk; clear hgk
        by_cases hlt : j < n
        · obtain ⟨x, b, off, A, c, hx, rfl, hbz, z0, z1, z2, z3, z4, hsz0, i0, i1⟩ := nd_cells HT.out hlt
          have hb := Nat.lt_of_lt_of_le hbz hbw.size
          have h0 := (hbw.cell (p := ⟨b, off + j * 5, none⟩) hbz).trans z0
          have h1 := (hbw.cell (p := ⟨b, off + j * 5 + 1, none⟩) hbz).trans z1
          have h2 := (hbw.cell (p := ⟨b, off + j * 5 + 2, none⟩) hbz).trans z2
          have h3 := (hbw.cell (p := ⟨b, off + j * 5 + 3, none⟩) hbz).trans z3
          have h4 := (hbw.cell (p := ⟨b, off + j * 5 + 4, none⟩) hbz).trans z4
          have hs := hsz0.below (monoInt _) hbw
          have HsZ := Lib.hid hsz0
          clear hbz z0 z1 z2 z3 z4 hsz0
          have Hx := Lib.hid hx
          have Hat := Lib.hid (V.at_all HS.out hx)
          have hst := V.badTo_step (need := R.need t) (vs := T.vals t env) hx
          rw [Hbj.out] at hst
          have Hst := Lib.hid hst
          have Hbs0 := Lib.hid (show ¬ (1 ≤ x.op ∧ x.op ≤ 13) → V.badTo t (R.need t) (T.vals t env) (j + 1) = bj from fun h => by
            have := Hbr.out
            rw [Hst.out, V.wrs, if_neg h]
            split <;> omega)
          clear hst
          have Hval := Lib.hid (show T.valsTo t env (j + 1) = T.valsTo t env j ++ [T.val t (T.valsTo t env j) env x] from by rw [T.valsTo, getD_of hx])
          have Hnod := Lib.hid (show T.Nod t env (T.valsTo t env j) x from HS.out.nod (T.valsTo_words HS.out j (by rw [Hlen.out]; omega)) (by rw [T.valsTo_len]; exact hx))
          obtain ⟨vv, hvv⟩ : ∃ vv, vv = T.val t (T.valsTo t env j) env x := ⟨_, rfl⟩
          rw [← hvv] at Hval
          have Hvv := Lib.hid hvv
          have Hs := Lib.hid hs
          have Hb := Lib.hid hbw
          obtain ⟨W1, hW1⟩ : ∃ W1, W1 = wr.alloc (.cells #[.int .i64 x.op, .int .i64 x.w, .int .i64 x.fl, .slice A x.args.length c, .int .u32 x.imm] 62) := ⟨_, rfl⟩
          have hB1 : Below wr.heap.size wr W1 := by rw [hW1]; exact (Below.refl _ _).alloc (Nat.le_refl _) _
          have hr1 : W1.heap[wr.heap.size]? = some (.cells #[.int .i64 x.op, .int .i64 x.w, .int .i64 x.fl, .slice A x.args.length c, .int .u32 x.imm] 62 (0, 0)) := by rw [hW1]; exact heap_alloc_new wr _
          have HB1 := Lib.hid hB1
          obtain ⟨ov⟩ := ov_ex W1
          have Hs1 := Lib.hid (show W1.heap.size = wr.heap.size + 1 from by rw [hW1]; simp)
          have hX : W1.cell? ⟨wr.heap.size, 0, none⟩ = some (.int .i64 x.op) ∧ W1.cell? ⟨wr.heap.size, 1, none⟩ = some (.int .i64 x.w) ∧ W1.cell? ⟨wr.heap.size, 3, none⟩ = some (.slice A x.args.length c) ∧ W1.cell? ⟨wr.heap.size, 4, none⟩ = some (.int .u32 x.imm) := by
            refine ⟨?_, ?_, ?_, ?_⟩
            all_goals rw [cell_of_row _ _ _ _ _ (0, 0) hr1]; rfl
          obtain ⟨x0, x1, x3, x4⟩ := hX
          have HG1 := Lib.hid (row_step HB1 HG.out)
          have HO1 := Lib.hid (row_step HB1 HO.out)
          have ho1 : W1.cell? ⟨Z.heap.size + 1, 0, none⟩ = some (.slice (some ⟨Z.heap.size, 0, none⟩) n n) := by rw [cell_of_row _ _ _ _ _ (0, 0) HO1.out]; rfl
          have Hb1 := Lib.hid (show Below Z.heap.size Z W1 from Hb.out.trans (HB1.out.mono Hb.out.size))
          have Hfin := Lib.hid (show ∀ (X : World) (u : Int), Below W1.heap.size W1 X → vv = u → Below Z.heap.size Z (X.setCell ⟨Z.heap.size, j, none⟩ (.int .u32 u)) ∧ Z.heap.size + 1 < (X.setCell ⟨Z.heap.size, j, none⟩ (.int .u32 u)).heap.size ∧ Hid ((X.setCell ⟨Z.heap.size, j, none⟩ (.int .u32 u)).heap[Z.heap.size]? = some (.cells (fillC (T.valsTo t env (j + 1)) n).toArray 26 (0, 0))) ∧ Hid ((X.setCell ⟨Z.heap.size, j, none⟩ (.int .u32 u)).heap[Z.heap.size + 1]? = some (.cells #[.slice (some ⟨Z.heap.size, 0, none⟩) n n] 23 (0, 0))) from fun X u hX hu => by
            have hXs := hX.size
            have e1 := Hs1.out
            refine ⟨(Hb1.out.trans (hX.mono Hb1.out.size)).setCell (p := ⟨Z.heap.size, j, none⟩) (Nat.le_refl _) _, by simp; omega, Lib.hid ?_, Lib.hid ?_⟩
            · subst hu
              rw [Hval.out]
              exact fill_step (row_step (Lib.hid hX) HG1.out) (T.valsTo_len _ _ _) hlt
            · rw [heap_setCell_other _ _ _ _ (by simp)]
              exact row_step (Lib.hid hX) HO1.out)
          have HfinZ := Lib.hid (show ∀ (X : World), Below W1.heap.size W1 X → vv = 0 → Below Z.heap.size Z X ∧ Z.heap.size + 1 < X.heap.size ∧ Hid (X.heap[Z.heap.size]? = some (.cells (fillC (T.valsTo t env (j + 1)) n).toArray 26 (0, 0))) ∧ Hid (X.heap[Z.heap.size + 1]? = some (.cells #[.slice (some ⟨Z.heap.size, 0, none⟩) n n] 23 (0, 0))) from fun X hX hu => by
            have hXs := hX.size
            have e1 := Hs1.out
            refine ⟨Hb1.out.trans (hX.mono Hb1.out.size), by omega, Lib.hid ?_, Lib.hid (row_step (Lib.hid hX) HO1.out)⟩
            subst hu
            rw [Hval.out, fill_zero (by rw [T.valsTo_len]; exact hlt)]
            exact row_step (Lib.hid hX) HG1.out)
          have hsf : ∀ (X : World), Below W1.heap.size W1 X → (∃ v0, X.cell? ⟨Z.heap.size, j, none⟩ = some v0) ∧ X.frozen? ⟨Z.heap.size, j, none⟩ = false := fun X hX => by
            obtain ⟨q1, q2⟩ := fill_cell (row_step (Lib.hid hX) HG1.out) (a := j) (by rw [T.valsTo_len]; omega) hlt
            exact ⟨Option.isSome_iff_exists.1 q1, q2⟩
          have Hsf := Lib.hid hsf
          have HClo := Lib.hid (show ∀ (u : World) (i : Nat), i < x.args.length → 0 ≤ x.args.getD i 0 ∧ x.args.getD i 0 < (j : Int) → Calls Tryz.prog 47 #[.int .i64 (i : Int), .pointer (some ⟨Z.heap.size + 1, 0, none⟩), .pointer (some ⟨wr.heap.size, 0, none⟩)] (ov.f u) (fun e w' => e = .returned (.int .u32 (T.at_ (T.valsTo t env j) x i)) ∧ ∃ m, w' = ov.f m) from fun u i hi ha => by
            have hV := (slAt_fill HG1.out (by rw [T.valsTo_len]; omega) hn).below (monoInt _) (ov.below u)
            have hA := (hs.below (monoInt _) hB1).below (monoInt _) (ov.below u)
            have := valClo_any _ x.args i (Z.heap.size + 1) wr.heap.size n x.args.length c n _ A (ov.f u) hV hA (ov.cell ho1 u) (ov.cell x3 u) hi ⟨ha.1, by omega⟩
            have he : (T.valsTo t env j ++ List.replicate (n - (T.valsTo t env j).length) (0 : Int)).getD (x.args.getD i 0).toNat 0 = T.at_ (T.valsTo t env j) x i := by unfold T.at_; exact T.getD_l (by rw [T.valsTo_len]; omega)
            rw [he] at this
            exact calls_over_dr this)
          obtain ⟨op, w, fl, args, imm⟩ := x
          dsimp only at h0 h1 h2 h3 h4 x0 x1 x3 x4 i0 i1 hW1
          clear hx hvv hs hbw hB1 hsf
          have hcase : op = 0 ∨ op = 33 ∨ op = 14 ∨ op = 15 ∨ (16 ≤ op ∧ op ≠ 33) ∨ (op ≠ 0 ∧ op < 14) := by omega
          rcases hcase with rfl | rfl | rfl | rfl | ho | ho
          · have Hbn := Lib.hid (Hbs0.out (by dsimp only; omega))
            have Hv := Lib.hid (show vv = imm from Hvv.out.trans (T.val_0 rfl))
            obtain ⟨⟨v0, hv0⟩, hf0⟩ := Hsf.out W1 (Below.refl _ _)
            subst hW1
            go_wp2
            obtain ⟨g1, g2, g3, g4⟩ := Hfin.out _ imm (Below.refl _ _) Hv.out
            go_roundg (gk - 1)
            case measure => have := Hgk.out; omega
            case rel => have := Hgk.out; exact ⟨j + 1, by omega, by rw [Hbn.out], by go_num, by omega, g1, g2, g3, g4⟩
          · have Hbn := Lib.hid (Hbs0.out (by dsimp only; omega))
            have Hi := Lib.hid (show imm < 4 from by have := Hnod.out.imm; unfold T.immOk at this; simpa using this)
            obtain ⟨v, rfl⟩ : ∃ v : Nat, imm = v := ⟨imm.toNat, by omega⟩
            have hv4 : v < 4 := by have := Hi.out; omega
            obtain ⟨y, be, offe, ue, hy, rfl, hbe, hce, hue⟩ := (HE.out.below (monoInt _) Hb1.out).at_ hv4
            obtain rfl : ue = .int .u32 y := hue
            have Hv := Lib.hid (show vv = y from by rw [Hvv.out, T.val_33 rfl]; exact getD_of hy)
            have o1 := ov.cell ho1
            have o2 := ov.cell hce
            have o3 := ov.cell x4
            clear hy hbe hce
            rw [hW1] at x0
            go_wp2
            rw [← hW1] at x0 ⊢
            clear hW1 h0 h1 h2 h3 h4
            refine wp_region_ov ov (by kernel_rfl) (by kernel_rfl) ?_
            dsimp only [headOf, lastOf]
            repeat (go_big_quiet_step (fail))
            refine wpQuiet_nil ?_
            clear o1 o2 o3 x0 x1 x3 x4
            rintro _ ⟨u, rfl⟩ K hK
            have hb2 := ov.below u
            obtain ⟨⟨v0, hv0⟩, hf0⟩ := Hsf.out _ hb2
            obtain ⟨g1, g2, g3, g4⟩ := Hfin.out _ (y) hb2 Hv.out
            generalize ov.f u = w2 at hv0 hf0 g1 g2 g3 g4 ⊢
            clear hb2
            go_wp2
            refine hK _ _ ?_
            clear hK K
            go_wp2
            go_roundg (gk - 1)
            case measure => have := Hgk.out; omega
            case rel => have := Hgk.out; exact ⟨j + 1, by omega, by rw [Hbn.out], by go_num, by omega, g1, g2, g3, g4⟩
          · have Hbn := Lib.hid (Hbs0.out (by dsimp only; omega))
            obtain ⟨hl, m0, m9, ew⟩ := Hnod.out.cmp rfl
            dsimp only at hl m0 m9
            have hlo0 := Hnod.out.lo 0 (by dsimp only at hl ⊢; omega)
            rw [T.valsTo_len] at hlo0
            dsimp only at hlo0
            have hlo1 := Hnod.out.lo 1 (by dsimp only at hl ⊢; omega)
            rw [T.valsTo_len] at hlo1
            dsimp only at hlo1
            have hzw0 := Hnod.out.wd 0 (by dsimp only at hl ⊢; omega)
            have ha0 := Hnod.out.at_ 0 (by dsimp only at hl ⊢; omega)
            have ha1 := Hnod.out.at_ 1 (by dsimp only at hl ⊢; omega)
            rw [ew] at ha1
            obtain ⟨a0, hga0⟩ : ∃ a0, a0 = T.at_ (T.valsTo t env j) ⟨14, w, fl, args, imm⟩ 0 := ⟨_, rfl⟩
            obtain ⟨a1, hga1⟩ : ∃ a1, a1 = T.at_ (T.valsTo t env j) ⟨14, w, fl, args, imm⟩ 1 := ⟨_, rfl⟩
            have HC0 := Lib.hid (show ∀ u, Calls Tryz.prog 47 #[.int .i64 0, .pointer (some ⟨Z.heap.size + 1, 0, none⟩), .pointer (some ⟨wr.heap.size, 0, none⟩)] (ov.f u) (fun e w' => e = .returned (.int .u32 a0) ∧ ∃ m, w' = ov.f m) from fun u => by rw [hga0]; exact HClo.out u 0 (by dsimp only at hl ⊢; omega) hlo0)
            have HC1 := Lib.hid (show ∀ u, Calls Tryz.prog 47 #[.int .i64 1, .pointer (some ⟨Z.heap.size + 1, 0, none⟩), .pointer (some ⟨wr.heap.size, 0, none⟩)] (ov.f u) (fun e w' => e = .returned (.int .u32 a1) ∧ ∃ m, w' = ov.f m) from fun u => by rw [hga1]; exact HClo.out u 1 (by dsimp only at hl ⊢; omega) hlo1)
            obtain ⟨y0, ba, offa, ua, hy, hA0, _, hca, hua⟩ := (Hs.out.below (monoInt _) HB1.out).at_ (k := 0) (show 0 < args.length by omega)
            subst hA0
            rw [Nat.add_zero] at hca
            obtain rfl : ua = .int .i64 y0 := hua
            have hlo9 := hlo0
            rw [getD_of hy] at hlo9
            obtain ⟨q, rfl⟩ : ∃ q : Nat, y0 = q := ⟨y0.toNat, by omega⟩
            have hqn : q < n := by omega
            obtain ⟨zz, bz, offz, A2, c2, hz, hAz, hbz, _, hw2, _⟩ := nd_cells (HT.out.below monoNd Hb1.out) (j := q) hqn
            cases hAz
            have ewd : T.wd t ⟨14, w, fl, args, imm⟩ 0 = zz.w := by unfold T.wd; dsimp only; rw [getD_of hy, Int.toNat_natCast, getD_of hz]
            obtain ⟨zw, hzw⟩ : ∃ zw, zw = zz.w := ⟨_, rfl⟩
            rw [← hzw] at ewd hw2
            have o5 := ov.cell hca
            have o6 := ov.cell hw2
            have hv9 := Hvv.out.trans (T.val_14 rfl)
            dsimp only at hv9
            rw [← hga0, ← hga1, ewd] at hv9
            rw [ewd] at ha0 ha1 hzw0
            rw [← hga0] at ha0
            rw [← hga1] at ha1
            have hQ := fun Z' : World => pCompare_any imm zw a0 a1 Z' m0 m9 hzw0.1 hzw0.2 ha0.1 ha0.2 ha1.1 ha1.2
            generalize T.cmp imm zw a0 a1 = cc at hv9 hQ
            have HQ := Lib.hid (show ∀ u, Calls Tryz.prog 48 #[.int .i64 imm, .int .i64 zw, .int .u32 a0, .int .u32 a1] (ov.f u) (fun e w' => e = .returned (.tuple #[.bool cc, .int .i64 0]) ∧ ∃ m, w' = ov.f m) from fun u => calls_over (hQ _))
            have hle3 := Hs.out.le
            dsimp only at hle3
            rw [hl] at h3 x3 hW1 hle3
            have o3 := ov.cell x4
            have o4 := ov.cell x3
            clear hQ hga0 hga1 hzw ewd hz hy ha0 ha1 ew hzw0 hlo0 hlo1 hlo9 HClo hl hca hw2 hbz m0 m9
            rw [hW1] at x0
            go_wp2
            rw [← hW1] at x0 ⊢
            clear hW1 h0 h1 h2 h3 h4
            refine wp_region_ovq ov (by kernel_rfl) (by kernel_rfl) ?_
            repeat (go_big_quiet_step ((first | (go_at_call 47; with_reducible exact HC0.out _) | (go_at_call 47; with_reducible exact HC1.out _) | (go_at_call 48; with_reducible exact HQ.out _))))
            refine wpQuiet_nil ?_
            clear o3 o4 o5 o6 x0 x1 x3 x4 HC0 HC1 HQ
            rintro _ ⟨u, rfl⟩
            have hb2 := ov.below u
            cases cc
            · have Hv := Lib.hid (show vv = 0 from by rw [hv9]; simp)
              clear hv9
              obtain ⟨g1, g2, g3, g4⟩ := HfinZ.out _ hb2 Hv.out
              generalize ov.f u = w2 at g1 g2 g3 g4 ⊢
              clear hb2
              go_wp2
              go_roundg (gk - 1)
              case measure => have := Hgk.out; omega
              case rel => have := Hgk.out; exact ⟨j + 1, by omega, by rw [Hbn.out], by go_num, by omega, g1, g2, g3, g4⟩
            · have Hv := Lib.hid (show vv = 1 from by rw [hv9]; simp)
              clear hv9
              obtain ⟨⟨v0, hv0⟩, hf0⟩ := Hsf.out _ hb2
              obtain ⟨g1, g2, g3, g4⟩ := Hfin.out _ 1 hb2 Hv.out
              have ho2 := ov.cell ho1 u
              generalize ov.f u = w2 at hv0 hf0 g1 g2 g3 g4 ho2 ⊢
              clear hb2
              go_wp2
              go_roundg (gk - 1)
              case measure => have := Hgk.out; omega
              case rel => have := Hgk.out; exact ⟨j + 1, by omega, by rw [Hbn.out], by go_num, by omega, g1, g2, g3, g4⟩
          · have Hbn := Lib.hid (Hbs0.out (by dsimp only; omega))
            obtain ⟨hl, ew1, ew2, ha⟩ := Hnod.out.ite rfl
            dsimp only at hl
            have hlo0 := Hnod.out.lo 0 (by dsimp only at hl ⊢; omega)
            rw [T.valsTo_len] at hlo0
            dsimp only at hlo0
            have hlo1 := Hnod.out.lo 1 (by dsimp only at hl ⊢; omega)
            rw [T.valsTo_len] at hlo1
            dsimp only at hlo1
            have hlo2 := Hnod.out.lo 2 (by dsimp only at hl ⊢; omega)
            rw [T.valsTo_len] at hlo2
            dsimp only at hlo2
            obtain ⟨a0, hga0⟩ : ∃ a0, a0 = T.at_ (T.valsTo t env j) ⟨15, w, fl, args, imm⟩ 0 := ⟨_, rfl⟩
            obtain ⟨a1, hga1⟩ : ∃ a1, a1 = T.at_ (T.valsTo t env j) ⟨15, w, fl, args, imm⟩ 1 := ⟨_, rfl⟩
            obtain ⟨a2, hga2⟩ : ∃ a2, a2 = T.at_ (T.valsTo t env j) ⟨15, w, fl, args, imm⟩ 2 := ⟨_, rfl⟩
            have HC0 := Lib.hid (show ∀ u, Calls Tryz.prog 47 #[.int .i64 0, .pointer (some ⟨Z.heap.size + 1, 0, none⟩), .pointer (some ⟨wr.heap.size, 0, none⟩)] (ov.f u) (fun e w' => e = .returned (.int .u32 a0) ∧ ∃ m, w' = ov.f m) from fun u => by rw [hga0]; exact HClo.out u 0 (by dsimp only at hl ⊢; omega) hlo0)
            have HC1 := Lib.hid (show ∀ u, Calls Tryz.prog 47 #[.int .i64 1, .pointer (some ⟨Z.heap.size + 1, 0, none⟩), .pointer (some ⟨wr.heap.size, 0, none⟩)] (ov.f u) (fun e w' => e = .returned (.int .u32 a1) ∧ ∃ m, w' = ov.f m) from fun u => by rw [hga1]; exact HClo.out u 1 (by dsimp only at hl ⊢; omega) hlo1)
            have HC2 := Lib.hid (show ∀ u, Calls Tryz.prog 47 #[.int .i64 2, .pointer (some ⟨Z.heap.size + 1, 0, none⟩), .pointer (some ⟨wr.heap.size, 0, none⟩)] (ov.f u) (fun e w' => e = .returned (.int .u32 a2) ∧ ∃ m, w' = ov.f m) from fun u => by rw [hga2]; exact HClo.out u 2 (by dsimp only at hl ⊢; omega) hlo2)
            have hv9 := Hvv.out.trans (T.val_15 rfl)
            rw [← hga0] at ha hv9
            have hv8 : (a0 = 0 ∧ vv = a2) ∨ (a0 = 1 ∧ vv = a1) := by
              rcases ha with h | h
              · left; refine ⟨h, ?_⟩; rw [hv9, h, hga2]; rfl
              · right; refine ⟨h, ?_⟩; rw [hv9, h, hga1]; rfl
            have hle3 := Hs.out.le
            dsimp only at hle3
            rw [hl] at h3 x3 hW1 hle3
            clear hv9 ha hga0 hga1 hga2 ew1 ew2 hlo0 hlo1 hlo2 HClo hl
            have o1 := ov.cell ho1
            rcases hv8 with ⟨rfl, hv7⟩ | ⟨rfl, hv7⟩
            · have Hv := Lib.hid hv7
              clear hv7
              rw [hW1] at x0
              go_wp2
              rw [← hW1] at x0 ⊢
              clear hW1 h0 h1 h2 h3 h4
              refine wp_region_ov ov (by kernel_rfl) (by kernel_rfl) ?_
              dsimp only [headOf, lastOf]
              repeat (go_big_quiet_step ((first | (go_at_call 47; with_reducible exact HC0.out _) | (go_at_call 47; with_reducible exact HC1.out _) | (go_at_call 47; with_reducible exact HC2.out _))))
              refine wpQuiet_nil ?_
              clear o1 x0 x1 x3 x4 HC0 HC1 HC2
              rintro _ ⟨u, rfl⟩ K hK
              have hb2 := ov.below u
              obtain ⟨⟨v0, hv0⟩, hf0⟩ := Hsf.out _ hb2
              obtain ⟨g1, g2, g3, g4⟩ := Hfin.out _ (a2) hb2 Hv.out
              generalize ov.f u = w2 at hv0 hf0 g1 g2 g3 g4 ⊢
              clear hb2
              go_wp2
              refine hK _ _ ?_
              clear hK K
              go_wp2
              go_roundg (gk - 1)
              case measure => have := Hgk.out; omega
              case rel => have := Hgk.out; exact ⟨j + 1, by omega, by rw [Hbn.out], by go_num, by omega, g1, g2, g3, g4⟩
            · have Hv := Lib.hid hv7
              clear hv7
              rw [hW1] at x0
              go_wp2
              rw [← hW1] at x0 ⊢
              clear hW1 h0 h1 h2 h3 h4
              refine wp_region_ov ov (by kernel_rfl) (by kernel_rfl) ?_
              dsimp only [headOf, lastOf]
              repeat (go_big_quiet_step ((first | (go_at_call 47; with_reducible exact HC0.out _) | (go_at_call 47; with_reducible exact HC1.out _) | (go_at_call 47; with_reducible exact HC2.out _))))
              refine wpQuiet_nil ?_
              clear o1 x0 x1 x3 x4 HC0 HC1 HC2
              rintro _ ⟨u, rfl⟩ K hK
              have hb2 := ov.below u
              obtain ⟨⟨v0, hv0⟩, hf0⟩ := Hsf.out _ hb2
              obtain ⟨g1, g2, g3, g4⟩ := Hfin.out _ (a1) hb2 Hv.out
              generalize ov.f u = w2 at hv0 hf0 g1 g2 g3 g4 ⊢
              clear hb2
              go_wp2
              refine hK _ _ ?_
              clear hK K
              go_wp2
              go_roundg (gk - 1)
              case measure => have := Hgk.out; omega
              case rel => have := Hgk.out; exact ⟨j + 1, by omega, by rw [Hbn.out], by go_num, by omega, g1, g2, g3, g4⟩
          · have Hbn := Lib.hid (Hbs0.out (by dsimp only; omega))
            obtain ⟨hl, hok⟩ := Hnod.out.ext ho.1 ho.2
            have h3k : op = 16 ∨ op = 17 ∨ op = 18 := by
              rcases hok.kk with h | h | h
              · exact .inl h.1
              · exact .inr (.inl h.1)
              · exact .inr (.inr h.1)
            dsimp only at hl
            have hlo0 := Hnod.out.lo 0 (by dsimp only at hl ⊢; omega)
            rw [T.valsTo_len] at hlo0
            dsimp only at hlo0
            obtain ⟨a0, hga0⟩ : ∃ a0, a0 = T.at_ (T.valsTo t env j) ⟨op, w, fl, args, imm⟩ 0 := ⟨_, rfl⟩
            have HC0 := Lib.hid (show ∀ u, Calls Tryz.prog 47 #[.int .i64 0, .pointer (some ⟨Z.heap.size + 1, 0, none⟩), .pointer (some ⟨wr.heap.size, 0, none⟩)] (ov.f u) (fun e w' => e = .returned (.int .u32 a0) ∧ ∃ m, w' = ov.f m) from fun u => by rw [hga0]; exact HClo.out u 0 (by dsimp only at hl ⊢; omega) hlo0)
            obtain ⟨y0, ba, offa, ua, hy, hA0, _, hca, hua⟩ := (Hs.out.below (monoInt _) HB1.out).at_ (k := 0) (show 0 < args.length by omega)
            subst hA0
            rw [Nat.add_zero] at hca
            obtain rfl : ua = .int .i64 y0 := hua
            have hlo9 := hlo0
            rw [getD_of hy] at hlo9
            obtain ⟨q, rfl⟩ : ∃ q : Nat, y0 = q := ⟨y0.toNat, by omega⟩
            have hqn : q < n := by omega
            obtain ⟨zz, bz, offz, A2, c2, hz, hAz, hbz, _, hw2, _⟩ := nd_cells (HT.out.below monoNd Hb1.out) (j := q) hqn
            cases hAz
            have ewd : T.wd t ⟨op, w, fl, args, imm⟩ 0 = zz.w := by unfold T.wd; dsimp only; rw [getD_of hy, Int.toNat_natCast, getD_of hz]
            obtain ⟨zw, hzw⟩ : ∃ zw, zw = zz.w := ⟨_, rfl⟩
            rw [← hzw] at ewd hw2
            have o5 := ov.cell hca
            have o6 := ov.cell hw2
            have hv9 := Hvv.out.trans (T.val_16 ho.1 ho.2)
            dsimp only at hv9 hok
            rw [← hga0, ewd] at hok hv9
            have HQ := Lib.hid (show ∀ u, Calls Tryz.prog 49 #[.int .i64 op, .int .i64 zw, .int .i64 w, .int .u32 a0] (ov.f u) (fun e w' => e = .returned (.tuple #[.int .u32 vv, .int .i64 0]) ∧ ∃ m, w' = ov.f m) from fun u => by rw [hv9]; exact calls_over (pExtend_any op zw w a0 _ hok))
            have hle3 := Hs.out.le
            dsimp only at hle3
            rw [hl] at h3 x3 hW1 hle3
            have o1 := ov.cell ho1
            have o2 := ov.cell x0
            have o3 := ov.cell x1
            have o4 := ov.cell x3
            clear hv9 hok hga0 hzw ewd hz hy hlo0 hlo9 HClo hl hca hw2 hbz ho
            rcases h3k with rfl | rfl | rfl
            all_goals
              skip
              rw [hW1] at x0
              go_wp2
              rw [← hW1] at x0 ⊢
              clear hW1 h0 h1 h2 h3 h4
              refine wp_region_ov ov (by kernel_rfl) (by kernel_rfl) ?_
              dsimp only [headOf, lastOf]
              repeat (go_big_quiet_step ((first | (go_at_call 47; with_reducible exact HC0.out _) | (go_at_call 49; with_reducible exact HQ.out _))))
              refine wpQuiet_nil ?_
              clear o1 o2 o3 o4 o5 o6 x0 x1 x3 x4 HC0 HQ
              rintro _ ⟨u, rfl⟩ K hK
              have hb2 := ov.below u
              obtain ⟨⟨v0, hv0⟩, hf0⟩ := Hsf.out _ hb2
              obtain ⟨g1, g2, g3, g4⟩ := Hfin.out _ (vv) hb2 rfl
              generalize ov.f u = w2 at hv0 hf0 g1 g2 g3 g4 ⊢
              clear hb2
              go_wp2
              refine hK _ _ ?_
              clear hK K
              go_wp2
              go_roundg (gk - 1)
              case measure => have := Hgk.out; omega
              case rel => have := Hgk.out; exact ⟨j + 1, by omega, by rw [Hbn.out], by go_num, by omega, g1, g2, g3, g4⟩
          · have Hr1 := Lib.hid hr1
            have Hsz := Lib.hid hsz
            obtain ⟨hl, o1', o13, ew0, ew1⟩ := Hnod.out.bin ho.1 ho.2
            dsimp only at hl
            have ha0 := Hnod.out.at_ 0 (by dsimp only at hl ⊢; omega)
            have ha1 := Hnod.out.at_ 1 (by dsimp only at hl ⊢; omega)
            rw [ew0] at ha0
            rw [ew1] at ha1
            have hw0 := Hnod.out.w0
            have hw1 := Hnod.out.w1
            dsimp only at o1' o13 ha0 ha1 hw0 hw1
            have hlo0 := Hnod.out.lo 0 (by dsimp only at hl ⊢; omega)
            rw [T.valsTo_len] at hlo0
            dsimp only at hlo0
            have hlo1 := Hnod.out.lo 1 (by dsimp only at hl ⊢; omega)
            rw [T.valsTo_len] at hlo1
            dsimp only at hlo1
            obtain ⟨a0, hga0⟩ : ∃ a0, a0 = T.at_ (T.valsTo t env j) ⟨op, w, fl, args, imm⟩ 0 := ⟨_, rfl⟩
            obtain ⟨a1, hga1⟩ : ∃ a1, a1 = T.at_ (T.valsTo t env j) ⟨op, w, fl, args, imm⟩ 1 := ⟨_, rfl⟩
            have HC0 := Lib.hid (show ∀ u, Calls Tryz.prog 47 #[.int .i64 0, .pointer (some ⟨Z.heap.size + 1, 0, none⟩), .pointer (some ⟨wr.heap.size, 0, none⟩)] (ov.f u) (fun e w' => e = .returned (.int .u32 a0) ∧ ∃ m, w' = ov.f m) from fun u => by rw [hga0]; exact HClo.out u 0 (by dsimp only at hl ⊢; omega) hlo0)
            have HC1 := Lib.hid (show ∀ u, Calls Tryz.prog 47 #[.int .i64 1, .pointer (some ⟨Z.heap.size + 1, 0, none⟩), .pointer (some ⟨wr.heap.size, 0, none⟩)] (ov.f u) (fun e w' => e = .returned (.int .u32 a1) ∧ ∃ m, w' = ov.f m) from fun u => by rw [hga1]; exact HClo.out u 1 (by dsimp only at hl ⊢; omega) hlo1)
            have hv9 := Hvv.out.trans (T.val_bin ho.1 ho.2)
            dsimp only at hv9
            rw [← hga0, ← hga1] at hv9
            rw [← hga0] at ha0
            rw [← hga1] at ha1
            have hpl := B.pw_le hw1
            have htot : B.total op w a0 a1 = (vv, 0) := by
              unfold B.total B.okOp B.isW
              rw [B.isWd_iff.2 ⟨hw0, hw1⟩, if_pos (by simp [o1', o13, ha0.2, ha1.2]), hv9]
            have HQ := Lib.hid (show ∀ u, Calls Tryz.prog 50 #[.int .i64 op, .int .i64 w, .int .u32 a0, .int .u32 a1] (ov.f u) (fun e w' => e = .returned (.tuple #[.int .u32 vv, .int .i64 0]) ∧ ∃ m, w' = ov.f m) from fun u => calls_over ((total_any op w a0 a1 _ (by simp [Lit.wf, IntKind.min, IntKind.max, IntKind.signed, IntKind.bits]; omega) ha0.1 ha1.1).mono fun e w' ⟨h1, h2⟩ => ⟨by rw [htot] at h1; exact h1, h2⟩))
            have hle3 := Hs.out.le
            dsimp only at hle3
            rw [hl] at h3 x3 hW1 hle3
            have q0 : (op == 0) = false := by simp; omega
            have q33 : (op == 33) = false := by simp; omega
            have q14 : (op == 14) = false := by simp; omega
            have q15 : (op == 15) = false := by simp; omega
            have q16 : decide (16 ≤ op) = false := by simp; omega
            have o1 := ov.cell ho1
            have o2 := ov.cell x0
            have o3 := ov.cell x1
            have Hga0 := Lib.hid hga0
            have Hga1 := Lib.hid hga1
            have Hrg := Lib.hid (And.intro ha0 ha1)
            have Hor := Lib.hid (And.intro o1' o13)
            have Hok := Lib.hid (show B.okOp op w a0 a1 = true from by
              unfold B.okOp B.isW
              rw [B.isWd_iff.2 ⟨hw0, hw1⟩]
              simp [o1', o13, ha0.2, ha1.2])
            have Hlo := Lib.hid (And.intro hlo0 hlo1)
            have Hal := Lib.hid hl
            have Hfl := Lib.hid (R.flOk_bd (Hwf.out _ (List.mem_of_getElem? Hx.out)))
            clear htot hpl hv9 hga0 hga1 hlo0 hlo1 HClo hl ho o1' o13 ew0 ew1 ha0 ha1 hw0 hw1
            skip
            rw [hW1] at x0
            go_wp2
            rw [← hW1] at x0 ⊢
            clear hW1 h0 h1 h2 h3 h4
            refine wp_region_ov ov (by kernel_rfl) (by kernel_rfl) ?_
            dsimp only [headOf, lastOf]
            repeat (go_big_quiet_step ((first | (go_at_call 47; with_reducible exact HC0.out _) | (go_at_call 47; with_reducible exact HC1.out _) | (go_at_call 50; with_reducible exact HQ.out _))))
            refine wpQuiet_nil ?_
            clear o1 o2 o3 x0 x1 x3 x4 HC0 HC1 HQ q0 q33 q14 q15 q16
            rintro _ ⟨u, rfl⟩ K hK
            have hb2 := ov.below u
            obtain ⟨⟨v0, hv0⟩, hf0⟩ := Hsf.out _ hb2
            obtain ⟨g1, g2, g3, g4⟩ := Hfin.out _ (vv) hb2 rfl
            have hb9 := hb2
            generalize ov.f u = w2 at hv0 hf0 g1 g2 g3 g4 hb9 ⊢
            clear hb2
            go_wp2
            refine hK _ _ ?_
            clear hK K
            obtain ⟨w3, hw3⟩ : ∃ w3, w3 = w2.setCell ⟨Z.heap.size, j, none⟩ (.int .u32 vv) := ⟨_, rfl⟩
            rw [← hw3] at g1 g2 g3 g4 ⊢
            have Hnx := Lib.hid (show w3.heap[wr.heap.size]? = some (.cells #[.int .i64 op, .int .i64 w, .int .i64 fl, .slice A args.length c, .int .u32 imm] 62 (0, 0)) from by
              rw [hw3, heap_setCell_other _ _ _ _ (by have := Hsz.out; simp; omega)]
              exact (hb9.block _ (Array.getElem?_eq_some_iff.1 Hr1.out).1).trans Hr1.out)
            have Hg1 := Lib.hid g1
            have Hg3 := Lib.hid g3
            have Hg4 := Lib.hid g4
            have hs9 := hb9.size
            clear hw3 hb9 hv0 hf0 g3 g4
            obtain ⟨nb, hnb⟩ : ∃ nb, nb = (R.need t).getD j false := ⟨_, rfl⟩
            have hcn : w3.cell? ⟨gn, j, none⟩ = some (.bool nb) := by
              rw [cell_of_row _ _ _ _ _ (0, 0) ((g1.block _ (Array.getElem?_eq_some_iff.1 HN.out).1).trans HN.out), List.getElem?_toArray, List.getElem?_map, hnb, List.getD_eq_getElem?_getD, List.getElem?_eq_getElem (show j < (R.need t).length by rw [HNl.out]; exact hlt)]
              rfl
            have hst2 := Hst.out
            rw [← hnb] at hst2
            have Hst2 := Lib.hid hst2
            clear hst2 hnb g1
            cases nb with
            | false =>
              have Hbn := Lib.hid (show V.badTo t (R.need t) (T.vals t env) (j + 1) = bj from by
                have := Hbr.out
                rw [Hst2.out, if_neg (by simp)]
                omega)
              go_wp2
              go_roundg (gk - 1)
              case measure => have := Hgk.out; omega
              case rel => have := Hgk.out; exact ⟨j + 1, by omega, by rw [Hbn.out], by go_num, by omega, Hg1.out, g2, Hg3, Hg4⟩
            | true =>
              obtain ⟨a0r, a1r⟩ : (0 ≤ a0 ∧ a0 < B.pw w) ∧ (0 ≤ a1 ∧ a1 < B.pw w) := Hrg.out
              obtain ⟨wv, hwv⟩ : ∃ wv, wv = B.worse op fl w a0 a1 := ⟨_, rfl⟩
              have Hbn := Lib.hid (show V.badTo t (R.need t) (T.vals t env) (j + 1) = max bj wv from by
                rw [Hst2.out, if_pos rfl, V.wrs, if_pos Hor.out, hwv, ← Hat.out 0 (by have := Hal.out; omega), ← Hat.out 1 (by have := Hal.out; omega), ← Hga0.out, ← Hga1.out])
              have Hbj2 := Hbj
              clear Hbj
              obtain ⟨ov3⟩ := ov_ex w3
              have hf4 := Hfl.out
              have HWo := Lib.hid (fun u => calls_over (ov := ov3) (show Calls Tryz.prog 51 #[.agg #[.int .i64 op, .int .i64 w, .int .i64 fl, .slice A 2 c, .int .u32 imm], .int .u32 a0, .int .u32 a1] (ov3.f u) (fun e w' => e = .returned (.int .i64 wv) ∧ Below (ov3.f u).heap.size (ov3.f u) w') from by
                rw [hwv]
                exact pworse_any op w fl imm a0 a1 _ (ov3.f u) (by have := Hor.out; simp [Lit.wf, IntKind.min, IntKind.max, IntKind.signed, IntKind.bits]; omega) (by omega) (by omega) a0r.1 a1r.1 Hok.out ⟨_, _, _, rfl⟩))
              have hal := Hal.out
              have hnx := Hnx.out
              rw [hal] at hnx
              have hX3 : w3.cell? ⟨wr.heap.size, 0, none⟩ = some (.int .i64 op) ∧ w3.cell? ⟨wr.heap.size, 1, none⟩ = some (.int .i64 w) ∧ w3.cell? ⟨wr.heap.size, 2, none⟩ = some (.int .i64 fl) ∧ w3.cell? ⟨wr.heap.size, 3, none⟩ = some (.slice A 2 c) ∧ w3.cell? ⟨wr.heap.size, 4, none⟩ = some (.int .u32 imm) := by
                refine ⟨?_, ?_, ?_, ?_, ?_⟩
                all_goals rw [cell_of_row _ _ _ _ _ (0, 0) hnx]; rfl
              obtain ⟨y0, y1, y2, y3, y4⟩ := hX3
              have p0 := ov3.cell y0
              have p1 := ov3.cell y1
              have p2 := ov3.cell y2
              have p3 := ov3.cell y3
              have p4 := ov3.cell y4
              have hb3 : w3.cell? ⟨Z.heap.size + 1, 0, none⟩ = some (.slice (some ⟨Z.heap.size, 0, none⟩) n n) := by rw [cell_of_row _ _ _ _ _ (0, 0) Hg4.out]; rfl
              have HCl := Lib.hid (show ∀ (u : World) (i : Nat) (av : Int), i < 2 → av = T.at_ (T.valsTo t env j) ⟨op, w, fl, args, imm⟩ i → 0 ≤ args.getD i 0 ∧ args.getD i 0 < (j : Int) → Calls Tryz.prog 47 #[.int .i64 (i : Int), .pointer (some ⟨Z.heap.size + 1, 0, none⟩), .pointer (some ⟨wr.heap.size, 0, none⟩)] (ov3.f u) (fun e w' => e = .returned (.int .u32 av) ∧ ∃ m, w' = ov3.f m) from fun u i av hi hav ha => by
                have hV3 := (slAt_fill Hg3.out (by rw [T.valsTo_len]; omega) hn).below (monoInt _) (ov3.below u)
                have hA3 := (HsZ.out.below (monoInt _) Hg1.out).below (monoInt _) (ov3.below u)
                try dsimp only at hA3
                rw [hal] at hA3
                have := valClo_any _ args i (Z.heap.size + 1) wr.heap.size n 2 c n _ A (ov3.f u) hV3 hA3 (ov3.cell hb3 u) (ov3.cell y3 u) hi ⟨ha.1, by omega⟩
                have he : (T.valsTo t env (j + 1) ++ List.replicate (n - (T.valsTo t env (j + 1)).length) (0 : Int)).getD (args.getD i 0).toNat 0 = av := by
                  rw [hav, T.getD_l (by rw [T.valsTo_len]; omega), T.valsTo, T.getD_l (by rw [T.valsTo_len]; omega)]
                  rfl
                rw [he] at this
                exact calls_over_dr this)
              have hlo := Hlo.out
              have K0 := Lib.hid (show ∀ u, Calls Tryz.prog 47 #[.int .i64 0, .pointer (some ⟨Z.heap.size + 1, 0, none⟩), .pointer (some ⟨wr.heap.size, 0, none⟩)] (ov3.f u) (fun e w' => e = .returned (.int .u32 a0) ∧ ∃ m, w' = ov3.f m) from fun u => HCl.out u 0 a0 (by omega) Hga0.out hlo.1)
              have K1 := Lib.hid (show ∀ u, Calls Tryz.prog 47 #[.int .i64 1, .pointer (some ⟨Z.heap.size + 1, 0, none⟩), .pointer (some ⟨wr.heap.size, 0, none⟩)] (ov3.f u) (fun e w' => e = .returned (.int .u32 a1) ∧ ∃ m, w' = ov3.f m) from fun u => HCl.out u 1 a1 (by omega) Hga1.out hlo.2)
              have HbF := Lib.hid (show ∀ u, Below Z.heap.size Z (ov3.f u) ∧ Z.heap.size + 1 < (ov3.f u).heap.size ∧ Hid ((ov3.f u).heap[Z.heap.size]? = some (.cells (fillC (T.valsTo t env (j + 1)) n).toArray 26 (0, 0))) ∧ Hid ((ov3.f u).heap[Z.heap.size + 1]? = some (.cells #[.slice (some ⟨Z.heap.size, 0, none⟩) n n] 23 (0, 0))) from fun u => by
                have hu := ov3.below u
                have hus := hu.size
                exact ⟨Hg1.out.trans (hu.mono Hg1.out.size), by omega, Lib.hid (row_step (Lib.hid hu) Hg3.out), Lib.hid (row_step (Lib.hid hu) Hg4.out)⟩)
              clear hlo hnx hal hb3 HCl a0r a1r hf4 hwv
              by_cases hgt : bj < wv
              · have Hbn2 := Lib.hid (show V.badTo t (R.need t) (T.vals t env) (j + 1) = wv from by rw [Hbn.out]; omega)
                go_upto_region 21 with (fail)
                refine wp_region_ovq ov3 (by kernel_rfl) (by kernel_rfl) ?_
                repeat (go_big_quiet_step (first | (go_at_call 47; with_reducible exact K0.out _) | (go_at_call 47; with_reducible exact K1.out _) | (go_at_call 51; with_reducible exact HWo.out _)))
                refine wpQuiet_nil ?_
                rintro _ ⟨u, rfl⟩
                obtain ⟨g1, g2, g3, g4⟩ := HbF.out u
                clear p0 p1 p2 p3 p4 y0 y1 y2 y3 y4 hcn K0 K1 HWo HbF
                generalize ov3.f u = w5 at *
                go_wp2
                go_roundg (gk - 1)
                case measure => have := Hgk.out; omega
                case rel => have := Hgk.out; exact ⟨j + 1, by omega, by rw [Hbn2.out], by go_num, by omega, g1, g2, g3, g4⟩
              · have Hbn2 := Lib.hid (show V.badTo t (R.need t) (T.vals t env) (j + 1) = bj from by rw [Hbn.out]; omega)
                go_upto_region 21 with (fail)
                refine wp_region_ovq ov3 (by kernel_rfl) (by kernel_rfl) ?_
                repeat (go_big_quiet_step (first | (go_at_call 47; with_reducible exact K0.out _) | (go_at_call 47; with_reducible exact K1.out _) | (go_at_call 51; with_reducible exact HWo.out _)))
                refine wpQuiet_nil ?_
                rintro _ ⟨u, rfl⟩
                obtain ⟨g1, g2, g3, g4⟩ := HbF.out u
                clear p0 p1 p2 p3 p4 y0 y1 y2 y3 y4 hcn K0 K1 HWo HbF
                generalize ov3.f u = w5 at *
                go_wp2
                go_roundg (gk - 1)
                case measure => have := Hgk.out; omega
                case rel => have := Hgk.out; exact ⟨j + 1, by omega, by rw [Hbn2.out], by go_num, by omega, g1, g2, g3, g4⟩
        · obtain rfl : j = n := by omega
          have hrow := HG.out
          rw [fillC_full (T.valsTo_len t env j), show T.valsTo t env j = T.vals t env from by unfold T.vals; rw [Hlen.out]] at hrow
          have Hrow := Lib.hid hrow
          have ho1 : wr.cell? ⟨Z.heap.size + 1, 0, none⟩ = some (.slice (some ⟨Z.heap.size, 0, none⟩) j j) := by rw [cell_of_row _ _ _ _ _ (0, 0) HO.out]; rfl
          have Hb := Lib.hid (HbZ.out.trans (hbw.mono HbZ.out.size))
          have hbad : V.bad t env = bj := by unfold V.bad; rw [Hlen.out]; exact Hbj.out
          have hf := Hf.out
          rw [hbad, Hlen.out] at hf
          clear hrow hbw HG
          by_cases hb0 : 0 < bj
          · have q : decide (0 < bj) = true := by simpa using hb0
            have Hfe := Lib.hid (hf.trans (if_pos hb0))
            clear hf hb0
            go_wp2
            go_ret3
            exact ⟨by rw [Hfe.out]; rfl, Hb.out⟩
          · have q : decide (0 < bj) = false := by simpa using hb0
            have Hfe := Lib.hid (hf.trans (if_neg hb0))
            have hc : wr.cell? ⟨Z.heap.size, j - 1, none⟩ = some (.int .u32 ((T.vals t env).getD (j - 1) 0)) := by
              rw [cell_of_row _ _ _ _ _ (0, 0) Hrow.out, List.getElem?_toArray, List.getElem?_map, List.getD_eq_getElem?_getD, List.getElem?_eq_getElem (show j - 1 < (T.vals t env).length by rw [T.vals_len, Hlen.out]; omega)]
              rfl
            obtain ⟨j', rfl⟩ : ∃ j', j = j' + 1 := ⟨j - 1, by omega⟩
            rw [show j' + 1 - 1 = j' by omega] at hc Hfe
            clear hf hb0
            go_wp2
            go_ret3
            exact ⟨by rw [Hfe.out]; rfl, Hb.out⟩
end Go.Proofs.YtbiopedpceddeaaGreatDoor
