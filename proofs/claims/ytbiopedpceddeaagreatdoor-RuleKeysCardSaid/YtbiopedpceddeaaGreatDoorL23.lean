/- Rules: the width at which a pattern is met (the program's width). -/
import Derived.Test.YtbiopedpceddeaaGreatDoorL22
set_option linter.unusedVariables false
set_option linter.unusedSimpArgs false
namespace Go.Proofs.YtbiopedpceddeaaGreatDoor
open Go.RowKit
set_option linter.unusedVariables false
set_option linter.unusedSimpArgs false

namespace R
theorem wd1_nonneg : ∀ (p t : T.F), 0 ≤ wd1 p t
  | .nil, t => by cases t <;> simp [wd1]
  | .cons _ _ _ _ pk pr, .nil => by simp [wd1]
  | .cons _ _ _ _ pk pr, .cons _ _ _ _ tk tr => by
    simp only [wd1]
    have := wd1_nonneg pr tr
    split <;> omega
theorem wd1_step {fc fd kx ky rc rd : T.F} {p t : List T.Nd} {c d : Int} (hc : T.Rep p [c] fc) (hd : T.Rep t [d] fd) (ec : kx = fc.app rc) (ed : ky = fd.app rd) : wd1 kx ky = if 0 < wd1 fc fd then wd1 fc fd else wd1 rc rd := by
  cases hc with
  | cons _ _ _ h1 =>
    cases h1
    cases hd with
    | cons _ _ _ h2 =>
      cases h2
      subst ec
      subst ed
      simp only [T.F.app, wd1]
      repeat' split
      all_goals first | rfl | omega
end R
theorem drop_at {α : Type} {l : List α} {j : Nat} {x : α} (h : l[j]? = some x) : l.drop j = x :: l.drop (j + 1) := by
  obtain ⟨h1, h2⟩ := List.getElem?_eq_some_iff.1 h
  rw [List.drop_eq_getElem_cons h1, h2]
theorem T.Rep.head {t : List T.Nd} {a : Int} {la : List Int} {f : T.F} (h : T.Rep t (a :: la) f) : ∃ g r, f = g.app r ∧ T.Rep t [a] g ∧ T.Rep t la r := by
  cases h with
  | @cons _ _ x kids rest h0 hx hk hr => exact ⟨.cons x.op x.w x.fl x.imm kids .nil, rest, rfl, .cons h0 hx hk .nil, hr⟩

set_option maxRecDepth 100000 in
set_option maxHeartbeats 4000000 in
theorem gwidth_any {p t : List T.Nd} {np nt cp ct : Nat} {Ap At : Option Addr} (op : T.Ord p) (ot : T.Ord t) (hwt : ∀ x ∈ t, 0 < x.w) :
    ∀ (a : Nat), a < np → ∀ (k : Nat), k < nt → ∀ (W : World), StAt 5 NdR W Ap np p → StAt 5 NdR W At nt t → ∀ (fp ft : T.F), T.Rep p [(a : Int)] fp → T.Rep t [(k : Int)] ft →
      Calls Tryz.prog 148 #[.slice Ap np cp, .slice At nt ct, .int .i64 (a : Int), .int .i64 (k : Int)] W fun e W' => e = .returned (.int .i64 (R.wd1 fp ft)) ∧ Below W.heap.size W W' := by
  intro a
  induction a using Nat.strongRecOn with
  | ind a ih =>
    intro ha k hk W hP hT fp ft hfp hft
    have Hih := Lib.hid ih
    have HP := Lib.hid hP
    have HT := Lib.hid hT
    have Hop := Lib.hid op
    have Hot := Lib.hid ot
    have Hwt := Lib.hid hwt
    obtain ⟨x, b, off, Ax, cx, ex, rfl, hb, h0, h1, h2, h3, h4, hs, i0, i1⟩ := nd_cells HP.out ha
    obtain ⟨y, b', off', Ay, cy, ey, rfl, hb', h0', h1', h2', h3', h4', hs', i0', i1'⟩ := nd_cells HT.out hk
    obtain ⟨kx, hkx⟩ := T.Rep.ex op np (by rw [← hP.len]; exact Nat.le_refl _) x.args (fun c hc => by have := op a x ex c hc; omega)
    obtain ⟨ky, hky⟩ := T.Rep.ex ot nt (by rw [← hT.len]; exact Nat.le_refl _) y.args (fun c hc => by have := ot k y ey c hc; omega)
    have efp : fp = .cons x.op x.w x.fl x.imm kx .nil := hfp.det (T.Rep.cons (by omega) (by rw [Int.toNat_natCast]; exact ex) hkx .nil)
    have eft : ft = .cons y.op y.w y.fl y.imm ky .nil := hft.det (T.Rep.cons (by omega) (by rw [Int.toNat_natCast]; exact ey) hky .nil)
    have Hx := Lib.hid ex
    have Hy := Lib.hid ey
    have Hs := Lib.hid hs
    have Hs' := Lib.hid hs'
    have Hkx := Lib.hid hkx
    have Hky := Lib.hid hky
    have Hwy := Lib.hid (hwt y (List.mem_of_getElem? ey))
    have Hv := Lib.hid (show R.wd1 fp ft = if 0 < (if x.op = 33 ∨ x.op = 34 then y.w else if kx.len ≠ ky.len then 0 else R.wd1 kx ky) then (if x.op = 33 ∨ x.op = 34 then y.w else if kx.len ≠ ky.len then 0 else R.wd1 kx ky) else 0 from by rw [efp, eft]; rfl)
    have Hlx := Lib.hid hkx.len
    have Hly := Lib.hid hky.len
    clear ih hP hT op ot hwt hfp hft efp eft ex ey hs hs' hkx hky hb hb' i0 i1 i0' i1'
    go_enter Tryz.func148, Tryz.ntmps148
    go_wp2
    have bu : Below W.heap.size W (W.alloc (.cells #[.int .i64 0, .int .i64 0, .int .i64 0, .slice none 0 0, .int .u32 0] 62)) := ((Below.refl _ _).alloc (Nat.le_refl _) _)
    have u0p := (bu.cell (p := ⟨b, off + a * 5, none⟩) (cell_below h0)).trans h0
    have u1p := (bu.cell (p := ⟨b, off + a * 5 + 1, none⟩) (cell_below h1)).trans h1
    have u2p := (bu.cell (p := ⟨b, off + a * 5 + 2, none⟩) (cell_below h2)).trans h2
    have u3p := (bu.cell (p := ⟨b, off + a * 5 + 3, none⟩) (cell_below h3)).trans h3
    have u4p := (bu.cell (p := ⟨b, off + a * 5 + 4, none⟩) (cell_below h4)).trans h4
    have u0q := (bu.cell (p := ⟨b', off' + k * 5, none⟩) (cell_below h0')).trans h0'
    have u1q := (bu.cell (p := ⟨b', off' + k * 5 + 1, none⟩) (cell_below h1')).trans h1'
    have u2q := (bu.cell (p := ⟨b', off' + k * 5 + 2, none⟩) (cell_below h2')).trans h2'
    have u3q := (bu.cell (p := ⟨b', off' + k * 5 + 3, none⟩) (cell_below h3')).trans h3'
    have u4q := (bu.cell (p := ⟨b', off' + k * 5 + 4, none⟩) (cell_below h4')).trans h4'
    have bv : Below W.heap.size W ((W.alloc (.cells #[.int .i64 0, .int .i64 0, .int .i64 0, .slice none 0 0, .int .u32 0] 62)).alloc (.cells #[.int .i64 0, .int .i64 0, .int .i64 0, .slice none 0 0, .int .u32 0] 62)) := (((Below.refl _ _).alloc (Nat.le_refl _) _).alloc (by simp) _)
    have v0p := (bv.cell (p := ⟨b, off + a * 5, none⟩) (cell_below h0)).trans h0
    have v1p := (bv.cell (p := ⟨b, off + a * 5 + 1, none⟩) (cell_below h1)).trans h1
    have v2p := (bv.cell (p := ⟨b, off + a * 5 + 2, none⟩) (cell_below h2)).trans h2
    have v3p := (bv.cell (p := ⟨b, off + a * 5 + 3, none⟩) (cell_below h3)).trans h3
    have v4p := (bv.cell (p := ⟨b, off + a * 5 + 4, none⟩) (cell_below h4)).trans h4
    have v0q := (bv.cell (p := ⟨b', off' + k * 5, none⟩) (cell_below h0')).trans h0'
    have v1q := (bv.cell (p := ⟨b', off' + k * 5 + 1, none⟩) (cell_below h1')).trans h1'
    have v2q := (bv.cell (p := ⟨b', off' + k * 5 + 2, none⟩) (cell_below h2')).trans h2'
    have v3q := (bv.cell (p := ⟨b', off' + k * 5 + 3, none⟩) (cell_below h3')).trans h3'
    have v4q := (bv.cell (p := ⟨b', off' + k * 5 + 4, none⟩) (cell_below h4')).trans h4'
    have bs : Below W.heap.size W ((W.alloc (.cells #[.int .i64 0, .int .i64 0, .int .i64 0, .slice none 0 0, .int .u32 0] 62)).alloc (.cells #[.int .i64 x.op, .int .i64 x.w, .int .i64 x.fl, .slice Ax x.args.length cx, .int .u32 x.imm] 62)) := (((Below.refl _ _).alloc (Nat.le_refl _) _).alloc (by simp) _)
    have s0p := (bs.cell (p := ⟨b, off + a * 5, none⟩) (cell_below h0)).trans h0
    have s1p := (bs.cell (p := ⟨b, off + a * 5 + 1, none⟩) (cell_below h1)).trans h1
    have s2p := (bs.cell (p := ⟨b, off + a * 5 + 2, none⟩) (cell_below h2)).trans h2
    have s3p := (bs.cell (p := ⟨b, off + a * 5 + 3, none⟩) (cell_below h3)).trans h3
    have s4p := (bs.cell (p := ⟨b, off + a * 5 + 4, none⟩) (cell_below h4)).trans h4
    have s0q := (bs.cell (p := ⟨b', off' + k * 5, none⟩) (cell_below h0')).trans h0'
    have s1q := (bs.cell (p := ⟨b', off' + k * 5 + 1, none⟩) (cell_below h1')).trans h1'
    have s2q := (bs.cell (p := ⟨b', off' + k * 5 + 2, none⟩) (cell_below h2')).trans h2'
    have s3q := (bs.cell (p := ⟨b', off' + k * 5 + 3, none⟩) (cell_below h3')).trans h3'
    have s4q := (bs.cell (p := ⟨b', off' + k * 5 + 4, none⟩) (cell_below h4')).trans h4'
    have bt : Below W.heap.size W ((W.alloc (.cells #[.int .i64 x.op, .int .i64 x.w, .int .i64 x.fl, .slice Ax x.args.length cx, .int .u32 x.imm] 62)).alloc (.cells #[.int .i64 0, .int .i64 0, .int .i64 0, .slice none 0 0, .int .u32 0] 62)) := (((Below.refl _ _).alloc (Nat.le_refl _) _).alloc (by simp) _)
    have t0p := (bt.cell (p := ⟨b, off + a * 5, none⟩) (cell_below h0)).trans h0
    have t1p := (bt.cell (p := ⟨b, off + a * 5 + 1, none⟩) (cell_below h1)).trans h1
    have t2p := (bt.cell (p := ⟨b, off + a * 5 + 2, none⟩) (cell_below h2)).trans h2
    have t3p := (bt.cell (p := ⟨b, off + a * 5 + 3, none⟩) (cell_below h3)).trans h3
    have t4p := (bt.cell (p := ⟨b, off + a * 5 + 4, none⟩) (cell_below h4)).trans h4
    have t0q := (bt.cell (p := ⟨b', off' + k * 5, none⟩) (cell_below h0')).trans h0'
    have t1q := (bt.cell (p := ⟨b', off' + k * 5 + 1, none⟩) (cell_below h1')).trans h1'
    have t2q := (bt.cell (p := ⟨b', off' + k * 5 + 2, none⟩) (cell_below h2')).trans h2'
    have t3q := (bt.cell (p := ⟨b', off' + k * 5 + 3, none⟩) (cell_below h3')).trans h3'
    have t4q := (bt.cell (p := ⟨b', off' + k * 5 + 4, none⟩) (cell_below h4')).trans h4'
    go_region
    · clear bu u0p u1p u2p u3p u4p u0q u1q u2q u3q u4q bv v0p v1p v2p v3p v4p v0q v1q v2q v3q v4q bs s0p s1p s2p s3p s4p s0q s1q s2q s3q s4q bt t0p t1p t2p t3p t4p t0q t1q t2q t3q t4q h0 h1 h2 h3 h4 h0' h1' h2' h3' h4'
      obtain ⟨W1, hW1⟩ : ∃ W1, W1 = ((W.alloc (.cells #[.int .i64 x.op, .int .i64 x.w, .int .i64 x.fl, .slice Ax x.args.length cx, .int .u32 x.imm] 62)).alloc (.cells #[.int .i64 y.op, .int .i64 y.w, .int .i64 y.fl, .slice Ay y.args.length cy, .int .u32 y.imm] 62)).drew := ⟨_, rfl⟩
      have hb1 : Below W.heap.size W W1 := by rw [hW1]; exact (((Below.refl _ _).alloc (Nat.le_refl _) _).alloc (by simp) _).drew
      have hra : W1.heap[W.heap.size]? = some (.cells #[.int .i64 x.op, .int .i64 x.w, .int .i64 x.fl, .slice Ax x.args.length cx, .int .u32 x.imm] 62 (0, 0)) := by rw [hW1]; exact row_alloc (heap_alloc_new W _) _
      have hrb : W1.heap[W.heap.size + 1]? = some (.cells #[.int .i64 y.op, .int .i64 y.w, .int .i64 y.fl, .slice Ay y.args.length cy, .int .u32 y.imm] 62 (0, 0)) := by rw [hW1]; exact new_two W _ _
      obtain ⟨x0, x1, x2, x3, x4⟩ := nd5_cells hra
      obtain ⟨y0, y1, y2, y3, y4⟩ := nd5_cells hrb
      have Hb1 := Lib.hid hb1
      have HRy := Lib.hid (show W1.heap[W.heap.size + 1]? = _ from hrb)
      rw [← hW1]
      clear hW1 hb1 hra hrb
      by_cases ho : x.op = 33 ∨ x.op = 34
      · have Hv2 := Lib.hid (show R.wd1 fp ft = y.w from by rw [Hv.out, if_pos ho, if_pos Hwy.out])
        by_cases h33 : x.op = 33
        · have q : (x.op == 33) = true := by simpa using h33
          clear ho h33
          go_wp2
          go_ret
          exact ⟨ret_int Hv2.out.symm, Hb1.out⟩
        · have q : (x.op == 33) = false := by simpa using h33
          have q2 : (x.op == 34) = true := by simp; omega
          clear ho h33
          go_wp2
          go_ret
          exact ⟨ret_int Hv2.out.symm, Hb1.out⟩
      have q : (x.op == 33) = false := by simp; omega
      have q2 : (x.op == 34) = false := by simp; omega
      have Hv2 := Lib.hid (show R.wd1 fp ft = if 0 < (if kx.len ≠ ky.len then 0 else R.wd1 kx ky) then (if kx.len ≠ ky.len then 0 else R.wd1 kx ky) else 0 from by rw [Hv.out, if_neg ho])
      have hlx := Hs.out.le
      have hly := Hs'.out.le
      by_cases hl : x.args.length = y.args.length
      rotate_left
      · have q3 : ((x.args.length : Int) != (y.args.length : Int)) = true := by simp; omega
        have Hv3 := Lib.hid (show R.wd1 fp ft = 0 from by
          have hz : (if kx.len ≠ ky.len then 0 else R.wd1 kx ky) = 0 := if_pos (by rw [Hlx.out, Hly.out]; exact hl)
          rw [Hv2.out, hz]; rfl)
        clear ho hl
        go_wp2
        go_ret
        exact ⟨ret_int Hv3.out.symm, Hb1.out⟩
      have q3 : ((x.args.length : Int) != (y.args.length : Int)) = false := by simp; omega
      have Hv3 := Lib.hid (show R.wd1 fp ft = R.wd1 kx ky from by
        have hz : (if kx.len ≠ ky.len then 0 else R.wd1 kx ky) = R.wd1 kx ky := if_neg (by rw [Hlx.out, Hly.out]; simpa using hl)
        rw [Hv2.out, hz]
        have := R.wd1_nonneg kx ky
        split <;> omega)
      have Hl := Lib.hid hl
      clear ho hl
      go_wp2
      clear q q2 q3 x0 x1 x2 x3 x4 y0 y1 y2 y4 Hv Hv2
      have HY3 := Lib.hid y3
      clear y3
      go_loopg [42] (x.args.length + 1) (fun gg i wr => ∃ (j : Nat), j ≤ x.args.length ∧ i = .int .i64 (j : Int) ∧ gg + j = x.args.length + 1 ∧ Hid (Below W1.heap.size W1 wr) ∧ Hid (∃ kx' ky', T.Rep p (x.args.drop j) kx' ∧ T.Rep t (y.args.drop j) ky' ∧ R.wd1 fp ft = R.wd1 kx' ky'))
      case atStart => exact ⟨0, Nat.zero_le _, rfl, rfl, Lib.hid (Below.refl _ _), Lib.hid ⟨kx, ky, Hkx.out, Hky.out, Hv3.out⟩⟩
      case round =>
        obtain ⟨j, hj, rfl, hgk, Hbw, HO⟩ := hrel
        have Hgk := Lib.hid hgk; clear hgk
        obtain ⟨kx', ky', hk1, hk2, hk3⟩ := HO.out
        by_cases hjl : j < x.args.length
        · have hjl' : j < y.args.length := by rw [← Hl.out]; exact hjl
          obtain ⟨c, bc, offc, uc, hc, rfl, hbc, hcc, rfl⟩ := Hs.out.at_ hjl
          obtain ⟨d, bd, offd, ud, hd, rfl, hbd, hdd, rfl⟩ := Hs'.out.at_ hjl'
          have hbwr := Hb1.out.trans (Hbw.out.mono Hb1.out.size)
          have kc := (hbwr.cell (p := ⟨bc, offc + j, none⟩) hbc).trans hcc
          have kd := (hbwr.cell (p := ⟨bd, offd + j, none⟩) hbd).trans hdd
          have ky3 := (Hbw.out.cell (p := ⟨W.heap.size + 1, 3, none⟩) (cell_below HY3.out)).trans HY3.out
          have hca := Hop.out a x Hx.out c (List.mem_of_getElem? hc)
          have hda := Hot.out k y Hy.out d (List.mem_of_getElem? hd)
          rw [drop_at hc] at hk1
          rw [drop_at hd] at hk2
          obtain ⟨fc, rc, ec, hc1, hc2⟩ := T.Rep.head hk1
          obtain ⟨fd, rd, ed, hd1, hd2⟩ := T.Rep.head hk2
          have Hstep := Lib.hid (R.wd1_step hc1 hd1 ec ed)
          obtain ⟨c, rfl⟩ : ∃ m : Nat, c = m := ⟨c.toNat, by omega⟩
          obtain ⟨d, rfl⟩ : ∃ m : Nat, d = m := ⟨d.toNat, by omega⟩
          have hpl := HP.out.len
          have htl := HT.out.len
          have Hcall := Lib.hid (Hih.out c (by omega) (by omega) d (by omega) wr (HP.out.below monoNd hbwr) (HT.out.below monoNd hbwr) fc fd hc1 hd1)
          have Hrest := Lib.hid (show T.Rep p (x.args.drop (j + 1)) rc ∧ T.Rep t (y.args.drop (j + 1)) rd from ⟨hc2, hd2⟩)
          have Hk3 := Lib.hid hk3
          have Hbwr := Lib.hid hbwr
          obtain ⟨r, hr⟩ : ∃ r, R.wd1 fc fd = r := ⟨_, rfl⟩
          rw [hr] at Hcall Hstep
          clear hk1 hk2 hk3 hc1 hc2 hd1 hd2 ec ed hc hd hbc hcc hbd hdd hca hda hpl htl hr hbwr
          by_cases hr0 : 0 < r
          · go_wp2_with fail
            (with_reducible refine Hcall.out.mono ?_)
            rintro e w3 ⟨rfl, hb3⟩
            have Hb3 := Lib.hid (Hbwr.out.trans (hb3.mono Hbwr.out.size))
            have He := Lib.hid (show R.wd1 fp ft = r from by rw [Hk3.out, Hstep.out, if_pos hr0])
            clear hb3 kc kd ky3
            go_wp2
            go_ret
            exact ⟨ret_int He.out.symm, Hb3.out⟩
          · go_wp2_with fail
            (with_reducible refine Hcall.out.mono ?_)
            rintro e w3 ⟨rfl, hb3⟩
            have Hb3 := Lib.hid (Hbw.out.trans (hb3.mono Hbw.out.size))
            have He := Lib.hid (show R.wd1 fp ft = R.wd1 rc rd from by rw [Hk3.out, Hstep.out, if_neg (by omega)])
            clear hb3 kc kd ky3
            go_wp2
            go_roundg (gk - 1)
            case measure => have := Hgk.out; omega
            case rel =>
              have := Hgk.out
              exact ⟨j + 1, by omega, by go_num, by omega, Hb3, Lib.hid ⟨rc, rd, Hrest.out.1, Hrest.out.2, He.out⟩⟩
        · obtain rfl : j = x.args.length := by omega
          have He := Lib.hid (show R.wd1 fp ft = 0 from by
            rw [List.drop_length] at hk1
            rw [Hl.out, List.drop_length] at hk2
            cases hk1
            cases hk2
            rw [hk3]; rfl)
          clear hk1 hk2 hk3
          have Hbwr := Lib.hid (Hb1.out.trans (Hbw.out.mono Hb1.out.size))
          go_wp2
          go_ret
          exact ⟨ret_int He.out.symm, Hbwr.out⟩
    · clear bu u0p u1p u2p u3p u4p u0q u1q u2q u3q u4q bv v0p v1p v2p v3p v4p v0q v1q v2q v3q v4q bs s0p s1p s2p s3p s4p s0q s1q s2q s3q s4q bt t0p t1p t2p t3p t4p t0q t1q t2q t3q t4q h0 h1 h2 h3 h4 h0' h1' h2' h3' h4'
      obtain ⟨W1, hW1⟩ : ∃ W1, W1 = ((W.alloc (.cells #[.int .i64 y.op, .int .i64 y.w, .int .i64 y.fl, .slice Ay y.args.length cy, .int .u32 y.imm] 62)).alloc (.cells #[.int .i64 x.op, .int .i64 x.w, .int .i64 x.fl, .slice Ax x.args.length cx, .int .u32 x.imm] 62)).drew := ⟨_, rfl⟩
      have hb1 : Below W.heap.size W W1 := by rw [hW1]; exact (((Below.refl _ _).alloc (Nat.le_refl _) _).alloc (by simp) _).drew
      have hra : W1.heap[W.heap.size]? = some (.cells #[.int .i64 y.op, .int .i64 y.w, .int .i64 y.fl, .slice Ay y.args.length cy, .int .u32 y.imm] 62 (0, 0)) := by rw [hW1]; exact row_alloc (heap_alloc_new W _) _
      have hrb : W1.heap[W.heap.size + 1]? = some (.cells #[.int .i64 x.op, .int .i64 x.w, .int .i64 x.fl, .slice Ax x.args.length cx, .int .u32 x.imm] 62 (0, 0)) := by rw [hW1]; exact new_two W _ _
      obtain ⟨x0, x1, x2, x3, x4⟩ := nd5_cells hrb
      obtain ⟨y0, y1, y2, y3, y4⟩ := nd5_cells hra
      have Hb1 := Lib.hid hb1
      have HRy := Lib.hid (show W1.heap[W.heap.size]? = _ from hra)
      rw [← hW1]
      clear hW1 hb1 hra hrb
      by_cases ho : x.op = 33 ∨ x.op = 34
      · have Hv2 := Lib.hid (show R.wd1 fp ft = y.w from by rw [Hv.out, if_pos ho, if_pos Hwy.out])
        by_cases h33 : x.op = 33
        · have q : (x.op == 33) = true := by simpa using h33
          clear ho h33
          go_wp2
          go_ret
          exact ⟨ret_int Hv2.out.symm, Hb1.out⟩
        · have q : (x.op == 33) = false := by simpa using h33
          have q2 : (x.op == 34) = true := by simp; omega
          clear ho h33
          go_wp2
          go_ret
          exact ⟨ret_int Hv2.out.symm, Hb1.out⟩
      have q : (x.op == 33) = false := by simp; omega
      have q2 : (x.op == 34) = false := by simp; omega
      have Hv2 := Lib.hid (show R.wd1 fp ft = if 0 < (if kx.len ≠ ky.len then 0 else R.wd1 kx ky) then (if kx.len ≠ ky.len then 0 else R.wd1 kx ky) else 0 from by rw [Hv.out, if_neg ho])
      have hlx := Hs.out.le
      have hly := Hs'.out.le
      by_cases hl : x.args.length = y.args.length
      rotate_left
      · have q3 : ((x.args.length : Int) != (y.args.length : Int)) = true := by simp; omega
        have Hv3 := Lib.hid (show R.wd1 fp ft = 0 from by
          have hz : (if kx.len ≠ ky.len then 0 else R.wd1 kx ky) = 0 := if_pos (by rw [Hlx.out, Hly.out]; exact hl)
          rw [Hv2.out, hz]; rfl)
        clear ho hl
        go_wp2
        go_ret
        exact ⟨ret_int Hv3.out.symm, Hb1.out⟩
      have q3 : ((x.args.length : Int) != (y.args.length : Int)) = false := by simp; omega
      have Hv3 := Lib.hid (show R.wd1 fp ft = R.wd1 kx ky from by
        have hz : (if kx.len ≠ ky.len then 0 else R.wd1 kx ky) = R.wd1 kx ky := if_neg (by rw [Hlx.out, Hly.out]; simpa using hl)
        rw [Hv2.out, hz]
        have := R.wd1_nonneg kx ky
        split <;> omega)
      have Hl := Lib.hid hl
      clear ho hl
      go_wp2
      clear q q2 q3 x0 x1 x2 x3 x4 y0 y1 y2 y4 Hv Hv2
      have HY3 := Lib.hid y3
      clear y3
      go_loopg [42] (x.args.length + 1) (fun gg i wr => ∃ (j : Nat), j ≤ x.args.length ∧ i = .int .i64 (j : Int) ∧ gg + j = x.args.length + 1 ∧ Hid (Below W1.heap.size W1 wr) ∧ Hid (∃ kx' ky', T.Rep p (x.args.drop j) kx' ∧ T.Rep t (y.args.drop j) ky' ∧ R.wd1 fp ft = R.wd1 kx' ky'))
      case atStart => exact ⟨0, Nat.zero_le _, rfl, rfl, Lib.hid (Below.refl _ _), Lib.hid ⟨kx, ky, Hkx.out, Hky.out, Hv3.out⟩⟩
      case round =>
        obtain ⟨j, hj, rfl, hgk, Hbw, HO⟩ := hrel
        have Hgk := Lib.hid hgk; clear hgk
        obtain ⟨kx', ky', hk1, hk2, hk3⟩ := HO.out
        by_cases hjl : j < x.args.length
        · have hjl' : j < y.args.length := by rw [← Hl.out]; exact hjl
          obtain ⟨c, bc, offc, uc, hc, rfl, hbc, hcc, rfl⟩ := Hs.out.at_ hjl
          obtain ⟨d, bd, offd, ud, hd, rfl, hbd, hdd, rfl⟩ := Hs'.out.at_ hjl'
          have hbwr := Hb1.out.trans (Hbw.out.mono Hb1.out.size)
          have kc := (hbwr.cell (p := ⟨bc, offc + j, none⟩) hbc).trans hcc
          have kd := (hbwr.cell (p := ⟨bd, offd + j, none⟩) hbd).trans hdd
          have ky3 := (Hbw.out.cell (p := ⟨W.heap.size, 3, none⟩) (cell_below HY3.out)).trans HY3.out
          have hca := Hop.out a x Hx.out c (List.mem_of_getElem? hc)
          have hda := Hot.out k y Hy.out d (List.mem_of_getElem? hd)
          rw [drop_at hc] at hk1
          rw [drop_at hd] at hk2
          obtain ⟨fc, rc, ec, hc1, hc2⟩ := T.Rep.head hk1
          obtain ⟨fd, rd, ed, hd1, hd2⟩ := T.Rep.head hk2
          have Hstep := Lib.hid (R.wd1_step hc1 hd1 ec ed)
          obtain ⟨c, rfl⟩ : ∃ m : Nat, c = m := ⟨c.toNat, by omega⟩
          obtain ⟨d, rfl⟩ : ∃ m : Nat, d = m := ⟨d.toNat, by omega⟩
          have hpl := HP.out.len
          have htl := HT.out.len
          have Hcall := Lib.hid (Hih.out c (by omega) (by omega) d (by omega) wr (HP.out.below monoNd hbwr) (HT.out.below monoNd hbwr) fc fd hc1 hd1)
          have Hrest := Lib.hid (show T.Rep p (x.args.drop (j + 1)) rc ∧ T.Rep t (y.args.drop (j + 1)) rd from ⟨hc2, hd2⟩)
          have Hk3 := Lib.hid hk3
          have Hbwr := Lib.hid hbwr
          obtain ⟨r, hr⟩ : ∃ r, R.wd1 fc fd = r := ⟨_, rfl⟩
          rw [hr] at Hcall Hstep
          clear hk1 hk2 hk3 hc1 hc2 hd1 hd2 ec ed hc hd hbc hcc hbd hdd hca hda hpl htl hr hbwr
          by_cases hr0 : 0 < r
          · go_wp2_with fail
            (with_reducible refine Hcall.out.mono ?_)
            rintro e w3 ⟨rfl, hb3⟩
            have Hb3 := Lib.hid (Hbwr.out.trans (hb3.mono Hbwr.out.size))
            have He := Lib.hid (show R.wd1 fp ft = r from by rw [Hk3.out, Hstep.out, if_pos hr0])
            clear hb3 kc kd ky3
            go_wp2
            go_ret
            exact ⟨ret_int He.out.symm, Hb3.out⟩
          · go_wp2_with fail
            (with_reducible refine Hcall.out.mono ?_)
            rintro e w3 ⟨rfl, hb3⟩
            have Hb3 := Lib.hid (Hbw.out.trans (hb3.mono Hbw.out.size))
            have He := Lib.hid (show R.wd1 fp ft = R.wd1 rc rd from by rw [Hk3.out, Hstep.out, if_neg (by omega)])
            clear hb3 kc kd ky3
            go_wp2
            go_roundg (gk - 1)
            case measure => have := Hgk.out; omega
            case rel =>
              have := Hgk.out
              exact ⟨j + 1, by omega, by go_num, by omega, Hb3, Lib.hid ⟨rc, rd, Hrest.out.1, Hrest.out.2, He.out⟩⟩
        · obtain rfl : j = x.args.length := by omega
          have He := Lib.hid (show R.wd1 fp ft = 0 from by
            rw [List.drop_length] at hk1
            rw [Hl.out, List.drop_length] at hk2
            cases hk1
            cases hk2
            rw [hk3]; rfl)
          clear hk1 hk2 hk3
          have Hbwr := Lib.hid (Hb1.out.trans (Hbw.out.mono Hb1.out.size))
          go_wp2
          go_ret
          exact ⟨ret_int He.out.symm, Hbwr.out⟩
end Go.Proofs.YtbiopedpceddeaaGreatDoor
