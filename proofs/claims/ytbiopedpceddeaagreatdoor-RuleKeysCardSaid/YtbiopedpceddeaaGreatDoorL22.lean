/- Rules: comparing nodes (the program): slices.Equal at numbers, sameNode, slices.EqualFunc. -/
import Derived.Test.YtbiopedpceddeaaGreatDoorL21
set_option linter.unusedVariables false
set_option linter.unusedSimpArgs false
namespace Go.Proofs.YtbiopedpceddeaaGreatDoor
open Go.RowKit
set_option linter.unusedVariables false
set_option linter.unusedSimpArgs false

theorem take_eq_step {α : Type} {l m : List α} {j : Nat} {x : α} (h : l.take j = m.take j) (h1 : l[j]? = some x) (h2 : m[j]? = some x) : l.take (j + 1) = m.take (j + 1) := by
  rw [take_next h1, take_next h2, h]

set_option maxRecDepth 100000 in
set_option maxHeartbeats 1000000 in
theorem eqInts_any {A A' : Option Addr} {n n' c c' : Nat} {xs ys : List Int} {W : World} (hx : SlAt (IntR .i64) W A n xs) (hy : SlAt (IntR .i64) W A' n' ys) :
    Calls Tryz.prog 64 #[.slice A n c, .slice A' n' c'] W fun e W' => e = .returned (.bool (decide (xs = ys))) ∧ Below W.heap.size W W' := by
  have hlx := hx.len
  have hly := hy.len
  have hlex := hx.le
  have hley := hy.le
  have HX := Lib.hid hx
  have HY := Lib.hid hy
  have Hlx := Lib.hid hlx
  have Hly := Lib.hid hly
  clear hx hy hlx hly
  by_cases hn : n = n'
  rotate_left
  · have q : ((n : Int) != (n' : Int)) = true := by simp; omega
    have Hne := Lib.hid (show decide (xs = ys) = false from by simp; rintro rfl; exact hn (Hlx.out.symm.trans Hly.out))
    clear hn
    go_enter Tryz.func64, Tryz.ntmps64
    go_wp2
    go_ret
    exact ⟨ret_bool Hne.out.symm, Below.refl _ _⟩
  subst hn
  have q : ((n : Int) != (n : Int)) = false := by simp
  go_enter Tryz.func64, Tryz.ntmps64
  go_wp2
  clear q
  go_loopg [13] (n + 1) (fun gg i wr => ∃ (j : Nat), j ≤ n ∧ i = .int .i64 (j : Int) ∧ gg + j = n + 1 ∧ Hid (Below W.heap.size W wr) ∧ Hid (xs.take j = ys.take j))
  case atStart => exact ⟨0, Nat.zero_le _, rfl, rfl, Lib.hid (Below.refl _ _), Lib.hid rfl⟩
  case round =>
    obtain ⟨j, hj, rfl, hgk, Hbw, HO⟩ := hrel
    have Hgk := Lib.hid hgk; clear hgk
    by_cases hjn : j < n
    · obtain ⟨x, b, off, u, ex, rfl, hb, hc, rfl⟩ := HX.out.at_ hjn
      obtain ⟨y, b', off', u', ey, rfl, hb', hc', rfl⟩ := HY.out.at_ hjn
      have k0 := (Hbw.out.cell (p := ⟨b, off + j, none⟩) hb).trans hc
      have k1 := (Hbw.out.cell (p := ⟨b', off' + j, none⟩) hb').trans hc'
      have Hex := Lib.hid ex
      have Hey := Lib.hid ey
      clear ex ey hb hb' hc hc'
      by_cases hxy : x = y
      · subst hxy
        have q : (x != x) = false := by simp
        go_wp2
        obtain ⟨ov⟩ := ov_ex wr
        have o0 := ov.cell k0
        have o1 := ov.cell k1
        refine wp_region_ovq ov (by kernel_rfl) (by kernel_rfl) ?_
        repeat (go_big_quiet_step (fail))
        refine wpQuiet_nil ?_
        rintro _ ⟨u, rfl⟩
        have Hbo := Lib.hid (Hbw.out.trans ((ov.below u).mono Hbw.out.size))
        clear o0 o1 k0 k1
        generalize ov.f u = w2 at *
        go_wp2
        go_roundg (gk - 1)
        case measure => have := Hgk.out; omega
        case rel =>
          have := Hgk.out
          exact ⟨j + 1, by omega, by go_num, by omega, Hbo, Lib.hid (take_eq_step HO.out Hex.out Hey.out)⟩
      · have q : (x != y) = true := by simpa using hxy
        have Hne := Lib.hid (show decide (xs = ys) = false from by
          simp
          rintro rfl
          have := Hex.out.symm.trans Hey.out
          exact hxy (Option.some.inj this))
        clear hxy
        go_wp2
        obtain ⟨ov⟩ := ov_ex wr
        have o0 := ov.cell k0
        have o1 := ov.cell k1
        refine wp_region_ovq ov (by kernel_rfl) (by kernel_rfl) ?_
        repeat (go_big_quiet_step (fail))
        refine wpQuiet_nil ?_
        rintro _ ⟨u, rfl⟩
        have Hbo := Lib.hid (Hbw.out.trans ((ov.below u).mono Hbw.out.size))
        clear o0 o1 k0 k1
        generalize ov.f u = w2 at *
        go_wp2
        go_ret
        exact ⟨ret_bool Hne.out.symm, Hbo.out⟩
    · obtain rfl : j = n := by omega
      have he := HO.out
      rw [List.take_of_length_le (by rw [Hlx.out]; exact Nat.le_refl _), List.take_of_length_le (by rw [Hly.out]; exact Nat.le_refl _)] at he
      have Heq := Lib.hid (show decide (xs = ys) = true from by simpa using he)
      clear he
      go_wp2
      go_ret
      exact ⟨ret_bool Heq.out.symm, Hbw.out⟩

set_option maxRecDepth 100000 in
set_option maxHeartbeats 2000000 in
theorem gsameNode_any {x y : T.Nd} {A A' : Option Addr} {c c' : Nat} {W : World} (hx : SlAt (IntR .i64) W A x.args.length x.args) (hy : SlAt (IntR .i64) W A' y.args.length y.args) :
    Calls Tryz.prog 188 #[ndV x A c, ndV y A' c'] W fun e W' => e = .returned (.bool (decide (x = y))) ∧ Below W.heap.size W W' := by
  obtain ⟨W2, hW2⟩ : ∃ W2, W2 = (W.alloc (.cells #[.int .i64 x.op, .int .i64 x.w, .int .i64 x.fl, .slice A x.args.length c, .int .u32 x.imm] 62)).alloc (.cells #[.int .i64 y.op, .int .i64 y.w, .int .i64 y.fl, .slice A' y.args.length c', .int .u32 y.imm] 62) := ⟨_, rfl⟩
  have hb2 : Below W.heap.size W W2 := by rw [hW2]; exact ((Below.refl _ _).alloc (Nat.le_refl _) _).alloc (by simp) _
  have hrx : W2.heap[W.heap.size]? = some (.cells #[.int .i64 x.op, .int .i64 x.w, .int .i64 x.fl, .slice A x.args.length c, .int .u32 x.imm] 62 (0, 0)) := by rw [hW2]; exact row_alloc (heap_alloc_new W _) _
  have hry : W2.heap[W.heap.size + 1]? = some (.cells #[.int .i64 y.op, .int .i64 y.w, .int .i64 y.fl, .slice A' y.args.length c', .int .u32 y.imm] 62 (0, 0)) := by rw [hW2]; exact new_two W _ _
  have Heq := Lib.hid (eqInts_any (c := c) (c' := c') (hx.below (monoInt _) hb2) (hy.below (monoInt _) hb2))
  obtain ⟨op, w, fl, args, imm⟩ := x
  obtain ⟨op', w', fl', args', imm'⟩ := y
  dsimp only at *
  obtain ⟨x0, x1, x2, x3, x4⟩ := nd5_cells hrx
  obtain ⟨y0, y1, y2, y3, y4⟩ := nd5_cells hry
  have Hb2 := Lib.hid hb2
  unfold ndV
  dsimp only
  rw [hW2] at x0 x1 x2 x3 x4 y0 y1 y2 y3 y4
  obtain ⟨r, hr⟩ : ∃ r, decide (args = args') = r := ⟨_, rfl⟩
  rw [hr] at Heq
  have Hr := Lib.hid hr
  subst hW2
  clear hx hy hb2 hrx hry hr
  by_cases e0 : op = op'
  rotate_left
  · have q : (op == op') = false := by simpa using e0
    have Hne := Lib.hid (show decide ((⟨op, w, fl, args, imm⟩ : T.Nd) = ⟨op', w', fl', args', imm'⟩) = false from by simp [e0])
    clear e0 Heq
    go_enter Tryz.func188, Tryz.ntmps188
    go_wp2
    go_ret
    exact ⟨ret_bool Hne.out.symm, Hb2.out⟩
  subst e0
  have q0 : (op == op) = true := by simp
  by_cases e1 : w = w'
  rotate_left
  · have q : (w == w') = false := by simpa using e1
    have Hne := Lib.hid (show decide ((⟨op, w, fl, args, imm⟩ : T.Nd) = ⟨op, w', fl', args', imm'⟩) = false from by simp [e1])
    clear e1 Heq
    go_enter Tryz.func188, Tryz.ntmps188
    go_wp2
    go_ret
    exact ⟨ret_bool Hne.out.symm, Hb2.out⟩
  subst e1
  have q1 : (w == w) = true := by simp
  by_cases e2 : fl = fl'
  rotate_left
  · have q : (fl == fl') = false := by simpa using e2
    have Hne := Lib.hid (show decide ((⟨op, w, fl, args, imm⟩ : T.Nd) = ⟨op, w, fl', args', imm'⟩) = false from by simp [e2])
    clear e2 Heq
    go_enter Tryz.func188, Tryz.ntmps188
    go_wp2
    go_ret
    exact ⟨ret_bool Hne.out.symm, Hb2.out⟩
  subst e2
  have q2 : (fl == fl) = true := by simp
  by_cases e3 : imm = imm'
  rotate_left
  · have q : (imm == imm') = false := by simpa using e3
    have Hne := Lib.hid (show decide ((⟨op, w, fl, args, imm⟩ : T.Nd) = ⟨op, w, fl, args', imm'⟩) = false from by simp [e3])
    clear e3 Heq
    go_enter Tryz.func188, Tryz.ntmps188
    go_wp2
    go_ret
    exact ⟨ret_bool Hne.out.symm, Hb2.out⟩
  subst e3
  have q3 : (imm == imm) = true := by simp
  have Hd := Lib.hid (show decide ((⟨op, w, fl, args, imm⟩ : T.Nd) = ⟨op, w, fl, args', imm⟩) = r from by rw [← Hr.out]; simp)
  go_enter Tryz.func188, Tryz.ntmps188
  go_wp2_with fail
  (with_reducible refine Heq.out.mono ?_)
  rintro e w3 ⟨rfl, hb3⟩
  have Hb3 := Lib.hid (Hb2.out.trans (hb3.mono Hb2.out.size))
  clear hb3 x0 x1 x2 x3 x4 y0 y1 y2 y3 y4
  go_wp2
  go_ret
  exact ⟨ret_bool Hd.out.symm, Hb3.out⟩

set_option maxRecDepth 100000 in
set_option maxHeartbeats 2000000 in
theorem eqNodes_any {t u : List T.Nd} {A A' : Option Addr} {n n' c c' : Nat} {W : World} (hx : StAt 5 NdR W A n t) (hy : StAt 5 NdR W A' n' u) :
    Calls Tryz.prog 187 #[.slice A n c, .slice A' n' c', .func (.func 188) #[] #[]] W fun e W' => e = .returned (.bool (decide (t = u))) ∧ Below W.heap.size W W' := by
  have hlx := hx.len
  have hly := hy.len
  have hlex := hx.le
  have hley := hy.le
  have HX := Lib.hid hx
  have HY := Lib.hid hy
  have Hlx := Lib.hid hlx
  have Hly := Lib.hid hly
  clear hx hy hlx hly
  by_cases hn : n = n'
  rotate_left
  · have q : ((n : Int) != (n' : Int)) = true := by simp; omega
    have Hne := Lib.hid (show decide (t = u) = false from by simp; rintro rfl; exact hn (Hlx.out.symm.trans Hly.out))
    clear hn
    go_enter Tryz.func187, Tryz.ntmps187
    go_wp2
    go_ret
    exact ⟨ret_bool Hne.out.symm, Below.refl _ _⟩
  subst hn
  have q : ((n : Int) != (n : Int)) = false := by simp
  go_enter Tryz.func187, Tryz.ntmps187
  go_wp2
  clear q
  go_loopg [17] (n + 1) (fun gg i wr => ∃ (j : Nat), j ≤ n ∧ i = .int .i64 (j : Int) ∧ gg + j = n + 1 ∧ Hid (Below W.heap.size W wr) ∧ Hid (t.take j = u.take j))
  case atStart => exact ⟨0, Nat.zero_le _, rfl, rfl, Lib.hid (Below.refl _ _), Lib.hid rfl⟩
  case round =>
    obtain ⟨j, hj, rfl, hgk, Hbw, HO⟩ := hrel
    have Hgk := Lib.hid hgk; clear hgk
    by_cases hjn : j < n
    · obtain ⟨x, b, off, Ax, cx, ex, rfl, hb, h0, h1, h2, h3, h4, hs, i0, i1⟩ := nd_cells HX.out hjn
      obtain ⟨y, b', off', Ay, cy, ey, rfl, hb', h0', h1', h2', h3', h4', hs', i0', i1'⟩ := nd_cells HY.out hjn
      have hbel := Hbw.out
      have k0 := (hbel.cell (p := ⟨b, off + j * 5, none⟩) hb).trans h0
      have k1 := (hbel.cell (p := ⟨b, off + j * 5 + 1, none⟩) hb).trans h1
      have k2 := (hbel.cell (p := ⟨b, off + j * 5 + 2, none⟩) hb).trans h2
      have k3 := (hbel.cell (p := ⟨b, off + j * 5 + 3, none⟩) hb).trans h3
      have k4 := (hbel.cell (p := ⟨b, off + j * 5 + 4, none⟩) hb).trans h4
      obtain ⟨w1, hw1⟩ : ∃ w1, w1 = wr.alloc (.cells #[.int .i64 x.op, .int .i64 x.w, .int .i64 x.fl, .slice Ax x.args.length cx, .int .u32 x.imm] 62) := ⟨_, rfl⟩
      have hb1 : Below wr.heap.size wr w1 := by rw [hw1]; exact (Below.refl _ _).alloc (Nat.le_refl _) _
      have hbw1 := hbel.trans (hb1.mono hbel.size)
      have l0 := (hbw1.cell (p := ⟨b', off' + j * 5, none⟩) hb').trans h0'
      have l1 := (hbw1.cell (p := ⟨b', off' + j * 5 + 1, none⟩) hb').trans h1'
      have l2 := (hbw1.cell (p := ⟨b', off' + j * 5 + 2, none⟩) hb').trans h2'
      have l3 := (hbw1.cell (p := ⟨b', off' + j * 5 + 3, none⟩) hb').trans h3'
      have l4 := (hbw1.cell (p := ⟨b', off' + j * 5 + 4, none⟩) hb').trans h4'
      obtain ⟨w2, hw2⟩ : ∃ w2, w2 = w1.alloc (.cells #[.int .i64 y.op, .int .i64 y.w, .int .i64 y.fl, .slice Ay y.args.length cy, .int .u32 y.imm] 62) := ⟨_, rfl⟩
      have hb2 : Below wr.heap.size wr w2 := by rw [hw2]; exact hb1.alloc hb1.size _
      have hrx : w2.heap[wr.heap.size]? = some (.cells #[.int .i64 x.op, .int .i64 x.w, .int .i64 x.fl, .slice Ax x.args.length cx, .int .u32 x.imm] 62 (0, 0)) := by rw [hw2, hw1]; exact row_alloc (heap_alloc_new wr _) _
      obtain ⟨x0, x1, x2, x3, x4⟩ := nd5_cells hrx
      have Hcall := Lib.hid (gsameNode_any (x := x) (y := y) (c := cx) (c' := cy) (W := w2) ((hs.below (monoInt _) hbel).below (monoInt _) hb2) ((hs'.below (monoInt _) hbel).below (monoInt _) hb2))
      unfold ndV at Hcall
      have Hb2 := Lib.hid (hbel.trans (hb2.mono hbel.size))
      have Hex := Lib.hid ex
      have Hey := Lib.hid ey
      subst hw2
      subst hw1
      clear h0 h1 h2 h3 h4 h0' h1' h2' h3' h4' hs hs' i0 i1 i0' i1' hbel hb1 hbw1 hb2 hrx hb hb' ex ey
      obtain ⟨r, hr⟩ : ∃ r, decide (x = y) = r := ⟨_, rfl⟩
      rw [hr] at Hcall
      have Hr := Lib.hid hr
      clear hr
      cases r
      · go_wp2_with fail
        (with_reducible refine Hcall.out.mono ?_)
        rintro e w3 ⟨rfl, hb3⟩
        have Hb3 := Lib.hid (Hb2.out.trans (hb3.mono Hb2.out.size))
        have Hne := Lib.hid (show decide (t = u) = false from by
          simp
          rintro rfl
          have e := Option.some.inj (Hex.out.symm.trans Hey.out)
          have := Hr.out
          simp [e] at this)
        clear hb3 k0 k1 k2 k3 k4 l0 l1 l2 l3 l4 x0 x1 x2 x3 x4
        go_wp2
        go_ret
        exact ⟨ret_bool Hne.out.symm, Hb3.out⟩
      · go_wp2_with fail
        (with_reducible refine Hcall.out.mono ?_)
        rintro e w3 ⟨rfl, hb3⟩
        have Hb3 := Lib.hid (Hb2.out.trans (hb3.mono Hb2.out.size))
        have Hst := Lib.hid (show t.take (j + 1) = u.take (j + 1) from by
          have e : x = y := of_decide_eq_true Hr.out
          exact take_eq_step HO.out Hex.out (e ▸ Hey.out))
        clear hb3 k0 k1 k2 k3 k4 l0 l1 l2 l3 l4 x0 x1 x2 x3 x4
        go_wp2
        go_roundg (gk - 1)
        case measure => have := Hgk.out; omega
        case rel =>
          have := Hgk.out
          exact ⟨j + 1, by omega, by go_num, by omega, Hb3, Hst⟩
    · obtain rfl : j = n := by omega
      have he := HO.out
      rw [List.take_of_length_le (by rw [Hlx.out]; exact Nat.le_refl _), List.take_of_length_le (by rw [Hly.out]; exact Nat.le_refl _)] at he
      have Heq := Lib.hid (show decide (t = u) = true from by simpa using he)
      clear he
      go_wp2
      go_ret
      exact ⟨ret_bool Heq.out.symm, Hbw.out⟩
end Go.Proofs.YtbiopedpceddeaaGreatDoor
