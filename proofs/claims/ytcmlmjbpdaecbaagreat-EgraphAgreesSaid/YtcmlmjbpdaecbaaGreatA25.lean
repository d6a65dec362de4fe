/- Merged: QJ7, QJ8, QJ9. -/
import Derived.Test.YtcmlmjbpdaecbaaGreatA24
set_option linter.unusedVariables false
set_option linter.unusedSimpArgs false
section
namespace Go.Proofs.YtcmlmjbpdaecbaaGreat
open Go.RowKit Go.MapKept Go.Maps Go.WideMaps
set_option linter.unusedVariables false
set_option linter.unusedSimpArgs false

set_option maxRecDepth 100000 in
theorem rNew_any (W : World) : Calls Tryz.prog 33 #[] W fun e W' => e = .returned (.pointer (some ⟨W.heap.size + 1, 0, none⟩)) ∧ RGC W' (W.heap.size + 1) [] [] [] [] E.Vr.zero (.slice none 0 0) (.slice none 0 0) (.slice none 0 0) W.heap.size ∧ Below W.heap.size W W' := by
  have hmk := fun W => run_makeMap_any (P := Tryz.prog) Tryz.underlying90 W
  go_enter Tryz.func33, Tryz.ntmps33
  go_wp2
  go_ret
  have hn : ∀ {g : Nat}, (Value.slice none 0 0).ownBlock ≠ some g := fun e => by simp [Value.ownBlock] at e
  refine ⟨by simp, ⟨new_two W _ _, OwnAt.nil_ _ _ _, OwnAt.nil_ _ _ _, ?_, OwnAt.nil_ _ _ _, fun g e => absurd e hn, fun g e => absurd e hn, fun g e => absurd e hn⟩, ((Below.refl _ _).alloc (Nat.le_refl _) _).alloc (by simp) _⟩
  refine (MapAt.made (R := NatE) W).keep ?_ (fun _ _ _ h => h)
  exact Below.heap_alloc _ _ _ (by simp)

set_option maxRecDepth 100000 in
set_option maxHeartbeats 1000000 in
theorem rClasses_any {W : World} {b : Nat} {p : List Nat} {wd : List Int} {kn : List (E.Opn × Nat)} {nm : List Nat} {vr : E.Vr} {v1 v2 v4 : Value} {kb : Nat} (h : RGC W b p wd kn nm vr v1 v2 v4 kb) (hd : E.Down p) (hn : p.length ≤ 900000) :
    Calls Tryz.prog 53 #[.pointer (some ⟨b, 0, none⟩)] W fun e W' => e = .returned (.int .i64 (E.roots p : Nat)) ∧ W' = W := by
  obtain ⟨A, ca, rfl, hs⟩ := h.slP
  obtain ⟨k0, _, _, _⟩ := h.cells
  have Hs := Lib.hid hs
  have Hd := Lib.hid hd
  have Hk0 := Lib.hid k0
  clear h hs hd k0
  go_enter Tryz.func53, Tryz.ntmps53
  go_wp2
  go_loopg [3, 4] (p.length + 1) (fun gg s3 s4 wr => ∃ (j : Nat), j ≤ p.length ∧ s3 = .int .i64 ((E.clsTo p j).length : Nat) ∧ s4 = .int .i64 (j : Int) ∧ gg + j = p.length + 1 ∧ wr = W)
  case atStart => exact ⟨0, Nat.zero_le _, rfl, rfl, rfl, rfl⟩
  case round =>
    obtain ⟨j, hj, rfl, rfl, hgk, rfl⟩ := hrel
    have Hgk := Lib.hid hgk
    clear hgk
    have k0 := Hk0.out
    by_cases hjl : j < p.length
    · obtain ⟨x, ba, off, u, hx, rfl, hba, hcell, rfl⟩ := Hs.out.at_ hjl
      obtain ⟨d, rfl, hd'⟩ := ini_some hx
      have hpd : p.getD j j = d := by rw [List.getD_eq_getElem?_getD, hd']; rfl
      have hfix := E.fix_iff Hd.out j
      rw [hpd] at hfix
      have Hfix := Lib.hid hfix
      have hcl := E.clsTo_len p j
      obtain ⟨L, hL⟩ : ∃ L, L = (E.clsTo p j).length := ⟨_, rfl⟩
      rw [← hL] at hcl ⊢
      have HL := Lib.hid hL
      clear hx hd' hpd hfix hba hL
      by_cases hdj : d = j
      · subst hdj
        have hroot := Hfix.out.1 rfl
        have Hroot := Lib.hid hroot
        clear hroot Hfix
        go_wp2
        go_roundg (gk - 1)
        case measure => have := Hgk.out; omega
        case rel =>
          have := Hgk.out
          have hc := E.clsTo_succ p d
          rw [if_pos Hroot.out] at hc
          refine ⟨d + 1, by omega, ?_, by go_num, by omega, rfl⟩
          rw [hc, List.length_append, List.length_singleton, ← HL.out]
          go_num
      · have hne : ((d : Int) == (j : Int)) = false := by simp; omega
        have hroot : ¬ E.root p j = j := fun h => hdj (Hfix.out.2 h)
        have Hroot := Lib.hid hroot
        clear hroot hdj Hfix
        go_wp2
        go_roundg (gk - 1)
        case measure => have := Hgk.out; omega
        case rel =>
          have := Hgk.out
          have hc := E.clsTo_succ p j
          rw [if_neg Hroot.out] at hc
          exact ⟨j + 1, by omega, by rw [hc, ← HL.out], by go_num, by omega, rfl⟩
    · obtain rfl : j = p.length := by omega
      go_wp2
      go_ret
      exact ⟨congrArg (fun n : Nat => Ending.returned (Value.int .i64 (n : Int))) (E.clsTo_roots p), rfl⟩

set_option maxRecDepth 100000 in
theorem rNodes_any {W : World} {b : Nat} {p : List Nat} {wd : List Int} {kn : List (E.Opn × Nat)} {nm : List Nat} {vr : E.Vr} {v1 v2 v4 : Value} {kb : Nat} (h : RGC W b p wd kn nm vr v1 v2 v4 kb) :
    Calls Tryz.prog 54 #[.pointer (some ⟨b, 0, none⟩)] W fun e W' => e = .returned (.int .i64 (kn.length : Nat)) ∧ W' = W := by
  obtain ⟨_, _, k2, _⟩ := h.cells
  obtain ⟨es, cl, hm, _, hl, _⟩ := h.km
  have hl2 : es.size = kn.length := by rw [← hl]; exact Array.length_toList.symm
  have Hl := Lib.hid hl2
  have hlen := run_len_map (P := Tryz.prog) W 90 3 kb es cl (by kernel_rfl) hm
  clear h hl hl2
  go_enter Tryz.func54, Tryz.ntmps54
  go_wp2
  go_ret
  exact ⟨congrArg (fun n : Nat => Ending.returned (Value.int .i64 (n : Int))) Hl.out, rfl⟩

def namedEnd (nm : List Nat) (x : Int) : Int := if E.nmOk nm x = true then 0 else 4
theorem namedEnd_ok {nm : List Nat} {x : Int} (h : E.nmOk nm x = true) : namedEnd nm x = 0 := if_pos h
theorem namedEnd_no {nm : List Nat} {x : Int} (h : ¬ E.nmOk nm x = true) : namedEnd nm x = 4 := if_neg h
set_option maxRecDepth 100000 in
theorem rnamed_any {W : World} {b : Nat} {p : List Nat} {wd : List Int} {kn : List (E.Opn × Nat)} {nm : List Nat} {vr : E.Vr} {v1 v2 v4 : Value} {kb : Nat} (h : RGC W b p wd kn nm vr v1 v2 v4 kb) (x : Int) :
    Calls Tryz.prog 61 #[.pointer (some ⟨b, 0, none⟩), .int .i64 x] W fun e W' => e = .returned (.int .i64 (namedEnd nm x)) ∧ W' = W := by
  obtain ⟨A4, c4, rfl⟩ := h.o4.form
  have hle := h.o4.le
  have k4 := h.cells.2.2.2
  clear h
  by_cases hneg : x < 0
  · have Hno := Lib.hid (show ¬ E.nmOk nm x = true from by simp [E.nmOk]; omega)
    go_enter Tryz.func61, Tryz.ntmps61
    go_wp2
    go_ret
    exact ⟨by rw [namedEnd_no Hno.out]; rfl, rfl⟩
  · by_cases hbig : x ≥ (nm.length : Int)
    · have Hno := Lib.hid (show ¬ E.nmOk nm x = true from by simp [E.nmOk]; omega)
      go_enter Tryz.func61, Tryz.ntmps61
      go_wp2
      go_ret
      exact ⟨by rw [namedEnd_no Hno.out]; rfl, rfl⟩
    · have Hok := Lib.hid (show E.nmOk nm x = true from by simp [E.nmOk]; omega)
      go_enter Tryz.func61, Tryz.ntmps61
      go_wp2
      go_ret
      exact ⟨by rw [namedEnd_ok Hok.out]; rfl, rfl⟩

set_option maxRecDepth 100000 in
theorem rclass_any {W : World} {b : Nat} {p : List Nat} {wd : List Int} {kn : List (E.Opn × Nat)} {nm : List Nat} {vr : E.Vr} {v1 v2 v4 : Value} {kb : Nat} (h : RGC W b p wd kn nm vr v1 v2 v4 kb) (hd : E.Down p) (hnm : ∀ c ∈ nm, c < p.length) {x : Int} (hx : E.nmOk nm x = true) :
    Calls Tryz.prog 63 #[.pointer (some ⟨b, 0, none⟩), .int .i64 x] W fun e W' => e = .returned (.int .i64 (E.nr p nm x : Nat)) ∧ W' = W := by
  obtain ⟨m, rfl⟩ : ∃ m : Nat, x = m := ⟨x.toNat, by simp [E.nmOk] at hx; omega⟩
  have hmn : m < nm.length := by simp [E.nmOk] at hx; omega
  have Hnm : ∃ A4 c4, v4 = .slice A4 nm.length c4 ∧ SlAt (IntR .i64) W A4 nm.length (ini nm) := by
    obtain ⟨A4, c4, rfl⟩ := h.o4.form
    have ho := h.o4
    rw [show ivs nm = (ini nm).map (Value.int .i64) by simp [ivs, ini]] at ho
    exact ⟨A4, c4, rfl, ho.slInts⟩
  obtain ⟨A4, c4, rfl, hs4⟩ := Hnm
  have hle := hs4.le
  have k4 := h.cells.2.2.2
  obtain ⟨y, bb, offb, u, hy, rfl, hbb, hcb, rfl⟩ := hs4.at_ hmn
  obtain ⟨d, rfl, hd'⟩ := ini_some hy
  have Hf := Lib.hid (h.find hd d (hnm d (List.mem_of_getElem? hd')))
  have Hr := Lib.hid (show E.root p d = E.nr p nm (m : Int) from by unfold E.nr; rw [Int.toNat_natCast, List.getD_eq_getElem?_getD, hd']; rfl)
  clear h hd hnm hs4 hy hbb hd' hx
  go_enter Tryz.func63, Tryz.ntmps63
  go_wp2_with fail
  (with_reducible refine Hf.out.mono ?_)
  rintro e w2 ⟨rfl, rfl⟩
  go_wp2
  go_ret
  exact ⟨by rw [Hr.out]; rfl, rfl⟩
end Go.Proofs.YtcmlmjbpdaecbaaGreat
end
section
namespace Go.Proofs.YtcmlmjbpdaecbaaGreat
open Go.RowKit Go.MapKept Go.Maps Go.WideMaps
set_option linter.unusedVariables false
set_option linter.unusedSimpArgs false

theorem RGC.slW {w : World} {b : Nat} {p : List Nat} {wd : List Int} {kn : List (E.Opn × Nat)} {nm : List Nat} {vr : E.Vr} {v1 v2 v4 : Value} {kb : Nat} (h : RGC w b p wd kn nm vr v1 v2 v4 kb) : ∃ A c, v2 = .slice A wd.length c ∧ SlAt (IntR .i64) w A wd.length wd := by
  obtain ⟨A, c, rfl⟩ := h.o2.form
  exact ⟨A, c, rfl, h.o2.slInts⟩

set_option maxRecDepth 100000 in
set_option maxHeartbeats 2000000 in
theorem rWidth_any {W : World} {b : Nat} {p : List Nat} {wd : List Int} {kn : List (E.Opn × Nat)} {nm : List Nat} {vr : E.Vr} {v1 v2 v4 : Value} {kb : Nat} (h : RGC W b p wd kn nm vr v1 v2 v4 kb) (hd : E.Down p) (hwd : wd.length = p.length) (hnm : ∀ c ∈ nm, c < p.length) (x : Int) :
    Calls Tryz.prog 56 #[.pointer (some ⟨b, 0, none⟩), .int .i64 x] W fun e W' => Below W.heap.size W W' ∧ e = widthEnd p wd nm x := by
  have Hn := Lib.hid (rnamed_any h x)
  by_cases hx : E.nmOk nm x = true
  · have Hx := Lib.hid hx
    have hlt := E.nr_lt (p := p) hnm hx
    obtain ⟨A2, c2, e2, hs2⟩ := h.slW
    have k1 := h.cells.2.1
    rw [e2] at k1
    obtain ⟨y, g1, o1, u1, hy, rfl, _, h1, rfl⟩ := hs2.at_ (k := E.nr p nm x) (by rw [hwd]; exact hlt)
    have hle := hs2.le
    have hltw : E.nr p nm x < wd.length := by rw [hwd]; exact hlt
    have Hy := Lib.hid (show wd.getD (E.nr p nm x) 0 = y from by rw [List.getD_eq_getElem?_getD, hy]; rfl)
    obtain ⟨ov⟩ := ov_ex W
    have HCl := Lib.hid (show ∀ u, Calls Tryz.prog 63 #[.pointer (some ⟨b, 0, none⟩), .int .i64 x] (ov.f u) fun r w'' => r = .returned (.int .i64 (E.nr p nm x : Nat)) ∧ ∃ m, w'' = ov.f m from fun u => calls_over_same ((rclass_any (h.below (ov.below u)) hd hnm hx).mono fun _ _ h => ⟨h.1, h.2.symm⟩))
    have z0 := ov.cell h1
    have z1 := ov.cell k1
    clear hs2 hy e2 hlt h hd hwd hnm hx h1 k1
    obtain ⟨nx, hnx⟩ : ∃ nx : Nat, E.nr p nm x = nx := ⟨_, rfl⟩
    rw [hnx] at z0 hltw HCl
    clear hnx
    go_enter Tryz.func56, Tryz.ntmps56
    go_wp2_with fail
    (with_reducible refine Hn.out.mono ?_)
    rintro e w2 ⟨rfl, hw2⟩
    rw [hw2, namedEnd_ok Hx.out]
    clear hw2 w2
    go_upto_region 4 with (fail)
    refine wp_region_ovq ov (by kernel_rfl) (by kernel_rfl) ?_
    repeat (go_big_quiet_step ((go_at_call 63; with_reducible exact HCl.out _)))
    refine wpQuiet_nil ?_
    rintro _ ⟨u, rfl⟩
    have Hb3 := Lib.hid (ov.below u)
    clear z0 z1 HCl
    go_wp2
    refine bodyPost_ret (results_tmp2 rfl _ _ _) rfl ?_
    exact ⟨Hb3.out, by unfold widthEnd; rw [if_pos Hx.out, Hy.out]; rfl⟩
  · have Hx := Lib.hid hx
    clear h hd hwd hnm hx
    go_enter Tryz.func56, Tryz.ntmps56
    go_wp2_with fail
    (with_reducible refine Hn.out.mono ?_)
    rintro e w2 ⟨rfl, hw2⟩
    rw [hw2, namedEnd_no Hx.out]
    clear hw2 w2
    go_wp2
    refine bodyPost_ret (results_tmp2 rfl _ _ _) rfl ?_
    exact ⟨Below.refl _ _, by unfold widthEnd; rw [if_neg Hx.out]; rfl⟩

set_option maxRecDepth 100000 in
set_option maxHeartbeats 2000000 in
theorem rSame_any {W : World} {b : Nat} {p : List Nat} {wd : List Int} {kn : List (E.Opn × Nat)} {nm : List Nat} {vr : E.Vr} {v1 v2 v4 : Value} {kb : Nat} (h : RGC W b p wd kn nm vr v1 v2 v4 kb) (hd : E.Down p) (hnm : ∀ c ∈ nm, c < p.length) (x y : Int) :
    Calls Tryz.prog 57 #[.pointer (some ⟨b, 0, none⟩), .int .i64 x, .int .i64 y] W fun e W' => W' = W ∧ e = sameEnd p nm x y := by
  have Hn := Lib.hid (rnamed_any h x)
  have Hm := Lib.hid (rnamed_any h y)
  by_cases hx : E.nmOk nm x = true
  · have Hx := Lib.hid hx
    by_cases hy : E.nmOk nm y = true
    · have Hy := Lib.hid hy
      have Hcx := Lib.hid (rclass_any h hd hnm hx)
      have Hcy := Lib.hid (rclass_any h hd hnm hy)
      clear h hd hnm hx hy
      obtain ⟨bb, hbb⟩ : ∃ bb, decide (E.nr p nm x = E.nr p nm y) = bb := ⟨_, rfl⟩
      have hdd : (((E.nr p nm x : Nat) : Int) == ((E.nr p nm y : Nat) : Int)) = bb := by
        rw [← hbb]
        by_cases h : E.nr p nm x = E.nr p nm y
        · rw [h]; simp
        · simp [h]; omega
      have Hbb := Lib.hid hbb
      obtain ⟨nx, hnx⟩ : ∃ nx : Int, ((E.nr p nm x : Nat) : Int) = nx := ⟨_, rfl⟩
      obtain ⟨ny, hny⟩ : ∃ ny : Int, ((E.nr p nm y : Nat) : Int) = ny := ⟨_, rfl⟩
      rw [hnx, hny] at hdd
      rw [hnx] at Hcx
      rw [hny] at Hcy
      clear hbb hnx hny
      go_enter Tryz.func57, Tryz.ntmps57
      go_wp2_with fail
      (with_reducible refine Hn.out.mono ?_)
      rintro e w2 ⟨rfl, hw2⟩
      rw [hw2, namedEnd_ok Hx.out]
      clear hw2 w2
      go_wp2_with fail
      (with_reducible refine Hm.out.mono ?_)
      rintro e w2 ⟨rfl, hw2⟩
      rw [hw2, namedEnd_ok Hy.out]
      clear hw2 w2
      go_wp2_with fail
      (with_reducible refine Hcx.out.mono ?_)
      rintro e w2 ⟨rfl, hw2⟩
      rw [hw2]
      clear hw2 w2
      go_wp2_with fail
      (with_reducible refine Hcy.out.mono ?_)
      rintro e w2 ⟨rfl, hw2⟩
      rw [hw2]
      clear hw2 w2
      go_wp2
      refine bodyPost_ret (results_tmp2 rfl _ _ _) rfl ?_
      exact ⟨rfl, by unfold sameEnd; rw [if_pos (by rw [Hx.out, Hy.out]; rfl), Hbb.out]; rfl⟩
    · have Hy := Lib.hid hy
      clear h hd hnm hx hy
      go_enter Tryz.func57, Tryz.ntmps57
      go_wp2_with fail
      (with_reducible refine Hn.out.mono ?_)
      rintro e w2 ⟨rfl, hw2⟩
      rw [hw2, namedEnd_ok Hx.out]
      clear hw2 w2
      go_wp2_with fail
      (with_reducible refine Hm.out.mono ?_)
      rintro e w2 ⟨rfl, hw2⟩
      rw [hw2, namedEnd_no Hy.out]
      clear hw2 w2
      go_wp2
      refine bodyPost_ret (results_tmp2 rfl _ _ _) rfl ?_
      exact ⟨rfl, by unfold sameEnd; rw [if_neg (by rw [Bool.and_eq_true]; exact fun h => Hy.out h.2)]; rfl⟩
  · have Hx := Lib.hid hx
    clear h hd hnm hx
    go_enter Tryz.func57, Tryz.ntmps57
    go_wp2_with fail
    (with_reducible refine Hn.out.mono ?_)
    rintro e w2 ⟨rfl, hw2⟩
    rw [hw2, namedEnd_no Hx.out]
    clear hw2 w2
    go_wp2
    refine bodyPost_ret (results_tmp2 rfl _ _ _) rfl ?_
    exact ⟨rfl, by unfold sameEnd; rw [if_neg (by rw [Bool.and_eq_true]; exact fun h => Hx.out h.1)]; rfl⟩
end Go.Proofs.YtcmlmjbpdaecbaaGreat
end
section
namespace Go.Proofs.YtcmlmjbpdaecbaaGreat
open Go.RowKit Go.MapKept Go.Maps Go.WideMaps
set_option linter.unusedVariables false
set_option linter.unusedSimpArgs false

/-- what Union does to the parents and the operations -/
inductive RUniR (p : List Nat) (wd : List Int) (es : List (E.Opn × Nat)) (nm : List Nat) (x y : Int) : Int → List Nat → List (E.Opn × Nat) → Prop where
  | none (h : (E.nmOk nm x && E.nmOk nm y) = false) : RUniR p wd es nm x y 4 p es
  | type (h : (E.nmOk nm x && E.nmOk nm y) = true) (hw : wd.getD (E.nr p nm x) 0 ≠ wd.getD (E.nr p nm y) 0) : RUniR p wd es nm x y 6 p es
  | ok (h : (E.nmOk nm x && E.nmOk nm y) = true) (hw : wd.getD (E.nr p nm x) 0 = wd.getD (E.nr p nm y) 0) {p1 : List Nat} {es1 : List (E.Opn × Nat)} (hs : E.RShut (E.join p (E.nr p nm x) (E.nr p nm y)) es p1 es1) : RUniR p wd es nm x y 0 p1 es1

/-- behind Union -/
structure RUniPost (W : World) (b : Nat) (p : List Nat) (wd : List Int) (es : List (E.Opn × Nat)) (nm : List Nat) (vr : E.Vr) (v1 v2 v4 : Value) (kb : Nat) (x y : Int) (e : Ending) (W' : World) (er : Int) (p1 : List Nat) (es1 : List (E.Opn × Nat)) (kb' : Nat) : Prop where
  ret : e = .returned (.int .i64 er)
  told : RUniR p wd es nm x y er p1 es1
  gr : RGC W' b p1 wd es1 nm vr v1 v2 v4 kb'
  ok : E.Ok p1 wd es1 nm
  owf : ∀ k ∈ es1, OWf k.1
  len : p1.length = p.length
  kp : Kpm (MR b v1 v2 v4 kb) W W'
  nk : kb' = kb ∨ W.heap.size ≤ kb'

set_option maxRecDepth 100000 in
set_option maxHeartbeats 2000000 in
theorem rUnion_any {W : World} {b : Nat} {p : List Nat} {wd : List Int} {es : List (E.Opn × Nat)} {nm : List Nat} {vr : E.Vr} {v1 v2 v4 : Value} {kb : Nat} (h : RGC W b p wd es nm vr v1 v2 v4 kb) (ok : E.Ok p wd es nm) (hw : ∀ e ∈ es, OWf e.1) (hn : p.length ≤ 900000) (x y : Int) :
    Calls Tryz.prog 34 #[.pointer (some ⟨b, 0, none⟩), .int .i64 x, .int .i64 y] W fun e W' => ∃ er p1 es1 kb', RUniPost W b p wd es nm vr v1 v2 v4 kb x y e W' er p1 es1 kb' := by
  have Hn := Lib.hid (rnamed_any h x)
  have Hm := Lib.hid (rnamed_any h y)
  have H := Lib.hid h
  have Ok := Lib.hid ok
  have Hwf := Lib.hid hw
  by_cases hx : E.nmOk nm x = true
  · have Hx := Lib.hid hx
    by_cases hy : E.nmOk nm y = true
    · have Hy := Lib.hid hy
      have Hand := Lib.hid (show (E.nmOk nm x && E.nmOk nm y) = true from by rw [hx, hy]; rfl)
      have hlx := E.nr_lt (p := p) ok.nm hx
      have hly := E.nr_lt (p := p) ok.nm hy
      obtain ⟨A2, c2, e2, hs2⟩ := h.slW
      have k1 := h.cells.2.1
      rw [e2] at k1
      obtain ⟨wx, g2, o2, u2, hwx, rfl, _, h2, rfl⟩ := hs2.at_ (k := E.nr p nm x) (by rw [ok.wd]; exact hlx)
      obtain ⟨wy, g3, o3, u3, hwy, eB, _, h3, rfl⟩ := hs2.at_ (k := E.nr p nm y) (by rw [ok.wd]; exact hly)
      cases eB
      have hle := hs2.le
      have hltx : E.nr p nm x < wd.length := by rw [ok.wd]; exact hlx
      have hlty : E.nr p nm y < wd.length := by rw [ok.wd]; exact hly
      have Hwx := Lib.hid (show wd.getD (E.nr p nm x) 0 = wx from by rw [List.getD_eq_getElem?_getD, hwx]; rfl)
      have Hwy := Lib.hid (show wd.getD (E.nr p nm y) 0 = wy from by rw [List.getD_eq_getElem?_getD, hwy]; rfl)
      obtain ⟨ov⟩ := ov_ex W
      have HCx := Lib.hid (show ∀ u, Calls Tryz.prog 63 #[.pointer (some ⟨b, 0, none⟩), .int .i64 x] (ov.f u) fun r w'' => r = .returned (.int .i64 (E.nr p nm x : Nat)) ∧ ∃ m, w'' = ov.f m from fun u => calls_over_same ((rclass_any (h.below (ov.below u)) ok.down ok.nm hx).mono fun _ _ h => ⟨h.1, h.2.symm⟩))
      have HCy := Lib.hid (show ∀ u, Calls Tryz.prog 63 #[.pointer (some ⟨b, 0, none⟩), .int .i64 y] (ov.f u) fun r w'' => r = .returned (.int .i64 (E.nr p nm y : Nat)) ∧ ∃ m, w'' = ov.f m from fun u => calls_over_same ((rclass_any (h.below (ov.below u)) ok.down ok.nm hy).mono fun _ _ h => ⟨h.1, h.2.symm⟩))
      have z1 := ov.cell k1
      have z2 := ov.cell h2
      have z3 := ov.cell h3
      clear hs2 hwx hwy e2 h hx hy ok hw h2 h3 k1
      obtain ⟨nx, hnx⟩ : ∃ nx : Nat, E.nr p nm x = nx := ⟨_, rfl⟩
      obtain ⟨ny, hny⟩ : ∃ ny : Nat, E.nr p nm y = ny := ⟨_, rfl⟩
      rw [hnx] at z2 hltx hlx HCx
      rw [hny] at z3 hlty hly HCy
      have Hnx := Lib.hid hnx
      have Hny := Lib.hid hny
      have Hlx := Lib.hid hlx
      have Hly := Lib.hid hly
      clear hnx hny hlx hly
      go_enter Tryz.func34, Tryz.ntmps34
      go_wp2_with fail
      (with_reducible refine Hn.out.mono ?_)
      rintro e w2 ⟨rfl, hw2⟩
      rw [hw2, namedEnd_ok Hx.out]
      clear hw2 w2
      go_wp2_with fail
      (with_reducible refine Hm.out.mono ?_)
      rintro e w2 ⟨rfl, hw2⟩
      rw [hw2, namedEnd_ok Hy.out]
      clear hw2 w2
      go_upto_region 3 with (fail)
      refine wp_region_ovq ov (by kernel_rfl) (by kernel_rfl) ?_
      repeat (go_big_quiet_step (first | (go_at_call 63; with_reducible exact HCx.out _) | (go_at_call 63; with_reducible exact HCy.out _)))
      refine wpQuiet_nil ?_
      rintro _ ⟨u, rfl⟩
      have Hb3 := Lib.hid (ov.below u)
      generalize ov.f u = w3 at *
      clear z1 z2 z3 HCx HCy
      have Hg3 := Lib.hid (H.out.below Hb3.out)
      by_cases hww : wx = wy
      · have hd : (wx != wy) = false := by simpa using hww
        have Hww := Lib.hid hww
        clear hww
        have Hcx := Lib.hid (rclass_any Hg3.out Ok.out.down Ok.out.nm Hx.out)
        have Hcy := Lib.hid (rclass_any Hg3.out Ok.out.down Ok.out.nm Hy.out)
        rw [Hnx.out] at Hcx
        rw [Hny.out] at Hcy
        have Hun := Lib.hid (rjoin_any Hg3.out Ok.out.down nx ny Hlx.out Hly.out)
        go_wp2_with fail
        (with_reducible refine Hcx.out.mono ?_)
        rintro e w4 ⟨rfl, hw4⟩
        rw [hw4]
        clear hw4 w4
        go_wp2_with fail
        (with_reducible refine Hcy.out.mono ?_)
        rintro e w4 ⟨rfl, hw4⟩
        rw [hw4]
        clear hw4 w4
        go_wp2_with fail
        (with_reducible refine Hun.out.mono ?_)
        rintro e w5 ⟨rfl, hg5, hk5, hs5⟩
        obtain ⟨jd, jl, _⟩ := E.join_spec Ok.out.down Hlx.out Hly.out
        have Hg5 := Lib.hid hg5
        have Hk5 := Lib.hid hk5
        have Hcl := Lib.hid (rrebuild_any Hg5.out jd (fun e he => by rw [jl]; exact Ok.out.inn e he) (fun e he => by rw [jl]; exact Ok.out.ar e he) Hwf.out (by rw [jl]; omega))
        have Hjl := Lib.hid jl
        clear hg5 hk5 hs5 jd jl
        go_wp2_with fail
        (with_reducible refine Hcl.out.mono ?_)
        rintro e w6 ⟨p1, es1, kb', hp⟩
        have hret := hp.ret
        subst hret
        have Hp := Lib.hid hp
        clear hp
        go_wp2
        go_ret
        have hl1 : p1.length = p.length := Hp.out.sh.mid.len.trans Hjl.out
        refine ⟨0, p1, es1, kb', rfl, .ok Hand.out (by rw [Hwx.out, Hwy.out]; exact Hww.out) (by rw [Hnx.out, Hny.out]; exact Hp.out.sh), Hp.out.gr, ⟨Hp.out.sh.mid.down, by rw [hl1]; exact Ok.out.wd, Hp.out.sh.mid.inn, Hp.out.sh.mid.ar (fun e he => by rw [Hjl.out]; exact Ok.out.ar e he), fun c hc => by rw [hl1]; exact Ok.out.nm c hc⟩, Hp.out.owf, hl1, ?_, ?_⟩
        · exact ((Kpm.of_below Hb3.out _).trans Hk5.out (fun _ _ h => .inr (.inr (.inl h)))).trans Hp.out.kp (fun _ _ h => h)
        · rcases Hp.out.nk with h | h
          · exact .inl h
          · have := Hb3.out.size; have := Hk5.out.size; exact .inr (by omega)
      · have hd : (wx != wy) = true := by simpa using hww
        have Hww := Lib.hid hww
        clear hww
        go_wp2
        go_ret
        exact ⟨6, p, es, kb, rfl, .type Hand.out (by rw [Hwx.out, Hwy.out]; exact Hww.out), Hg3.out, Ok.out, Hwf.out, rfl, Kpm.of_below Hb3.out _, .inl rfl⟩
    · have Hy := Lib.hid hy
      have Hand := Lib.hid (show (E.nmOk nm x && E.nmOk nm y) = false from by rw [Bool.and_eq_false_iff]; exact .inr (by simpa using hy))
      clear h ok hw hx hy
      go_enter Tryz.func34, Tryz.ntmps34
      go_wp2_with fail
      (with_reducible refine Hn.out.mono ?_)
      rintro e w2 ⟨rfl, hw2⟩
      rw [hw2, namedEnd_ok Hx.out]
      clear hw2 w2
      go_wp2_with fail
      (with_reducible refine Hm.out.mono ?_)
      rintro e w2 ⟨rfl, hw2⟩
      rw [hw2, namedEnd_no Hy.out]
      clear hw2 w2
      go_wp2
      go_ret
      exact ⟨4, p, es, kb, rfl, .none Hand.out, H.out, Ok.out, Hwf.out, rfl, Kpm.refl _ _, .inl rfl⟩
  · have Hx := Lib.hid hx
    have Hand := Lib.hid (show (E.nmOk nm x && E.nmOk nm y) = false from by rw [Bool.and_eq_false_iff]; exact .inl (by simpa using hx))
    clear h ok hw hx
    go_enter Tryz.func34, Tryz.ntmps34
    go_wp2_with fail
    (with_reducible refine Hn.out.mono ?_)
    rintro e w2 ⟨rfl, hw2⟩
    rw [hw2, namedEnd_no Hx.out]
    clear hw2 w2
    go_wp2
    go_ret
    exact ⟨4, p, es, kb, rfl, .none Hand.out, H.out, Ok.out, Hwf.out, rfl, Kpm.refl _ _, .inl rfl⟩
end Go.Proofs.YtcmlmjbpdaecbaaGreat
end
