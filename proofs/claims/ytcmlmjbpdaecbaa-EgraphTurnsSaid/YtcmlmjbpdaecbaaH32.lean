/- Graphs (the program): Width, Union. -/
import Derived.Test.YtcmlmjbpdaecbaaH31
set_option linter.unusedVariables false
set_option linter.unusedSimpArgs false
namespace Go.Proofs.Ytcmlmjbpdaecbaa
open Go.RowKit Go.MapKept Go.Maps Go.WideMaps
set_option linter.unusedVariables false
set_option linter.unusedSimpArgs false

def widthEnd (p : List Nat) (wd : List Int) (nm : List Nat) (x : Int) : Ending := if E.nmOk nm x = true then .returned (.tuple #[.int .i64 (wd.getD (E.nr p nm x) 0), .int .i64 0]) else .returned (.tuple #[.int .i64 0, .int .i64 4])

theorem GrC.slW {w : World} {b : Nat} {p : List Nat} {wd : List Int} {es kn : List (E.Opn × Nat)} {nm : List Nat} {vr : E.Vr} {v1 v2 v3 v4 : Value} {kb : Nat} (h : GrC w b p wd es kn nm vr v1 v2 v3 v4 kb) : ∃ A c, v2 = .slice A wd.length c ∧ SlAt (IntR .i64) w A wd.length wd := by
  obtain ⟨A, c, rfl⟩ := h.o2.form
  exact ⟨A, c, rfl, h.o2.slInts⟩

set_option maxRecDepth 100000 in
set_option maxHeartbeats 2000000 in
theorem gWidth_any {W : World} {b : Nat} {p : List Nat} {wd : List Int} {es kn : List (E.Opn × Nat)} {nm : List Nat} {vr : E.Vr} {v1 v2 v3 v4 : Value} {kb : Nat} (h : GrC W b p wd es kn nm vr v1 v2 v3 v4 kb) (ok : E.Ok p wd es nm) (x : Int) :
    Calls Try.prog 45 #[.pointer (some ⟨b, 0, none⟩), .int .i64 x] W fun e W' => Below W.heap.size W W' ∧ e = widthEnd p wd nm x := by
  have hb1 : Below W.heap.size W (W.alloc (.cells #[.int .i64 x] 3)) := (Below.refl _ _).alloc (Nat.le_refl _) _
  have Hn := Lib.hid (gnamed_any (n := 1) (h.below hb1) ok (sl_lit (l := [x]) (heap_alloc_new W _) rfl (by simp)) (c := 1) (by simp))
  have Hb1 := Lib.hid hb1
  have H := Lib.hid h
  have Ok := Lib.hid ok
  clear h hb1 ok
  go_enter Try.func45, Try.ntmps45
  go_wp2_with fail
  (with_reducible refine Hn.out.mono ?_)
  rintro e w2 ⟨hb, ⟨hall, A', c', rfl, hs⟩ | ⟨hall, rfl⟩⟩
  · have hand : E.nmOk nm x = true := by simpa using hall
    have Hand := Lib.hid hand
    have Hb := Lib.hid (Hb1.out.trans (hb.mono (by simp)))
    obtain ⟨x0, g0, o0, u0, e0, rfl, _, h0, rfl⟩ := hs.at_ (k := 0) (by decide)
    simp [ini] at e0
    subst e0
    rw [Nat.add_zero] at h0
    have hlt := E.nr_lt (p := p) Ok.out.nm hand
    have Hw := Lib.hid (H.out.below Hb.out)
    obtain ⟨A2, c2, e2, hs2⟩ := Hw.out.slW
    have k1 := Hw.out.cells.2.1
    rw [e2] at k1
    obtain ⟨y, g1, o1, u1, hy, rfl, _, h1, rfl⟩ := hs2.at_ (k := E.nr p nm x) (by rw [Ok.out.wd]; exact hlt)
    have hle := hs2.le
    have hltw : E.nr p nm x < wd.length := by rw [Ok.out.wd]; exact hlt
    have Hy := Lib.hid (show wd.getD (E.nr p nm x) 0 = y from by rw [List.getD_eq_getElem?_getD, hy]; rfl)
    clear hs hall hand hb hs2 hy e2 hlt
    obtain ⟨nx, hnx⟩ : ∃ nx : Nat, E.nr p nm x = nx := ⟨_, rfl⟩
    rw [hnx] at h0 h1 hltw
    clear hnx
    go_upto_region 4 with (fail)
    obtain ⟨ov⟩ := ov_ex w2
    have z0 := ov.cell h0
    have z1 := ov.cell h1
    have z2 := ov.cell k1
    clear h0 h1 k1
    refine wp_region_ovq ov (by kernel_rfl) (by kernel_rfl) ?_
    repeat (go_big_quiet_step (fail))
    refine wpQuiet_nil ?_
    rintro _ ⟨u, rfl⟩
    have Hb3 := Lib.hid (Hb.out.trans ((ov.below u).mono Hb.out.size))
    clear z0 z1 z2 Hb
    go_wp2
    refine bodyPost_ret (results_tmp2 rfl _ _ _) rfl ?_
    exact ⟨Hb3.out, by unfold widthEnd; rw [if_pos Hand.out, Hy.out]; rfl⟩
  · have hand : ¬ E.nmOk nm x = true := by
      intro h
      have : ([x].all (E.nmOk nm)) = true := by simpa using h
      rw [this] at hall; cases hall
    have Hand := Lib.hid hand
    have Hb := Lib.hid (Hb1.out.trans (hb.mono (by simp)))
    clear hall hand hb
    go_wp2
    refine bodyPost_ret (results_tmp2 rfl _ _ _) rfl ?_
    exact ⟨Hb.out, by unfold widthEnd; rw [if_neg Hand.out]; rfl⟩

/-- what Union does to the parents and the operations -/
inductive UniR (p : List Nat) (wd : List Int) (es : List (E.Opn × Nat)) (nm : List Nat) (x y : Int) : Int → List Nat → List (E.Opn × Nat) → Prop where
  | none (h : (E.nmOk nm x && E.nmOk nm y) = false) : UniR p wd es nm x y 4 p es
  | type (h : (E.nmOk nm x && E.nmOk nm y) = true) (hw : wd.getD (E.nr p nm x) 0 ≠ wd.getD (E.nr p nm y) 0) : UniR p wd es nm x y 6 p es
  | ok (h : (E.nmOk nm x && E.nmOk nm y) = true) (hw : wd.getD (E.nr p nm x) 0 = wd.getD (E.nr p nm y) 0) {p1 : List Nat} {es1 : List (E.Opn × Nat)} (hs : E.Shut (E.join p (E.nr p nm x) (E.nr p nm y)) es p1 es1) (hd : E.Done (E.join p (E.nr p nm x) (E.nr p nm y)) es p1 es1) : UniR p wd es nm x y 0 p1 es1

/-- behind Union -/
structure UniPost (W : World) (b : Nat) (p : List Nat) (wd : List Int) (es : List (E.Opn × Nat)) (nm : List Nat) (vr : E.Vr) (v1 v2 v3 v4 : Value) (kb : Nat) (x y : Int) (e : Ending) (W' : World) (er : Int) (p1 : List Nat) (es1 : List (E.Opn × Nat)) (v3' : Value) (kb' : Nat) : Prop where
  ret : e = .returned (.int .i64 er)
  told : UniR p wd es nm x y er p1 es1
  gr : GrC W' b p1 wd es1 es1 nm vr v1 v2 v3' v4 kb'
  ok : E.Ok p1 wd es1 nm
  owf : ∀ k ∈ es1, OWf k.1
  len : p1.length = p.length
  le : es1.length ≤ es.length
  kp : Kpm (MG b v1 v2 v3 v4 kb) W W'
  new : ∀ i, MG b v1 v2 v3' v4 kb' i → MG b v1 v2 v3 v4 kb i ∨ W.heap.size ≤ i

set_option maxRecDepth 100000 in
set_option maxHeartbeats 2000000 in
theorem gUnion_any {W : World} {b : Nat} {p : List Nat} {wd : List Int} {es : List (E.Opn × Nat)} {nm : List Nat} {vr : E.Vr} {v1 v2 v3 v4 : Value} {kb : Nat} (h : GrC W b p wd es es nm vr v1 v2 v3 v4 kb) (ok : E.Ok p wd es nm) (hw : ∀ e ∈ es, OWf e.1) (hn : p.length ≤ 900000) (he : es.length ≤ 900000) (x y : Int) :
    Calls Try.prog 9 #[.pointer (some ⟨b, 0, none⟩), .int .i64 x, .int .i64 y] W fun e W' => ∃ er p1 es1 v3' kb', UniPost W b p wd es nm vr v1 v2 v3 v4 kb x y e W' er p1 es1 v3' kb' := by
  have hb1 : Below W.heap.size W (W.alloc (.cells #[.int .i64 x, .int .i64 y] 3)) := (Below.refl _ _).alloc (Nat.le_refl _) _
  have Hn := Lib.hid (gnamed_any (n := 2) (h.below hb1) ok (sl_lit (l := [x, y]) (heap_alloc_new W _) rfl (by simp)) (c := 2) (by simp))
  have Hb1 := Lib.hid hb1
  have H := Lib.hid h
  have Ok := Lib.hid ok
  have Hwf := Lib.hid hw
  clear h hb1 ok hw
  go_enter Try.func9, Try.ntmps9
  go_wp2_with fail
  (with_reducible refine Hn.out.mono ?_)
  rintro e w2 ⟨hb, ⟨hall, A', c', rfl, hs⟩ | ⟨hall, rfl⟩⟩
  · have hand : (E.nmOk nm x && E.nmOk nm y) = true := by simpa using hall
    have Hand := Lib.hid hand
    have Hb := Lib.hid (Hb1.out.trans (hb.mono (by simp)))
    obtain ⟨x0, g0, o0, u0, e0, rfl, _, h0, rfl⟩ := hs.at_ (k := 0) (by decide)
    obtain ⟨x1, g1, o1, u1, e1, eA, _, h1, rfl⟩ := hs.at_ (k := 1) (by decide)
    cases eA
    simp [ini] at e0 e1
    subst e0 e1
    rw [Nat.add_zero] at h0
    rw [Bool.and_eq_true] at hand
    have hlx := E.nr_lt (p := p) Ok.out.nm hand.1
    have hly := E.nr_lt (p := p) Ok.out.nm hand.2
    have Hw := Lib.hid (H.out.below Hb.out)
    obtain ⟨A2, c2, e2, hs2⟩ := Hw.out.slW
    have k1 := Hw.out.cells.2.1
    rw [e2] at k1
    obtain ⟨wx, g2, o2, u2, hwx, rfl, _, h2, rfl⟩ := hs2.at_ (k := E.nr p nm x) (by rw [Ok.out.wd]; exact hlx)
    obtain ⟨wy, g3, o3, u3, hwy, eB, _, h3, rfl⟩ := hs2.at_ (k := E.nr p nm y) (by rw [Ok.out.wd]; exact hly)
    cases eB
    have hle := hs2.le
    have hltx : E.nr p nm x < wd.length := by rw [Ok.out.wd]; exact hlx
    have hlty : E.nr p nm y < wd.length := by rw [Ok.out.wd]; exact hly
    have Hwx := Lib.hid (show wd.getD (E.nr p nm x) 0 = wx from by rw [List.getD_eq_getElem?_getD, hwx]; rfl)
    have Hwy := Lib.hid (show wd.getD (E.nr p nm y) 0 = wy from by rw [List.getD_eq_getElem?_getD, hwy]; rfl)
    have Hsl := Lib.hid hs
    clear hs hall hand hb hs2 hwx hwy e2
    obtain ⟨nx, hnx⟩ : ∃ nx : Nat, E.nr p nm x = nx := ⟨_, rfl⟩
    obtain ⟨ny, hny⟩ : ∃ ny : Nat, E.nr p nm y = ny := ⟨_, rfl⟩
    rw [hnx] at h0 h2 hltx hlx
    rw [hny] at h1 h3 hlty hly
    have Hnx := Lib.hid hnx
    have Hny := Lib.hid hny
    have Hlx := Lib.hid hlx
    have Hly := Lib.hid hly
    have Hc0 := Lib.hid h0
    have Hc1 := Lib.hid h1
    clear hnx hny hlx hly
    go_upto_region 4 with (fail)
    obtain ⟨ov⟩ := ov_ex w2
    have z0 := ov.cell h0
    have z1 := ov.cell h1
    have z2 := ov.cell k1
    have z3 := ov.cell h2
    have z4 := ov.cell h3
    clear h0 h1 h2 h3 k1
    refine wp_region_ovq ov (by kernel_rfl) (by kernel_rfl) ?_
    repeat (go_big_quiet_step (fail))
    refine wpQuiet_nil ?_
    rintro _ ⟨u, rfl⟩
    have Hbo := Lib.hid (ov.below u)
    have Hb3 := Lib.hid (Hb.out.trans (Hbo.out.mono Hb.out.size))
    have h0 := ov.cell Hc0.out u
    have h1 := ov.cell Hc1.out u
    generalize ov.f u = w3 at *
    clear z0 z1 z2 z3 z4
    have Hg3 := Lib.hid (H.out.below Hb3.out)
    by_cases hww : wx = wy
    · have hd : (wx != wy) = false := by simpa using hww
      have Hww := Lib.hid hww
      clear hww
      go_upto_region 6 with (fail)
      have Hb4 := Lib.hid (show Below W.heap.size W w3.drew from Hb3.out.drew)
      have Hg4 := Lib.hid (H.out.below Hb4.out)
      have Hun := Lib.hid (gunite_any Hg4.out Ok.out.down nx ny Hlx.out Hly.out)
      clear Hg3
      go_region_with ((go_at_call 22; (with_reducible refine Hun.out.mono ?_); rintro e w5 ⟨rfl, hg5, hk5, hs5⟩))
      all_goals
        obtain ⟨jd, jl, _⟩ := E.join_spec Ok.out.down Hlx.out Hly.out
        have Hg5 := Lib.hid hg5
        have Hk5 := Lib.hid hk5
        have Hok5 := Lib.hid (show E.Ok (E.join p nx ny) wd es nm from ⟨jd, by rw [jl]; exact Ok.out.wd, fun e he => by rw [jl]; exact Ok.out.inn e he, fun e he => by rw [jl]; exact Ok.out.ar e he, fun c hc => by rw [jl]; exact Ok.out.nm c hc⟩)
        have Hcl := Lib.hid (gclose_any Hg5.out Hok5.out Hwf.out (by rw [jl]; exact hn) he)
        have Hjl := Lib.hid jl
        clear hg5 hk5 hs5 jd jl
        go_wp2_with fail
        (with_reducible refine Hcl.out.mono ?_)
        rintro e w6 ⟨rfl, p1, es1, v3', kb', hp⟩
        have Hp := Lib.hid hp
        clear hp
        go_wp2
        go_ret
        have hl1 : p1.length = p.length := Hp.out.shut.mid.len.trans Hjl.out
        refine ⟨0, p1, es1, v3', kb', rfl, .ok Hand.out (by rw [Hwx.out, Hwy.out]; exact Hww.out) (by rw [Hnx.out, Hny.out]; exact Hp.out.shut) (by rw [Hnx.out, Hny.out]; exact Hp.out.done), Hp.out.gr, ⟨Hp.out.shut.mid.down, by rw [hl1]; exact Ok.out.wd, Hp.out.shut.mid.inn, Hp.out.ar, fun c hc => by rw [hl1]; exact Ok.out.nm c hc⟩, Hp.out.owf, hl1, Hp.out.le, ?_, ?_⟩
        · exact ((Kpm.of_below Hb4.out _).trans Hk5.out (fun _ _ h => h)).trans Hp.out.kp (fun _ _ h => h)
        · intro i hi
          rcases Hp.out.new i hi with h | h
          · exact .inl h
          · have := Hb4.out.size; have := Hk5.out.size; exact .inr (by omega)
    · have hd : (wx != wy) = true := by simpa using hww
      have Hww := Lib.hid hww
      clear hww
      go_wp2
      go_ret
      exact ⟨6, p, es, v3, kb, rfl, .type Hand.out (by rw [Hwx.out, Hwy.out]; exact Hww.out), Hg3.out, Ok.out, Hwf.out, rfl, Nat.le_refl _, Kpm.of_below Hb3.out _, fun i hi => .inl hi⟩
  · have hand : (E.nmOk nm x && E.nmOk nm y) = false := by simpa using hall
    have Hand := Lib.hid hand
    have Hb := Lib.hid (Hb1.out.trans (hb.mono (by simp)))
    clear hall hand hb
    go_wp2
    go_ret
    exact ⟨4, p, es, v3, kb, rfl, .none Hand.out, H.out.below Hb.out, Ok.out, Hwf.out, rfl, Nat.le_refl _, Kpm.of_below Hb.out _, fun i hi => .inl hi⟩
end Go.Proofs.Ytcmlmjbpdaecbaa
