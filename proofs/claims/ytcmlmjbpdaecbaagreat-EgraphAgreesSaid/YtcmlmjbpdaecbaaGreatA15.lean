/- Merged: QG12, QS2. -/
import Derived.Test.YtcmlmjbpdaecbaaGreatA14
set_option linter.unusedVariables false
set_option linter.unusedSimpArgs false
section
namespace Go.Proofs.YtcmlmjbpdaecbaaGreat
open Go.RowKit Go.MapKept Go.Maps Go.WideMaps
set_option linter.unusedVariables false
set_option linter.unusedSimpArgs false

def widthEnd (p : List Nat) (wd : List Int) (nm : List Nat) (x : Int) : Ending := if E.nmOk nm x = true then .returned (.tuple #[.int .i64 (wd.getD (E.nr p nm x) 0), .int .i64 0]) else .returned (.tuple #[.int .i64 0, .int .i64 4])

theorem GrC.slW {w : World} {b : Nat} {p : List Nat} {wd : List Int} {es kn : List (E.Opn × Nat)} {nm : List Nat} {vr : E.Vr} {v1 v2 v3 v4 : Value} {kb : Nat} (h : GrC w b p wd es kn nm vr v1 v2 v3 v4 kb) : ∃ A c, v2 = .slice A wd.length c ∧ SlAt (IntR .i64) w A wd.length wd := by
  obtain ⟨A, c, rfl⟩ := h.o2.form
  exact ⟨A, c, rfl, h.o2.slInts⟩

set_option maxRecDepth 100000 in
set_option maxHeartbeats 2000000 in
theorem gWidth_any {W : World} {b : Nat} {p : List Nat} {wd : List Int} {es kn : List (E.Opn × Nat)} {nm : List Nat} {vr : E.Vr} {v1 v2 v3 v4 : Value} {kb : Nat} (h : GrC W b p wd es kn nm vr v1 v2 v3 v4 kb) (ok : E.Ok p wd es nm) (x : Int) :
    Calls Tryz.prog 55 #[.pointer (some ⟨b, 0, none⟩), .int .i64 x] W fun e W' => Below W.heap.size W W' ∧ e = widthEnd p wd nm x := by
  have hb1 : Below W.heap.size W (W.alloc (.cells #[.int .i64 x] 3)) := (Below.refl _ _).alloc (Nat.le_refl _) _
  have Hn := Lib.hid (gnamed_any (n := 1) (h.below hb1) ok (sl_lit (l := [x]) (heap_alloc_new W _) rfl (by simp)) (c := 1) (by simp))
  have Hb1 := Lib.hid hb1
  have H := Lib.hid h
  have Ok := Lib.hid ok
  clear h hb1 ok
  go_enter Tryz.func55, Tryz.ntmps55
  go_wp2_with fail
  (with_reducible refine Hn.out.mono ?_)
  rintro e w2 ⟨hb, ⟨hall, A', c', rfl, hs⟩ | ⟨hall, rfl⟩⟩
  · have hand : E.nmOk nm x = true := by simpa using hall
    have Hand := Lib.hid hand
    have Hb := Lib.hid (Hb1.out.trans (hb.mono (by simp)))
    obtain ⟨x0, g0, o0, u0, e0, rfl, _, h0, rfl⟩ := hs.at_ (k := 0) (by decide)
    simp [ini] at e0
    subst e0
    rw [Nat.add_zero] at h0
    have hlt := E.nr_lt (p := p) Ok.out.nm hand
    have Hw := Lib.hid (H.out.below Hb.out)
    obtain ⟨A2, c2, e2, hs2⟩ := Hw.out.slW
    have k1 := Hw.out.cells.2.1
    rw [e2] at k1
    obtain ⟨y, g1, o1, u1, hy, rfl, _, h1, rfl⟩ := hs2.at_ (k := E.nr p nm x) (by rw [Ok.out.wd]; exact hlt)
    have hle := hs2.le
    have hltw : E.nr p nm x < wd.length := by rw [Ok.out.wd]; exact hlt
    have Hy := Lib.hid (show wd.getD (E.nr p nm x) 0 = y from by rw [List.getD_eq_getElem?_getD, hy]; rfl)
    clear hs hall hand hb hs2 hy e2 hlt
    obtain ⟨nx, hnx⟩ : ∃ nx : Nat, E.nr p nm x = nx := ⟨_, rfl⟩
    rw [hnx] at h0 h1 hltw
    clear hnx
    go_upto_region 4 with (fail)
    obtain ⟨ov⟩ := ov_ex w2
    have z0 := ov.cell h0
    have z1 := ov.cell h1
    have z2 := ov.cell k1
    clear h0 h1 k1
    refine wp_region_ovq ov (by kernel_rfl) (by kernel_rfl) ?_
    repeat (go_big_quiet_step (fail))
    refine wpQuiet_nil ?_
    rintro _ ⟨u, rfl⟩
    have Hb3 := Lib.hid (Hb.out.trans ((ov.below u).mono Hb.out.size))
    clear z0 z1 z2 Hb
    go_wp2
    refine bodyPost_ret (results_tmp2 rfl _ _ _) rfl ?_
    exact ⟨Hb3.out, by unfold widthEnd; rw [if_pos Hand.out, Hy.out]; rfl⟩
  · have hand : ¬ E.nmOk nm x = true := by
      intro h
      have : ([x].all (E.nmOk nm)) = true := by simpa using h
      rw [this] at hall; cases hall
    have Hand := Lib.hid hand
    have Hb := Lib.hid (Hb1.out.trans (hb.mono (by simp)))
    clear hall hand hb
    go_wp2
    refine bodyPost_ret (results_tmp2 rfl _ _ _) rfl ?_
    exact ⟨Hb.out, by unfold widthEnd; rw [if_neg Hand.out]; rfl⟩

/-- what Union does to the parents and the operations -/
inductive UniR (p : List Nat) (wd : List Int) (es : List (E.Opn × Nat)) (nm : List Nat) (x y : Int) : Int → List Nat → List (E.Opn × Nat) → Prop where
  | none (h : (E.nmOk nm x && E.nmOk nm y) = false) : UniR p wd es nm x y 4 p es
  | type (h : (E.nmOk nm x && E.nmOk nm y) = true) (hw : wd.getD (E.nr p nm x) 0 ≠ wd.getD (E.nr p nm y) 0) : UniR p wd es nm x y 6 p es
  | ok (h : (E.nmOk nm x && E.nmOk nm y) = true) (hw : wd.getD (E.nr p nm x) 0 = wd.getD (E.nr p nm y) 0) {p1 : List Nat} {es1 : List (E.Opn × Nat)} (hs : E.Shut (E.join p (E.nr p nm x) (E.nr p nm y)) es p1 es1) (hd : E.Done (E.join p (E.nr p nm x) (E.nr p nm y)) es p1 es1) : UniR p wd es nm x y 0 p1 es1

/-- behind Union -/
structure UniPost (W : World) (b : Nat) (p : List Nat) (wd : List Int) (es : List (E.Opn × Nat)) (nm : List Nat) (vr : E.Vr) (v1 v2 v3 v4 : Value) (kb : Nat) (x y : Int) (e : Ending) (W' : World) (er : Int) (p1 : List Nat) (es1 : List (E.Opn × Nat)) (v3' : Value) (kb' : Nat) : Prop where
  ret : e = .returned (.int .i64 er)
  told : UniR p wd es nm x y er p1 es1
  gr : GrC W' b p1 wd es1 es1 nm vr v1 v2 v3' v4 kb'
  ok : E.Ok p1 wd es1 nm
  owf : ∀ k ∈ es1, OWf k.1
  len : p1.length = p.length
  le : es1.length ≤ es.length
  kp : Kpm (MG b v1 v2 v3 v4 kb) W W'
  new : ∀ i, MG b v1 v2 v3' v4 kb' i → MG b v1 v2 v3 v4 kb i ∨ W.heap.size ≤ i

set_option maxRecDepth 100000 in
set_option maxHeartbeats 2000000 in
theorem gUnion_any {W : World} {b : Nat} {p : List Nat} {wd : List Int} {es : List (E.Opn × Nat)} {nm : List Nat} {vr : E.Vr} {v1 v2 v3 v4 : Value} {kb : Nat} (h : GrC W b p wd es es nm vr v1 v2 v3 v4 kb) (ok : E.Ok p wd es nm) (hw : ∀ e ∈ es, OWf e.1) (hn : p.length ≤ 900000) (he : es.length ≤ 900000) (x y : Int) :
    Calls Tryz.prog 29 #[.pointer (some ⟨b, 0, none⟩), .int .i64 x, .int .i64 y] W fun e W' => ∃ er p1 es1 v3' kb', UniPost W b p wd es nm vr v1 v2 v3 v4 kb x y e W' er p1 es1 v3' kb' := by
  have hb1 : Below W.heap.size W (W.alloc (.cells #[.int .i64 x, .int .i64 y] 3)) := (Below.refl _ _).alloc (Nat.le_refl _) _
  have Hn := Lib.hid (gnamed_any (n := 2) (h.below hb1) ok (sl_lit (l := [x, y]) (heap_alloc_new W _) rfl (by simp)) (c := 2) (by simp))
  have Hb1 := Lib.hid hb1
  have H := Lib.hid h
  have Ok := Lib.hid ok
  have Hwf := Lib.hid hw
  clear h hb1 ok hw
  go_enter Tryz.func29, Tryz.ntmps29
  go_wp2_with fail
  (with_reducible refine Hn.out.mono ?_)
  rintro e w2 ⟨hb, ⟨hall, A', c', rfl, hs⟩ | ⟨hall, rfl⟩⟩
  · have hand : (E.nmOk nm x && E.nmOk nm y) = true := by simpa using hall
    have Hand := Lib.hid hand
    have Hb := Lib.hid (Hb1.out.trans (hb.mono (by simp)))
    obtain ⟨x0, g0, o0, u0, e0, rfl, _, h0, rfl⟩ := hs.at_ (k := 0) (by decide)
    obtain ⟨x1, g1, o1, u1, e1, eA, _, h1, rfl⟩ := hs.at_ (k := 1) (by decide)
    cases eA
    simp [ini] at e0 e1
    subst e0 e1
    rw [Nat.add_zero] at h0
    rw [Bool.and_eq_true] at hand
    have hlx := E.nr_lt (p := p) Ok.out.nm hand.1
    have hly := E.nr_lt (p := p) Ok.out.nm hand.2
    have Hw := Lib.hid (H.out.below Hb.out)
    obtain ⟨A2, c2, e2, hs2⟩ := Hw.out.slW
    have k1 := Hw.out.cells.2.1
    rw [e2] at k1
    obtain ⟨wx, g2, o2, u2, hwx, rfl, _, h2, rfl⟩ := hs2.at_ (k := E.nr p nm x) (by rw [Ok.out.wd]; exact hlx)
    obtain ⟨wy, g3, o3, u3, hwy, eB, _, h3, rfl⟩ := hs2.at_ (k := E.nr p nm y) (by rw [Ok.out.wd]; exact hly)
    cases eB
    have hle := hs2.le
    have hltx : E.nr p nm x < wd.length := by rw [Ok.out.wd]; exact hlx
    have hlty : E.nr p nm y < wd.length := by rw [Ok.out.wd]; exact hly
    have Hwx := Lib.hid (show wd.getD (E.nr p nm x) 0 = wx from by rw [List.getD_eq_getElem?_getD, hwx]; rfl)
    have Hwy := Lib.hid (show wd.getD (E.nr p nm y) 0 = wy from by rw [List.getD_eq_getElem?_getD, hwy]; rfl)
    have Hsl := Lib.hid hs
    clear hs hall hand hb hs2 hwx hwy e2
    obtain ⟨nx, hnx⟩ : ∃ nx : Nat, E.nr p nm x = nx := ⟨_, rfl⟩
    obtain ⟨ny, hny⟩ : ∃ ny : Nat, E.nr p nm y = ny := ⟨_, rfl⟩
    rw [hnx] at h0 h2 hltx hlx
    rw [hny] at h1 h3 hlty hly
    have Hnx := Lib.hid hnx
    have Hny := Lib.hid hny
    have Hlx := Lib.hid hlx
    have Hly := Lib.hid hly
    have Hc0 := Lib.hid h0
    have Hc1 := Lib.hid h1
    clear hnx hny hlx hly
    go_upto_region 4 with (fail)
    obtain ⟨ov⟩ := ov_ex w2
    have z0 := ov.cell h0
    have z1 := ov.cell h1
    have z2 := ov.cell k1
    have z3 := ov.cell h2
    have z4 := ov.cell h3
    clear h0 h1 h2 h3 k1
    refine wp_region_ovq ov (by kernel_rfl) (by kernel_rfl) ?_
    repeat (go_big_quiet_step (fail))
    refine wpQuiet_nil ?_
    rintro _ ⟨u, rfl⟩
    have Hbo := Lib.hid (ov.below u)
    have Hb3 := Lib.hid (Hb.out.trans (Hbo.out.mono Hb.out.size))
    have h0 := ov.cell Hc0.out u
    have h1 := ov.cell Hc1.out u
    generalize ov.f u = w3 at *
    clear z0 z1 z2 z3 z4
    have Hg3 := Lib.hid (H.out.below Hb3.out)
    by_cases hww : wx = wy
    · have hd : (wx != wy) = false := by simpa using hww
      have Hww := Lib.hid hww
      clear hww
      go_upto_region 6 with (fail)
      have Hb4 := Lib.hid (show Below W.heap.size W w3.drew from Hb3.out.drew)
      have Hg4 := Lib.hid (H.out.below Hb4.out)
      have Hun := Lib.hid (gunite_any Hg4.out Ok.out.down nx ny Hlx.out Hly.out)
      clear Hg3
      go_region_with ((go_at_call 73; (with_reducible refine Hun.out.mono ?_); rintro e w5 ⟨rfl, hg5, hk5, hs5⟩))
      all_goals
        obtain ⟨jd, jl, _⟩ := E.join_spec Ok.out.down Hlx.out Hly.out
        have Hg5 := Lib.hid hg5
        have Hk5 := Lib.hid hk5
        have Hok5 := Lib.hid (show E.Ok (E.join p nx ny) wd es nm from ⟨jd, by rw [jl]; exact Ok.out.wd, fun e he => by rw [jl]; exact Ok.out.inn e he, fun e he => by rw [jl]; exact Ok.out.ar e he, fun c hc => by rw [jl]; exact Ok.out.nm c hc⟩)
        have Hcl := Lib.hid (gclose_any Hg5.out Hok5.out Hwf.out (by rw [jl]; exact hn) he)
        have Hjl := Lib.hid jl
        clear hg5 hk5 hs5 jd jl
        go_wp2_with fail
        (with_reducible refine Hcl.out.mono ?_)
        rintro e w6 ⟨rfl, p1, es1, v3', kb', hp⟩
        have Hp := Lib.hid hp
        clear hp
        go_wp2
        go_ret
        have hl1 : p1.length = p.length := Hp.out.shut.mid.len.trans Hjl.out
        refine ⟨0, p1, es1, v3', kb', rfl, .ok Hand.out (by rw [Hwx.out, Hwy.out]; exact Hww.out) (by rw [Hnx.out, Hny.out]; exact Hp.out.shut) (by rw [Hnx.out, Hny.out]; exact Hp.out.done), Hp.out.gr, ⟨Hp.out.shut.mid.down, by rw [hl1]; exact Ok.out.wd, Hp.out.shut.mid.inn, Hp.out.ar, fun c hc => by rw [hl1]; exact Ok.out.nm c hc⟩, Hp.out.owf, hl1, Hp.out.le, ?_, ?_⟩
        · exact ((Kpm.of_below Hb4.out _).trans Hk5.out (fun _ _ h => h)).trans Hp.out.kp (fun _ _ h => h)
        · intro i hi
          rcases Hp.out.new i hi with h | h
          · exact .inl h
          · have := Hb4.out.size; have := Hk5.out.size; exact .inr (by omega)
    · have hd : (wx != wy) = true := by simpa using hww
      have Hww := Lib.hid hww
      clear hww
      go_wp2
      go_ret
      exact ⟨6, p, es, v3, kb, rfl, .type Hand.out (by rw [Hwx.out, Hwy.out]; exact Hww.out), Hg3.out, Ok.out, Hwf.out, rfl, Nat.le_refl _, Kpm.of_below Hb3.out _, fun i hi => .inl hi⟩
  · have hand : (E.nmOk nm x && E.nmOk nm y) = false := by simpa using hall
    have Hand := Lib.hid hand
    have Hb := Lib.hid (Hb1.out.trans (hb.mono (by simp)))
    clear hall hand hb
    go_wp2
    go_ret
    exact ⟨4, p, es, v3, kb, rfl, .none Hand.out, H.out.below Hb.out, Ok.out, Hwf.out, rfl, Nat.le_refl _, Kpm.of_below Hb.out _, fun i hi => .inl hi⟩
end Go.Proofs.YtcmlmjbpdaecbaaGreat
end
section
namespace Go.Proofs.YtcmlmjbpdaecbaaGreat
open Go.RowKit Go.MapKept Go.Maps Go.WideMaps
set_option linter.unusedVariables false
set_option linter.unusedSimpArgs false

theorem SlAt.kpm {M : Nat → Prop} {w w' : World} {q : IntKind} {A : Option Addr} {n : Nat} {xs : List Int} (h : SlAt (IntR q) w A n xs) (k : Kpm M w w') (hA : xs ≠ [] → ∀ b off, A = some ⟨b, off, none⟩ → ¬ M b) : SlAt (IntR q) w' A n xs := by
  refine ⟨h.1, h.2.1, fun j x hx => ?_⟩
  obtain ⟨b, off, u, e, hlt, hc, hr⟩ := h.2.2 j x hx
  have hn : xs ≠ [] := fun e => by rw [e] at hx; simp at hx
  have hb := k.block b hlt (hA hn b off e)
  refine ⟨b, off, u, e, Nat.lt_of_lt_of_le hlt k.size, ?_, hr⟩
  unfold World.cell? at hc ⊢
  rw [hb]
  exact hc
/-- a node that a builder can hold -/
structure NWf (x : T.Nd) : Prop where
  op : I64 x.op
  w : I64 x.w
  fl : x.fl = 0
  imm : 0 ≤ x.imm ∧ x.imm < 4294967296
  len : x.args.length ≤ 3
  args : ∀ a ∈ x.args, 0 ≤ a ∧ a < 4611686018427387904

theorem args_pad {l m : List Int} (hl : l.length ≤ 3) (hm : m.length ≤ 3) (al : ∀ a ∈ l, 0 ≤ a) (am : ∀ a ∈ m, 0 ≤ a) (h0 : l.getD 0 (-1) = m.getD 0 (-1)) (h1 : l.getD 1 (-1) = m.getD 1 (-1)) (h2 : l.getD 2 (-1) = m.getD 2 (-1)) : l = m := by
  rcases l with _ | ⟨a, _ | ⟨b, _ | ⟨c, _ | ⟨d, l⟩⟩⟩⟩ <;> rcases m with _ | ⟨a', _ | ⟨b', _ | ⟨c', _ | ⟨d', m⟩⟩⟩⟩ <;> simp at * <;> omega

theorem opn_inj {x y : T.Nd} (hx : NWf x) (hy : NWf y) (h : E.opn x = E.opn y) : x = y := by
  obtain ⟨op, w, fl, args, imm⟩ := x
  obtain ⟨op', w', fl', args', imm'⟩ := y
  simp only [E.opn, E.Opn.mk.injEq] at h
  obtain ⟨rfl, rfl, rfl, h0, h1, h2⟩ := h
  have f1 := hx.fl
  have f2 := hy.fl
  simp only at f1 f2
  subst f1 f2
  obtain rfl := args_pad hx.len hy.len (fun a ha => (hx.args a ha).1) (fun a ha => (hy.args a ha).1) h0 h1 h2
  rfl

theorem NWf.ky {x : T.Nd} (h : NWf x) : OWf (E.opn x) := by
  have ha : ∀ i, I64 (x.args.getD i (-1)) := fun i => by
    rw [List.getD_eq_getElem?_getD]
    cases e : x.args[i]? with
    | none => exact ⟨by decide, by decide⟩
    | some a =>
      have := h.args a (List.mem_of_getElem? e)
      exact ⟨by simp; omega, by simp; omega⟩
  exact ⟨h.op, h.w, h.imm, ha 0, ha 1, ha 2⟩

/-- elements that are numbers -/
def IntE (_ : World) (_ : E.Opn) (u : Value) (n : Int) : Prop := u = .int .i64 n

/-- the entries of a list of nodes, from a number on -/
def entsF : Nat → List T.Nd → List (E.Opn × Int)
  | _, [] => []
  | k, x :: l => (E.opn x, (k : Int)) :: entsF (k + 1) l
def ents (out : List T.Nd) : List (E.Opn × Int) := entsF 0 out

theorem entsF_app (l m : List T.Nd) : ∀ k, entsF k (l ++ m) = entsF k l ++ entsF (k + l.length) m := by
  induction l with
  | nil => intro k; simp [entsF]
  | cons x l ih => intro k; simp only [List.cons_append, entsF, ih, List.length_cons]; rw [show k + 1 + l.length = k + (l.length + 1) by omega]

theorem entsF_get {x : T.Nd} (hx : NWf x) : ∀ (l : List T.Nd) (k : Nat), (∀ y ∈ l, NWf y) → AL.get (entsF k l) (E.opn x) = if x ∈ l then some ((k + l.idxOf x : Nat) : Int) else none := by
  intro l
  induction l with
  | nil => intro k _; rfl
  | cons y l ih =>
    intro k h
    unfold entsF AL.get
    by_cases e : E.opn y = E.opn x
    · have e' := opn_inj (h y (by simp)) hx e
      subst e'
      simp
    · rw [if_neg e, ih (k + 1) (fun z hz => h z (by simp [hz]))]
      have hne : x ≠ y := fun h' => e (by rw [h'])
      have hne' : (y == x) = false := by simp; exact fun h' => hne h'.symm
      by_cases hm : x ∈ l
      · rw [if_pos hm, if_pos (by simp [hm]), List.idxOf_cons, hne']
        simp; omega
      · rw [if_neg hm, if_neg (by simp [hm, hne])]

theorem ents_get {out : List T.Nd} {x : T.Nd} (hx : NWf x) (ho : ∀ y ∈ out, NWf y) : AL.get (ents out) (E.opn x) = if x ∈ out then some ((out.idxOf x : Nat) : Int) else none := by
  have := entsF_get hx out 0 ho
  unfold ents
  simpa using this

theorem ents_put {out : List T.Nd} {x : T.Nd} (hx : NWf x) (ho : ∀ y ∈ out, NWf y) (hn : x ∉ out) : AL.put (ents out) (E.opn x) (out.length : Int) = ents (out ++ [x]) := by
  have hg := ents_get hx ho
  rw [if_neg hn] at hg
  rw [AL.put_none (AL_get_none hg)]
  unfold ents
  rw [entsF_app]
  simp [entsF]

/-- five cells are a node of the builder's: its operands lie in one of its blocks -/
def NdM (M : Nat → Prop) (w : World) (us : List Value) (x : T.Nd) : Prop :=
  ∃ A c, us = ndC x A c ∧ SlAt (IntR .i64) w A x.args.length x.args ∧ 0 ≤ x.imm ∧ x.imm < 4294967296 ∧ (x.args ≠ [] → ∀ b off, A = some ⟨b, off, none⟩ → M b ∧ ∃ cur fr, w.heap[b]? = some (.cells cur 3 fr))

/-- the slice v holds these nodes; all of it lies in M -/
def OwnM (M : Nat → Prop) (w : World) (v : Value) (nds : List T.Nd) : Prop :=
  ∃ cells, OwnAt w 63 5 v nds.length cells ∧ (∀ (k : Nat) (x : T.Nd), nds[k]? = some x → NdM M w ((cells.drop (k * 5)).take 5) x) ∧ ∀ g, v.ownBlock = some g → M g

/-- the builder at block bb holds these nodes; its memory is M, above B -/
structure BuAt (w : World) (B bb : Nat) (out : List T.Nd) (M : Nat → Prop) : Prop where
  in_ : ∀ i, M i → B ≤ i ∧ i < w.heap.size
  self : M bb
  wf : ∀ x ∈ out, NWf x
  cells : ∃ v fm, w.heap[bb]? = some (.cells #[v, .map fm] 220 (0, 0)) ∧ OwnM M w v out ∧
    ((fm = none ∧ out = []) ∨ ∃ fb, fm = some fb ∧ M fb ∧ MapAt Tryz.prog 230 opV IntE w fb (ents out))

section
variable {M M' : Nat → Prop} {w w' : World} {us : List Value} {x : T.Nd} {v : Value} {nds out : List T.Nd} {B bb : Nat}

theorem NdM.ndR (h : NdM M w us x) : NdR w us x := by
  obtain ⟨A, c, h1, h2, h3, h4, _⟩ := h
  exact ⟨A, c, h1, h2, h3, h4⟩

theorem NdM.same (h : NdM M w us x) (hs : ∀ i, M i → w'.heap[i]? = w.heap[i]?) : NdM M w' us x := by
  obtain ⟨A, c, h1, h2, h3, h4, h5⟩ := h
  refine ⟨A, c, h1, ⟨h2.1, h2.2.1, fun k y hy => ?_⟩, h3, h4, fun hn b off hA => ?_⟩
  · obtain ⟨b, off, u, hA, hlt, hc, hu⟩ := h2.2.2 k y hy
    have hn : x.args ≠ [] := fun e => by rw [e] at hy; simp at hy
    obtain ⟨hm, cur, fr, hcur⟩ := h5 hn b off hA
    have e := hs b hm
    rw [hcur] at e
    refine ⟨b, off, u, hA, (Array.getElem?_eq_some_iff.1 e).1, ?_, hu⟩
    unfold World.cell? at hc ⊢
    rw [e, ← hcur]
    exact hc
  · obtain ⟨hm, cur, fr, hcur⟩ := h5 hn b off hA
    exact ⟨hm, cur, fr, (hs b hm).trans hcur⟩

theorem NdM.weak (h : NdM M w us x) (hs : ∀ i, M i → M' i) : NdM M' w us x := by
  obtain ⟨A, c, h1, h2, h3, h4, h5⟩ := h
  exact ⟨A, c, h1, h2, h3, h4, fun hn b off hA => ⟨hs b (h5 hn b off hA).1, (h5 hn b off hA).2⟩⟩

theorem NdM.grown {row : Option Nat} (h : NdM M w us x) (hg : w.grownBy w' row) (hr : ∀ g cur fr, row = some g → w.heap[g]? ≠ some (.cells cur 3 fr)) : NdM M w' us x := by
  obtain ⟨A, c, h1, h2, h3, h4, h5⟩ := h
  have key : x.args ≠ [] → ∀ b off, A = some ⟨b, off, none⟩ → w'.heap[b]? = w.heap[b]? := fun hn b off hA => by
    obtain ⟨hm, cur, fr, hcur⟩ := h5 hn b off hA
    exact hg.block b (Array.getElem?_eq_some_iff.1 hcur).1 (fun e => hr b cur fr e.symm hcur)
  refine ⟨A, c, h1, ⟨h2.1, h2.2.1, fun k y hy => ?_⟩, h3, h4, fun hn b off hA => ?_⟩
  · obtain ⟨b, off, u, hA, hlt, hc, hu⟩ := h2.2.2 k y hy
    have hn : x.args ≠ [] := fun e => by rw [e] at hy; simp at hy
    refine ⟨b, off, u, hA, Nat.lt_of_lt_of_le hlt hg.size, ?_, hu⟩
    unfold World.cell? at hc ⊢
    rw [key hn b off hA]
    exact hc
  · obtain ⟨hm, cur, fr, hcur⟩ := h5 hn b off hA
    exact ⟨hm, cur, fr, (key hn b off hA).trans hcur⟩

theorem NdM.below (h : NdM M w us x) (hk : Below w.heap.size w w') : NdM M w' us x := by
  obtain ⟨A, c, h1, h2, h3, h4, h5⟩ := h
  refine ⟨A, c, h1, h2.below (monoInt _) hk, h3, h4, fun hn b off hA => ?_⟩
  obtain ⟨hm, cur, fr, hc⟩ := h5 hn b off hA
  exact ⟨hm, cur, fr, (hk.block _ (Array.getElem?_eq_some_iff.1 hc).1).trans hc⟩

theorem OwnM.nil_ (M : Nat → Prop) (w : World) : OwnM M w (.slice none 0 0) [] := ⟨[], OwnAt.nil_ _ _ _, fun k x h => by simp at h, fun g h => by simp [Value.ownBlock] at h⟩

theorem OwnM.form (h : OwnM M w v nds) : ∃ A c, v = .slice A nds.length c := by
  obtain ⟨cells, h1, _⟩ := h
  exact h1.form

theorem OwnM.same (h : OwnM M w v nds) (hs : ∀ i, M i → w'.heap[i]? = w.heap[i]?) : OwnM M w' v nds := by
  obtain ⟨cells, h1, h2, h3⟩ := h
  exact ⟨cells, h1.same fun g hg => hs g (h3 g hg), fun k x hx => (h2 k x hx).same hs, h3⟩

/-- another block turns: no block of nodes, nor of numbers -/
theorem OwnM.grown {row : Option Nat} (h : OwnM M w v nds) (hg : w.grownBy w' row) (hr : ∀ g cur T fr, row = some g → w.heap[g]? = some (.cells cur T fr) → T ≠ 3 ∧ T ≠ 63) : OwnM M w' v nds := by
  obtain ⟨cells, h1, h2, h3⟩ := h
  refine ⟨cells, h1.same fun g hg' => ?_, fun k x hx => (h2 k x hx).grown hg fun g cur fr e hc => (hr g cur _ fr e hc).1 rfl, h3⟩
  rcases h1.2 with ⟨rfl, _⟩ | ⟨g', off, cap, cur, rfl, hcur, _⟩
  · simp [Value.ownBlock] at hg'
  · simp [Value.ownBlock] at hg'
    subst hg'
    exact hg.block _ (Array.getElem?_eq_some_iff.1 hcur).1 (fun e => (hr _ cur _ _ e.symm hcur).2 rfl)

theorem OwnM.stAt {A : Option Addr} {n c : Nat} (h : OwnM M w (.slice A n c) nds) (hn : nds.length = n) : StAt 5 NdR w A n nds := by
  obtain ⟨cells, h1, h2, h3⟩ := h
  rw [hn] at h1
  exact h1.stAt hn fun k x hx => (h2 k x hx).ndR

theorem OwnM.row (h : OwnM M w v nds) : ∀ g, v.ownBlock = some g → ∃ cur fr, w.heap[g]? = some (.cells cur 63 fr) := by
  obtain ⟨cells, h1, h2, h3⟩ := h
  intro g hg
  rcases h1.2 with ⟨rfl, _⟩ | ⟨g', off, cap, cur, rfl, hcur, _⟩
  · simp [Value.ownBlock] at hg
  · simp [Value.ownBlock] at hg
    subst hg
    exact ⟨cur, _, hcur⟩

theorem BuAt.same (h : BuAt w B bb out M) (hs : ∀ i, M i → w'.heap[i]? = w.heap[i]?) (hz : w.heap.size ≤ w'.heap.size) : BuAt w' B bb out M := by
  obtain ⟨v, fm, h1, h2, h3⟩ := h.cells
  refine ⟨fun i hi => ⟨(h.in_ i hi).1, Nat.lt_of_lt_of_le (h.in_ i hi).2 hz⟩, h.self, h.wf, v, fm, (hs bb h.self).trans h1, h2.same hs, ?_⟩
  rcases h3 with h3 | ⟨fb, e, hm, hM⟩
  · exact .inl h3
  · exact .inr ⟨fb, e, hm, hM.keep (hs fb hm) fun _ _ _ h => h⟩

theorem BuAt.below (h : BuAt w B bb out M) (k : Below w.heap.size w w') : BuAt w' B bb out M :=
  h.same (fun i hi => k.block i (h.in_ i hi).2) k.size
end

/-- operands in memory of the call's own -/
def ArgAt (B : Nat) (M : Nat → Prop) (w : World) (A : Option Addr) (l : List Int) : Prop :=
  SlAt (IntR .i64) w A l.length l ∧ (l ≠ [] → ∀ b off, A = some ⟨b, off, none⟩ → B ≤ b ∧ ¬ M b ∧ ∃ cur fr, w.heap[b]? = some (.cells cur 3 fr))

/-- one of the blocks of these operands -/
def InA (A : Option Addr) (l : List Int) (i : Nat) : Prop := l ≠ [] ∧ ∃ off, A = some ⟨i, off, none⟩
end Go.Proofs.YtcmlmjbpdaecbaaGreat
end
