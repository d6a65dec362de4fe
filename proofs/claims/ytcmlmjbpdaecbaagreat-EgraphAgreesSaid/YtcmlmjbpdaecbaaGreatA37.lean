/- Merged: QOpenW, QOpenN, QOpenG, QOpenA, QJ16, QJ17. -/
import Derived.Test.YtcmlmjbpdaecbaaGreatA06
import Derived.ChangeSame
import Derived.Deep.Strs
import Derived.Test.YtcmlmjbpdaecbaaGreatA07
import Derived.Test.YtcmlmjbpdaecbaaGreatA36
import Derived.Test.YtcmlmjbpdaecbaaGreatA35
set_option linter.unusedVariables false
set_option linter.unusedSimpArgs false
section
namespace Go.Proofs.YtcmlmjbpdaecbaaGreat
open Go.ChangeShapes Go.WideShapes Go.ChangeAt Go.RowKit Go.Deep
set_option linter.unusedVariables false

/-- a word, and that it is one -/
def WordR (_ : World) (u : Value) (x : Int) : Prop := u = .int .u32 x ∧ 0 ≤ x ∧ x < 4294967296
theorem readsWord {H : Type} {enc : TypeId × Value → H} {P : Program} {W : World} {t : TypeId} (ht : P.underlying t = some (.int .u32)) : ReadsAs enc P W t WordR := by
  intro n u x h
  obtain ⟨m, e, _, hw⟩ := DataW.trod_int ht h
  refine ⟨m, (List.cons.inj e).1, ?_⟩
  simp [Lit.wf, IntKind.min, IntKind.max, IntKind.signed, IntKind.bits] at hw
  omega
theorem SlAt.words {W : World} {A : Option Addr} {m : Nat} {t : List Int} (h : SlAt WordR W A m t) : SlAt (IntR .u32) W A m t ∧ ∀ x ∈ t, 0 ≤ x ∧ x < 4294967296 := by
  refine ⟨⟨h.1, h.2.1, fun k x hx => ?_⟩, fun x hx => ?_⟩
  · obtain ⟨b, off, u, e1, e2, e3, e4⟩ := h.2.2 k x hx
    exact ⟨b, off, u, e1, e2, e3, e4.1⟩
  · obtain ⟨j, hj⟩ := List.mem_iff_getElem?.1 hx
    obtain ⟨b, off, u, e1, e2, e3, e4⟩ := h.2.2 j x hj
    exact e4.2
end Go.Proofs.YtcmlmjbpdaecbaaGreat
end
section
namespace Go.Proofs.YtcmlmjbpdaecbaaGreat
open Go.ChangeShapes Go.WideShapes Go.ChangeAt Go.RowKit Go.Deep
set_option linter.unusedVariables false
set_option linter.unusedSimpArgs false

theorem cellsIntN : Tryz.prog.cellsOf 3 = 1 := by kernel_rfl
theorem cellsNode : Tryz.prog.cellsOf 63 = 5 := by kernel_rfl

/-- five cells read as a node -/
theorem readsNode {H : Type} {enc : TypeId × Value → H} {W : World} {fs : Array Field} (hfs : fs.size = 5) (hty : ∀ (j : Nat) (f : Field), fs[j]? = some f → f.type = (#[3, 3, 3, 60, 61]).getD j 0) : ReadsSt enc Tryz.prog W fs NdR := by
  intro n us hl hu
  have get : ∀ j, j < 5 → ∃ u y, us[j]? = some u ∧ DataW.trod enc Tryz.prog W 0 (fun _ => true) true n ((#[3, 3, 3, 60, 61]).getD j 0) [u] = some y := fun j hj => by
    have hj' : j < fs.size := by omega
    obtain ⟨u, y, h1, h2⟩ := hu j fs[j] (Array.getElem?_eq_getElem hj')
    rw [hty j _ (Array.getElem?_eq_getElem hj')] at h2
    exact ⟨u, y, h1, h2⟩
  obtain ⟨u0, y0, g0, h0⟩ := get 0 (by omega)
  obtain ⟨u1, y1, g1, h1⟩ := get 1 (by omega)
  obtain ⟨u2, y2, g2, h2⟩ := get 2 (by omega)
  obtain ⟨u3, y3, g3, h3⟩ := get 3 (by omega)
  obtain ⟨u4, y4, g4, h4⟩ := get 4 (by omega)
  obtain ⟨a, e0, _, _⟩ := DataW.trod_int Tryz.underlying3 h0
  obtain ⟨b, e1, _, _⟩ := DataW.trod_int Tryz.underlying3 h1
  obtain ⟨c, e2, _, _⟩ := DataW.trod_int Tryz.underlying3 h2
  obtain ⟨l, A, cp, e3, s3⟩ := readsSl (enc := enc) (W := W) Tryz.underlying60 cellsIntN (readsInt Tryz.underlying3) n u3 y3 h3
  obtain ⟨d, e4, d0, d1⟩ := readsWord (enc := enc) (W := W) Tryz.underlying61 n u4 y4 h4
  have e0' := (List.cons.inj e0).1
  have e1' := (List.cons.inj e1).1
  have e2' := (List.cons.inj e2).1
  rw [hfs] at hl
  refine ⟨⟨a, b, c, l, d⟩, A, cp, ?_, s3, d0, d1⟩
  match us, hl, g0, g1, g2, g3, g4 with
  | [v0, v1, v2, v3, v4], _, g0, g1, g2, g3, g4 =>
    simp at g0 g1 g2 g3 g4
    subst g0 g1 g2 g3 g4
    rw [e0', e1', e2', e3, e4]
    rfl

end Go.Proofs.YtcmlmjbpdaecbaaGreat
end
section
namespace Go.Proofs.YtcmlmjbpdaecbaaGreat
open Go.ChangeShapes Go.WideShapes Go.ChangeAt Go.RowKit Go.Deep
set_option linter.unusedVariables false
set_option linter.unusedSimpArgs false
set_option maxRecDepth 100000

/-- a term as one cell -/
def NdsR (W : World) (u : Value) (l : List T.Nd) : Prop := ∃ A c, u = .slice A l.length c ∧ StAt 5 NdR W A l.length l
set_option maxRecDepth 100000 in
theorem readsNodes {H : Type} {enc : TypeId × Value → H} {W : World} : ReadsAs enc Tryz.prog W 43 NdsR := by
  intro n u x h
  obtain ⟨A, m, c, xs, rfl, hs⟩ := stAt_of_cells (R := NdR) Tryz.underlying43 Tryz.underlying63 (by kernel_rfl) cellsNode (by decide) (readsNode rfl (fun j f h => by rcases j with _ | _ | _ | _ | _ | j <;> simp at h <;> (subst h; rfl))) h
  have hl := hs.len
  subst hl
  exact ⟨xs, A, c, rfl, hs⟩
end Go.Proofs.YtcmlmjbpdaecbaaGreat
end
section
namespace Go.Proofs.YtcmlmjbpdaecbaaGreat
open Go.ChangeShapes Go.WideShapes Go.ChangeAt Go.RowKit Go.Deep
set_option linter.unusedVariables false
set_option linter.unusedSimpArgs false
set_option maxRecDepth 100000

structure Act where
  kind : Int
  term : List T.Nd
  a : Int
  b : Int
deriving Inhabited
/-- four cells as an act -/
def ActR (W : World) (us : List Value) (x : Act) : Prop := ∃ A c, us = [.int .i64 x.kind, .slice A x.term.length c, .int .i64 x.a, .int .i64 x.b] ∧ StAt 5 NdR W A x.term.length x.term
theorem cellsAct : Tryz.prog.cellsOf 72 = 4 := by kernel_rfl

theorem readsAct {H : Type} {enc : TypeId × Value → H} {W : World} {fs : Array Field} (hfs : fs.size = 4) (hty : ∀ (j : Nat) (f : Field), fs[j]? = some f → f.type = (#[3, 43, 3, 3]).getD j 0) : ReadsSt enc Tryz.prog W fs ActR := by
  intro n us hl hu
  have get : ∀ j, j < 4 → ∃ u y, us[j]? = some u ∧ DataW.trod enc Tryz.prog W 0 (fun _ => true) true n ((#[3, 43, 3, 3]).getD j 0) [u] = some y := fun j hj => by
    have hj' : j < fs.size := by omega
    obtain ⟨u, y, h1, h2⟩ := hu j fs[j] (Array.getElem?_eq_getElem hj')
    rw [hty j _ (Array.getElem?_eq_getElem hj')] at h2
    exact ⟨u, y, h1, h2⟩
  obtain ⟨u0, y0, g0, h0⟩ := get 0 (by omega)
  obtain ⟨u1, y1, g1, h1⟩ := get 1 (by omega)
  obtain ⟨u2, y2, g2, h2⟩ := get 2 (by omega)
  obtain ⟨u3, y3, g3, h3⟩ := get 3 (by omega)
  obtain ⟨a, e0, _, _⟩ := DataW.trod_int Tryz.underlying3 h0
  obtain ⟨l, A, cp, e1, s1⟩ := readsNodes (enc := enc) (W := W) n u1 y1 h1
  obtain ⟨b, e2, _, _⟩ := DataW.trod_int Tryz.underlying3 h2
  obtain ⟨c, e3, _, _⟩ := DataW.trod_int Tryz.underlying3 h3
  have e0' := (List.cons.inj e0).1
  have e2' := (List.cons.inj e2).1
  have e3' := (List.cons.inj e3).1
  rw [hfs] at hl
  refine ⟨⟨a, l, b, c⟩, A, cp, ?_, s1⟩
  match us, hl, g0, g1, g2, g3 with
  | [v0, v1, v2, v3], _, g0, g1, g2, g3 =>
    simp at g0 g1 g2 g3
    subst g0 g1 g2 g3
    rw [e0', e1, e2', e3']

/-- a list of acts that came in -/
theorem open_acts {H : Type} {enc : TypeId × Value → H} {W : World} {r : Reach} {b0 : Nat} {v : Value} {d : DataW H} {ps : List MemPlace} (hval : Value.okWide Tryz.prog W r b0 22 v) (h : DataW.Trod enc Tryz.prog W 0 (fun _ => true) true 22 v d ps) :
    ∃ A m c xs, v = .slice A m c ∧ StAt 4 ActR W A m xs :=
  open_st (R := ActR) Tryz.underlying22 Tryz.underlying72 (by kernel_rfl) cellsAct (by decide) (readsAct rfl (fun j f h => by rcases j with _ | _ | _ | _ | j <;> simp at h <;> (subst h; rfl))) hval h
end Go.Proofs.YtcmlmjbpdaecbaaGreat
end
section
namespace Go.Proofs.YtcmlmjbpdaecbaaGreat
open Go.RowKit Go.MapKept Go.Maps Go.WideMaps
set_option linter.unusedVariables false
set_option linter.unusedSimpArgs false

theorem width_form (p : List Nat) (wd : List Int) (nm : List Nat) (x : Int) : ∃ u v, widthEnd p wd nm x = .returned (.tuple #[.int .i64 u, .int .i64 v]) := by
  unfold widthEnd
  split
  · exact ⟨_, _, rfl⟩
  · exact ⟨_, _, rfl⟩
theorem same_form (p nm : List Nat) (x y : Int) : ∃ u v, sameEnd p nm x y = .returned (.tuple #[.bool u, .int .i64 v]) := by
  unfold sameEnd
  split
  · exact ⟨_, _, rfl⟩
  · exact ⟨_, _, rfl⟩

set_option maxRecDepth 100000 in
set_option maxHeartbeats 4000000 in
theorem alike_any {W0 W : World} {s r : E.Gr} {bg br N : Nat} {X : Nat → Prop} (h : BM W0 s r bg br X W) (al : E.Alike s r) (z : Sz s N) (hN : N ≤ 800000) :
    Calls Tryz.prog 16 #[.pointer (some ⟨bg, 0, none⟩), .pointer (some ⟨br, 0, none⟩)] W fun e w' => e = .returned (.bool true) ∧ Below W.heap.size W w' := by
  have Hc1 := Lib.hid (h.classesG z hN)
  have H := Lib.hid h
  have Al := Lib.hid al
  have Zr := Lib.hid (z.alike al)
  have hM : r.nm.length ≤ 800000 := Nat.le_trans (z.alike al).nm hN
  obtain ⟨M, hMe⟩ : ∃ M, r.nm.length = M := ⟨_, rfl⟩
  have HMe := Lib.hid hMe
  rw [hMe] at hM
  obtain ⟨k1, hk1⟩ : ∃ k1, E.roots s.p = k1 := ⟨_, rfl⟩
  obtain ⟨k2, hk2⟩ : ∃ k2, s.es.length = k2 := ⟨_, rfl⟩
  have Hk1 := Lib.hid (show E.roots r.p = k1 from al.roots ▸ hk1)
  have Hk2s := Lib.hid hk2
  have Hk2 := Lib.hid (show r.es.length = k2 from al.count ▸ hk2)
  rw [hk1] at Hc1
  clear h al z hMe hk1 hk2
  go_enter Tryz.func16, Tryz.ntmps16
  go_wp2_with fail
  (with_reducible refine Hc1.out.mono ?_)
  rintro e w1 ⟨rfl, hb⟩
  have Hm1 := Lib.hid (H.out.below hb)
  have Hb1 := Lib.hid hb
  have Hc2 := Lib.hid (Hm1.out.classesR Zr.out hN)
  have Hc3 := Lib.hid Hm1.out.nodesG
  have Hc4 := Lib.hid Hm1.out.nodesR
  rw [Hk1.out] at Hc2
  rw [Hk2s.out] at Hc3
  rw [Hk2.out] at Hc4
  clear hb Hc1
  go_wp2_with fail
  (with_reducible refine Hc2.out.mono ?_)
  rintro e w2 ⟨rfl, hw2⟩
  subst hw2
  go_wp2_with fail
  (with_reducible refine Hc3.out.mono ?_)
  rintro e w2 ⟨rfl, hw2⟩
  subst hw2
  go_wp2_with fail
  (with_reducible refine Hc4.out.mono ?_)
  rintro e w2 ⟨rfl, hw2⟩
  subst hw2
  clear Hc2 Hc3 Hc4
  go_wp2_with fail
  go_loopg [5] (M + 3) (fun gg s5 wr => ∃ (q : Nat) (y : Int), q ≤ M + 2 ∧ s5 = .int .i64 y ∧ gg + q = M + 3 ∧ Hid (y = (q : Int) - 1) ∧ Hid (Below W.heap.size W wr))
  case atStart => exact ⟨0, _, Nat.zero_le _, rfl, rfl, Lib.hid (by omega), Hb1⟩
  case round =>
    obtain ⟨q, y, hq, rfl, hgk, Hy, Hb⟩ := hrel
    have Hgk := Lib.hid hgk
    clear hgk Hb1 Hm1
    have Hm := Lib.hid (H.out.below Hb.out)
    obtain ⟨An, cn, kn⟩ := Hm.out.names
    rw [HMe.out] at kn
    by_cases hqM : q ≤ M + 1
    · have hyM : y ≤ (M : Int) := by have := Hy.out; omega
      have hy1 : -1 ≤ y := by have := Hy.out; omega
      have Hwg := Lib.hid (Hm.out.widthG y)
      obtain ⟨u, v, huv⟩ := width_form s.p s.wd s.nm y
      have Huv := Lib.hid (show widthEnd r.p r.wd r.nm y = .returned (.tuple #[.int .i64 u, .int .i64 v]) from Al.out.width y ▸ huv)
      rw [huv] at Hwg
      clear huv
      go_wp2_with fail
      (with_reducible refine Hwg.out.mono ?_)
      rintro e w3 ⟨hb, rfl⟩
      have Hb3 := Lib.hid (Hb.out.trans (hb.mono Hb.out.size))
      have Hwr := Lib.hid ((H.out.below Hb3.out).widthR y)
      rw [Huv.out] at Hwr
      clear hb Hwg kn Hb Hm
      go_wp2_with fail
      (with_reducible refine Hwr.out.mono ?_)
      rintro e w4 ⟨hb, rfl⟩
      have Hb4 := Lib.hid (Hb3.out.trans (hb.mono Hb3.out.size))
      clear hb Hwr Hb3
      go_wp2_with fail
      obtain ⟨gO, rfl⟩ : ∃ g, g = gk := ⟨_, rfl⟩
      go_loopg [10] (M + 3 - q) (fun gg s10 wr => ∃ (p : Nat) (x : Int), q ≤ p ∧ p ≤ M + 2 ∧ s10 = .int .i64 x ∧ gg + p = M + 3 ∧ Hid (x = (p : Int) - 1) ∧ Hid (Below W.heap.size W wr))
      case atStart => exact ⟨q, _, Nat.le_refl _, hq, rfl, by omega, Hy, Hb4⟩
      case round =>
        obtain ⟨p, x, hqp, hp, rfl, hgp, Hx, Hb⟩ := hrel
        have Hgp := Lib.hid hgp
        clear hgp Hb4
        have Hm := Lib.hid (H.out.below Hb.out)
        obtain ⟨An, cn, kn⟩ := Hm.out.names
        rw [HMe.out] at kn
        by_cases hpM : p ≤ M + 1
        · have hxM : x ≤ (M : Int) := by have := Hx.out; omega
          have hx1 : -1 ≤ x := by have := Hx.out; omega
          have Hsg := Lib.hid (Hm.out.sameG y x)
          obtain ⟨u', v', huv⟩ := same_form s.p s.nm y x
          have Huv' := Lib.hid (show sameEnd r.p r.nm y x = .returned (.tuple #[.bool u', .int .i64 v']) from Al.out.same y x ▸ huv)
          rw [huv] at Hsg
          clear huv
          go_wp2_with fail
          (with_reducible refine Hsg.out.mono ?_)
          rintro e w5 ⟨hb, rfl⟩
          have Hb5 := Lib.hid (Hb.out.trans (hb.mono Hb.out.size))
          have Hsr := Lib.hid ((H.out.below Hb5.out).sameR y x)
          rw [Huv'.out] at Hsr
          clear hb Hsg kn Hb Hm
          go_wp2_with fail
          (with_reducible refine Hsr.out.mono ?_)
          rintro e w6 ⟨hw6, rfl⟩
          subst hw6
          clear Hsr
          have e9 : IntKind.i64.wrap (x + 1) = x + 1 := IntWalk.i64_in _ (by omega)
          go_wp2_with fail
          go_roundg (gk - 1)
          case measure => have := Hgp.out; omega
          case rel =>
            have := Hgp.out
            have := Hx.out
            exact ⟨p + 1, _, by omega, by omega, rfl, by omega, Lib.hid (by omega), Hb5⟩
        · have hxM : ¬ x ≤ (M : Int) := by have := Hx.out; omega
          have e9 : IntKind.i64.wrap (y + 1) = y + 1 := IntWalk.i64_in _ (by omega)
          go_wp2_with fail
          go_roundg (gO - 1)
          case measure => have := Hgk.out; omega
          case rel =>
            have := Hgk.out
            have := Hy.out
            exact ⟨q + 1, _, by omega, rfl, by omega, Lib.hid (by omega), Hb⟩
    · have hyM : ¬ y ≤ (M : Int) := by have := Hy.out; omega
      go_wp2
      go_ret
      exact ⟨rfl, Hb.out⟩

namespace E
def long (l : List Act) : Bool := (l.any fun x => T.long x.term || decide (60 < x.term.length)) || decide (24 < l.length)
end E
set_option maxRecDepth 100000 in
set_option maxHeartbeats 2000000 in
theorem actsLong_any (l : List Act) (m cm : Nat) (A : Option Addr) (W : World) (hA : StAt 4 ActR W A m l) :
    Calls Tryz.prog 8 #[.slice A m cm] W fun e w' => e = .returned (.bool (E.long l)) ∧ w' = W := by
  have HA := Lib.hid hA
  have hle := hA.le
  have Hln := Lib.hid hA.len
  obtain ⟨res, hr⟩ : ∃ res, res = E.long l := ⟨_, rfl⟩
  rw [← hr]
  have Hr := Lib.hid hr
  clear hA hr
  go_enter Tryz.func8, Tryz.ntmps8
  go_wp2_with fail
  go_loopg [3] (m + 1) (fun gg s3 wr => ∃ (j : Nat), j ≤ m ∧ s3 = .int .i64 (j : Int) ∧ gg + j = m + 1 ∧ wr = W ∧ Hid ((l.take j).any (fun x => T.long x.term || decide (60 < x.term.length)) = false))
  case atStart => exact ⟨0, Nat.zero_le _, rfl, rfl, rfl, Lib.hid rfl⟩
  case round =>
    obtain ⟨j, hj, rfl, hgk, hw, Hany⟩ := hrel
    subst hw
    have Hgk := Lib.hid hgk
    clear hgk
    by_cases hjm : j < m
    · obtain ⟨x, ba, offa, us, hx, hBa, hba, hul, hcs, hus⟩ := HA.out.at_ hjm
      have hBa' := hBa
      subst hBa'
      obtain ⟨At, ct, rfl, hst⟩ := hus
      have c1 := hcs 1 _ rfl
      have Hx := Lib.hid hx
      have Hlong := Lib.hid (Long_any x.term x.term.length ct At wr hst)
      have hst' := hst.le
      obtain ⟨nt, hnt⟩ : ∃ nt, x.term.length = nt := ⟨_, rfl⟩
      have Hnt := Lib.hid hnt
      rw [hnt] at c1 Hlong hst'
      obtain ⟨lg, hlg⟩ : ∃ lg, T.long x.term = lg := ⟨_, rfl⟩
      have Hlg := Lib.hid hlg
      rw [hlg] at Hlong
      clear hx hBa hul hcs hba hst hlg hnt
      cases lg with
      | true =>
        have Ht := Lib.hid (show res = true from by
          rw [Hr.out]; unfold E.long
          rw [any_true_at Hx.out (by rw [Hlg.out]; rfl)]; rfl)
        go_wp2_with fail
        (with_reducible refine Hlong.out.mono ?_)
        rintro e w3 ⟨rfl, rfl⟩
        go_wp2_with fail
        go_ret
        exact ⟨by rw [Ht.out]; rfl, rfl⟩
      | false =>
        by_cases h60 : 60 < nt
        · have Ht := Lib.hid (show res = true from by
            rw [Hr.out]; unfold E.long
            rw [any_true_at Hx.out (by rw [Hnt.out]; simp [h60])]; rfl)
          have q : (nt : Int) > 60 := by omega
          go_wp2_with fail
          (with_reducible refine Hlong.out.mono ?_)
          rintro e w3 ⟨rfl, rfl⟩
          go_wp2_with fail
          go_ret
          exact ⟨by rw [Ht.out]; rfl, rfl⟩
        · have Ht := Lib.hid (show (l.take (j + 1)).any (fun x => T.long x.term || decide (60 < x.term.length)) = false from any_take_step Hx.out Hany.out (by rw [Hnt.out, Hlg.out]; simpa using h60))
          have q : ¬ (nt : Int) > 60 := by omega
          go_wp2_with fail
          (with_reducible refine Hlong.out.mono ?_)
          rintro e w3 ⟨rfl, rfl⟩
          go_wp2_with fail
          go_roundg (gk - 1)
          case measure => have := Hgk.out; omega
          case rel =>
            have := Hgk.out
            exact ⟨j + 1, by omega, by go_num, by omega, rfl, Ht⟩
    · obtain rfl : j = m := by omega
      have Ht := Lib.hid (show res = decide (24 < j) from by
        have := Hany.out
        rw [List.take_of_length_le (by rw [Hln.out]; exact Nat.le_refl _)] at this
        rw [Hr.out]; unfold E.long
        rw [this, Hln.out]; rfl)
      by_cases h24 : 24 < j
      · have q : (j : Int) > 24 := by omega
        go_wp2
        go_ret
        exact ⟨by rw [Ht.out, decide_eq_true h24]; rfl, rfl⟩
      · have q : ¬ (j : Int) > 24 := by omega
        go_wp2
        go_ret
        exact ⟨by rw [Ht.out, decide_eq_false h24]; rfl, rfl⟩
end Go.Proofs.YtcmlmjbpdaecbaaGreat
end
section
namespace Go.Proofs.YtcmlmjbpdaecbaaGreat
open Go.RowKit Go.MapKept Go.Maps Go.WideMaps
set_option linter.unusedVariables false
set_option linter.unusedSimpArgs false

namespace E
/-- what play makes of both graphs -/
inductive Made : Gr → Gr → Prop where
  | new : Made Gr.new Gr.new
  | add {s r s' r' : Gr} {t : List T.Nd} {no er no' er' : Int} (h : Made s r) (hi : ∀ x ∈ t, 0 ≤ x.imm ∧ x.imm < 4294967296) (a : AddR s t s' no er) (b : RAddR r t r' no' er') (ok1 : s'.Ok) (ok2 : r'.Ok) : Made s' r'
  | uni {s r : Gr} {x y er er' : Int} {p1 q1 : List Nat} {es1 fs1 : List (Opn × Nat)} (h : Made s r) (u : UniR s.p s.wd s.es s.nm x y er p1 es1) (v : RUniR r.p r.wd r.es r.nm x y er' q1 fs1) (ok1 : Ok p1 s.wd es1 s.nm) (ok2 : Ok q1 r.wd fs1 r.nm) : Made { s with p := p1, es := es1 } { r with p := q1, es := fs1 }
theorem Made.two {s r : Gr} (h : Made s r) : Two s r := by
  induction h with
  | new => exact Two.new
  | add h hi a b ok1 ok2 ih => exact (ih.add hi a b ok1 ok2).2.2
  | uni h u v ok1 ok2 ih => exact (ih.uni u v ok1 ok2).2
end E

set_option maxRecDepth 100000 in
set_option maxHeartbeats 4000000 in
theorem play_any (l : List Act) (m cm : Nat) (A : Option Addr) (W : World) (hA : StAt 4 ActR W A m l) (hl : m ≤ 24) :
    Calls Tryz.prog 10 #[.slice A m cm] W fun e w' => ∃ s r bg br, e = .returned (.tuple #[.pointer (some ⟨bg, 0, none⟩), .pointer (some ⟨br, 0, none⟩), .bool true]) ∧ E.Made s r ∧ BM W s r bg br (fun _ => False) w' ∧ Sz s 7200 := by
  have HA := Lib.hid hA
  have hle := hA.le
  have Hn1 := Lib.hid (gp_new W)
  clear hA
  go_enter Tryz.func10, Tryz.ntmps10
  go_wp2_with fail
  (with_reducible refine Hn1.out.mono ?_)
  rintro e w1 ⟨bg, M, rfl, hx⟩
  have Hn2 := Lib.hid hx.refNew
  clear hx Hn1
  go_wp2_with fail
  (with_reducible refine Hn2.out.mono ?_)
  rintro e w2 ⟨br, rfl, hm⟩
  have Hm0 := Lib.hid hm
  clear hm Hn2
  go_wp2_with fail
  go_loopg [7] (m + 1) (fun gg s7 wr => ∃ (j : Nat) (s r : E.Gr), j ≤ m ∧ s7 = .int .i64 (j : Int) ∧ gg + j = m + 1 ∧ Hid (E.Made s r) ∧ Hid (BM W s r bg br (fun _ => False) wr) ∧ Hid (Sz s (300 * j)))
  case atStart => exact ⟨0, E.Gr.new, E.Gr.new, Nat.zero_le _, rfl, rfl, Lib.hid .new, Hm0, Lib.hid ⟨Nat.zero_le _, Nat.zero_le _, Nat.zero_le _⟩⟩
  case round =>
    obtain ⟨j, s, r, hj, rfl, hgk, Hmd, Hm, Hz⟩ := hrel
    have Hgk := Lib.hid hgk
    clear hgk Hm0
    have Ht := Lib.hid Hmd.out.two
    have HzR := Lib.hid (Hz.out.alike Ht.out.al)
    have hN : 300 * j ≤ 800000 := by omega
    by_cases hjm : j < m
    · obtain ⟨x, ba, offa, us, hx, hBa, hba, hul, hcs0, hus⟩ := HA.out.at_ hjm
      have hcs := fun j u hu => (Hm.out.bel.cell (p := ⟨ba, offa + _ * 4 + j, none⟩) hba).trans (hcs0 j u hu)
      have hBa' := hBa
      subst hBa'
      obtain ⟨kd, tm, xa, xb⟩ := x
      obtain ⟨At, ct, rfl, hst⟩ := hus
      dsimp only at hst hcs
      clear hcs0
      have hst0 := hst
      have c0 := hcs 0 _ rfl
      have c1 := hcs 1 _ rfl
      have c2 := hcs 2 _ rfl
      have c3 := hcs 3 _ rfl
      rw [Nat.add_zero] at c0
      obtain ⟨nt, hnt⟩ : ∃ nt, tm.length = nt := ⟨_, rfl⟩
      rw [hnt] at c1
      have Hnt := Lib.hid hnt
      clear hx hBa hul hcs hba hst hnt
      have Hst0 := Lib.hid hst0
      clear hst0
      go_upto_region 8 with (fail)
      have hrow := heap_alloc_new wr (.cells #[.int .i64 kd, .slice At nt ct, .int .i64 xa, .int .i64 xb] 72)
      have Hp := Lib.hid (Hm.out.protect (.cells #[.int .i64 kd, .slice At nt ct, .int .i64 xa, .int .i64 xb] 72))
      obtain ⟨wx, hwx⟩ : ∃ wx, wr.alloc (.cells #[.int .i64 kd, .slice At nt ct, .int .i64 xa, .int .i64 xb] 72) = wx := ⟨_, rfl⟩
      obtain ⟨bx, hbx⟩ : ∃ bx, wr.heap.size = bx := ⟨_, rfl⟩
      rw [hwx] at hrow Hp ⊢
      rw [hbx] at hrow Hp ⊢
      have k0 : wx.cell? ⟨bx, 0, none⟩ = some (.int .i64 kd) := by rw [cell_of_row _ _ _ _ _ (0, 0) hrow]; rfl
      have k1 : wx.cell? ⟨bx, 1, none⟩ = some (.slice At nt ct) := by rw [cell_of_row _ _ _ _ _ (0, 0) hrow]; rfl
      have k2 : wx.cell? ⟨bx, 2, none⟩ = some (.int .i64 xa) := by rw [cell_of_row _ _ _ _ _ (0, 0) hrow]; rfl
      have k3 : wx.cell? ⟨bx, 3, none⟩ = some (.int .i64 xb) := by rw [cell_of_row _ _ _ _ _ (0, 0) hrow]; rfl
      have Hbw := Lib.hid Hp.out.bel
      clear hwx hrow hbx c0 c1 c2 c3
      by_cases hkd : kd = 0
      · subst hkd
        have Hadd := Lib.hid (Hp.out.addG (ct := ct) Hz.out hN (show StAt 5 NdR wx At nt tm from by have := Hst0.out.below monoNd Hbw.out; rwa [Hnt.out] at this))
        go_wp2_with fail
        (with_reducible refine Hadd.out.mono ?_)
        rintro e w5 ⟨s', no, er, rfl, ha, hm5, hz5, hs5⟩
        have Hm5 := Lib.hid hm5
        have Ha := Lib.hid ha
        have Hz5 := Lib.hid hz5
        have j1 := hs5.cell rfl k1
        have Hadr := Lib.hid (hm5.addR (ct := ct) HzR.out hN (show StAt 5 NdR w5 At nt tm from by have := Hst0.out.below monoNd hm5.bel; rwa [Hnt.out] at this))
        clear k0 k1 k2 k3 hm5 ha hz5 hs5 Hadd
        go_wp2_with fail
        (with_reducible refine Hadr.out.mono ?_)
        rintro e w6 ⟨r', no', er', rfl, hb, hm6, hs6⟩
        obtain ⟨rfl, rfl, ht6⟩ := Ht.out.add (nd_imm2 Hst0.out) Ha.out hb Hm5.out.ok1 hm6.ok2
        have Hm6 := Lib.hid hm6.forget
        have Hmd6 := Lib.hid (E.Made.add Hmd.out (nd_imm2 Hst0.out) Ha.out hb hm6.ok1 hm6.ok2)
        clear hb hm6 hs6 ht6 j1 Hadr
        go_wp2_with fail
        go_roundg (gk - 1)
        case measure => have := Hgk.out; omega
        case rel =>
          have := Hgk.out
          exact ⟨j + 1, s', r', by omega, by go_num, by omega, Hmd6, Hm6, Lib.hid (Hz5.out.mono (by omega))⟩
      · have q : (kd != 0) = true := by simpa using hkd
        clear hkd
        have Hug := Lib.hid ((Hp.out.below (w' := wx.drew) ((Below.refl _ _).drew)).uniG Hz.out hN xa xb)
        go_upto_region 9 with (fail)
        clear k0 k1
        have HS0 := Lib.hid (show (fun Y : World => Y.cell? ⟨bx, 2, none⟩ = some (.int .i64 xa) ∧ Y.cell? ⟨bx, 3, none⟩ = some (.int .i64 xb)) wx.drew from ⟨k2, k3⟩)
        clear k2 k3
        refine wp_region_held_drew (S := fun Y : World => Y.cell? ⟨bx, 2, none⟩ = some (.int .i64 xa) ∧ Y.cell? ⟨bx, 3, none⟩ = some (.int .i64 xb)) (by kernel_rfl) (HS0.out) (fun hHeld => ?_)
        refine wpAnyH_take (i := 0) (oi := _) (v := ?_) rfl (by kernel_rfl) (by kernel_rfl) (by kernel_rfl) (fun _ _ _ h => h) (Or.inl ⟨by rfl, fun Y hY => ?_⟩) hHeld ?_
        rotate_left
        · (go_simp) <;> with_reducible rfl
        try simp only [Act.put, List.setIfInBounds_toArray, List.set_cons_zero, List.set_cons_succ, List.getElem_toArray, List.getElem_cons_succ, List.getElem_cons_zero]
        refine wpAnyH_take (i := 1) (oi := _) (v := ?_) rfl (by kernel_rfl) (by kernel_rfl) (by kernel_rfl) (fun _ _ _ h => h) (Or.inl ⟨by rfl, fun Y hY => ?_⟩) hHeld ?_
        rotate_left
        · (go_simp) <;> with_reducible rfl
        try simp only [Act.put, List.setIfInBounds_toArray, List.set_cons_zero, List.set_cons_succ, List.getElem_toArray, List.getElem_cons_succ, List.getElem_cons_zero]
        refine wpAnyH_take (i := 2) (oi := _) (v := ?_) rfl (by kernel_rfl) (by kernel_rfl) (by kernel_rfl) (fun _ _ _ h => h) (Or.inl ⟨by rfl, fun Y hY => ?_⟩) hHeld ?_
        rotate_left
        · obtain ⟨y0, y1⟩ := hY
          (go_simp) <;> with_reducible rfl
        try simp only [Act.put, List.setIfInBounds_toArray, List.set_cons_zero, List.set_cons_succ, List.getElem_toArray, List.getElem_cons_succ, List.getElem_cons_zero]
        refine wpAnyH_take (i := 3) (oi := _) (v := ?_) rfl (by kernel_rfl) (by kernel_rfl) (by kernel_rfl) (fun _ _ _ h => h) (Or.inl ⟨by rfl, fun Y hY => ?_⟩) hHeld ?_
        rotate_left
        · (go_simp) <;> with_reducible rfl
        try simp only [Act.put, List.setIfInBounds_toArray, List.set_cons_zero, List.set_cons_succ, List.getElem_toArray, List.getElem_cons_succ, List.getElem_cons_zero]
        refine wpAnyH_take (i := 4) (oi := _) (v := ?_) rfl (by kernel_rfl) (by kernel_rfl) (by kernel_rfl) (fun _ _ _ h => h) (Or.inl ⟨by rfl, fun Y hY => ?_⟩) hHeld ?_
        rotate_left
        · obtain ⟨y0, y1⟩ := hY
          (go_simp) <;> with_reducible rfl
        try simp only [Act.put, List.setIfInBounds_toArray, List.set_cons_zero, List.set_cons_succ, List.getElem_toArray, List.getElem_cons_succ, List.getElem_cons_zero]
        refine wpAnyH_take (i := 6) (oi := _) (v := ?_) rfl (by kernel_rfl) (by kernel_rfl) (by kernel_rfl) (fun _ _ _ h => h) (Or.inl ⟨by rfl, fun Y hY => ?_⟩) hHeld ?_
        rotate_left
        · (go_simp) <;> with_reducible rfl
        try simp only [Act.put, List.setIfInBounds_toArray, List.set_cons_zero, List.set_cons_succ, List.getElem_toArray, List.getElem_cons_succ, List.getElem_cons_zero]
        refine wpAnyH_take (i := 7) (oi := _) (v := ?_) rfl (by kernel_rfl) (by kernel_rfl) (by kernel_rfl) (fun _ _ _ h => h) (Or.inl ⟨by rfl, fun Y hY => ?_⟩) hHeld ?_
        rotate_left
        · (go_simp) <;> with_reducible rfl
        try simp only [Act.put, List.setIfInBounds_toArray, List.set_cons_zero, List.set_cons_succ, List.getElem_toArray, List.getElem_cons_succ, List.getElem_cons_zero]
        refine wpAnyH_take (i := 8) (oi := _) (v := ?_) rfl (by kernel_rfl) (by kernel_rfl) (by kernel_rfl) (fun _ _ _ h => h) (Or.inl ⟨by rfl, fun Y hY => ?_⟩) hHeld ?_
        rotate_left
        · obtain ⟨y0, y1⟩ := hY
          (go_simp) <;> with_reducible rfl
        try simp only [Act.put, List.setIfInBounds_toArray, List.set_cons_zero, List.set_cons_succ, List.getElem_toArray, List.getElem_cons_succ, List.getElem_cons_zero]
        refine wpAnyH_take (i := 9) (oi := _) (v := ?_) rfl (by kernel_rfl) (by kernel_rfl) (by kernel_rfl) (fun _ _ _ h => h) (Or.inl ⟨by rfl, fun Y hY => ?_⟩) hHeld ?_
        rotate_left
        · (go_simp) <;> with_reducible rfl
        try simp only [Act.put, List.setIfInBounds_toArray, List.set_cons_zero, List.set_cons_succ, List.getElem_toArray, List.getElem_cons_succ, List.getElem_cons_zero]
        refine wpAnyH_take (i := 10) (oi := _) (v := ?_) rfl (by kernel_rfl) (by kernel_rfl) (by kernel_rfl) (fun _ _ _ h => h) (Or.inl ⟨by rfl, fun Y hY => ?_⟩) hHeld ?_
        rotate_left
        · obtain ⟨y0, y1⟩ := hY
          (go_simp) <;> with_reducible rfl
        try simp only [Act.put, List.setIfInBounds_toArray, List.set_cons_zero, List.set_cons_succ, List.getElem_toArray, List.getElem_cons_succ, List.getElem_cons_zero]
        refine wpAnyH_ready (rs := [5]) (by kernel_rfl) (by simp) ?_
        refine AllReadyH.cons (o := _) rfl (fun KK hKK => ?_) AllReadyH.nil
        clear hHeld
        go_simp
        (with_reducible refine Hug.out.mono ?_)
        rintro e w5 ⟨er, p1, es1, rfl, hu, hm5, hz5, hs5⟩
        have Hm5 := Lib.hid hm5
        have Hu5 := Lib.hid hu
        have Hz5 := Lib.hid hz5
        have HS5 := Lib.hid (show (fun Y : World => Y.cell? ⟨bx, 2, none⟩ = some (.int .i64 xa) ∧ Y.cell? ⟨bx, 3, none⟩ = some (.int .i64 xb)) w5 from ⟨hs5.cell rfl HS0.out.1, hs5.cell rfl HS0.out.2⟩)
        have Hur := Lib.hid (hm5.uniR HzR.out hN xa xb)
        clear hu hm5 hz5 hs5
        refine hKK.out _ _ (HS5.out) (fun hHeld => ?_)
        clear hKK KK
        try simp only [Act.put, List.setIfInBounds_toArray, List.set_cons_zero, List.set_cons_succ, List.getElem_toArray, List.getElem_cons_succ, List.getElem_cons_zero]
        refine wpAnyH_ready (rs := [11]) (by kernel_rfl) (by simp) ?_
        refine AllReadyH.cons (o := _) rfl (fun KK hKK => ?_) AllReadyH.nil
        clear hHeld
        go_simp
        (with_reducible refine Hur.out.mono ?_)
        rintro e w6 ⟨er', q1, fs1, rfl, hv, hm6, hs6⟩
        obtain ⟨rfl, ht6⟩ := Ht.out.uni Hu5.out hv Hm5.out.ok1 hm6.ok2
        have Hm6 := Lib.hid hm6.forget
        have Hmd6 := Lib.hid (E.Made.uni Hmd.out Hu5.out hv Hm5.out.ok1 hm6.ok2)
        have HS6 := Lib.hid (show (fun Y : World => Y.cell? ⟨bx, 2, none⟩ = some (.int .i64 xa) ∧ Y.cell? ⟨bx, 3, none⟩ = some (.int .i64 xb)) w6 from ⟨hs6.cell rfl HS5.out.1, hs6.cell rfl HS5.out.2⟩)
        clear hv hm6 hs6 ht6
        refine hKK.out _ _ (HS6.out) (fun hHeld => ?_)
        clear hKK KK
        try simp only [Act.put, List.setIfInBounds_toArray, List.set_cons_zero, List.set_cons_succ, List.getElem_toArray, List.getElem_cons_succ, List.getElem_cons_zero]
        refine wpAnyH_take (i := 12) (oi := _) (v := ?_) rfl (by kernel_rfl) (by kernel_rfl) (by kernel_rfl) (fun _ _ _ h => h) (Or.inl ⟨by rfl, fun Y hY => ?_⟩) hHeld ?_
        rotate_left
        · (go_simp) <;> with_reducible rfl
        try simp only [Act.put, List.setIfInBounds_toArray, List.set_cons_zero, List.set_cons_succ, List.getElem_toArray, List.getElem_cons_succ, List.getElem_cons_zero]
        refine wpAnyH_done (by kernel_rfl) ?_ _
        go_wp2_with fail
        go_roundg (gk - 1)
        case measure => have := Hgk.out; omega
        case rel =>
          have := Hgk.out
          exact ⟨j + 1, _, _, by omega, by go_num, by omega, Hmd6, Hm6, Lib.hid (Hz5.out.mono (by omega))⟩
    · obtain rfl : j = m := by omega
      have Hal := Lib.hid (alike_any Hm.out Ht.out.al Hz.out hN)
      go_wp2_with fail
      (with_reducible refine Hal.out.mono ?_)
      rintro e w3 ⟨rfl, hb⟩
      have Hm3 := Lib.hid (Hm.out.below hb)
      clear hb Hal
      go_wp2
      refine bodyPost_ret (results_tmp3 rfl _ _ _) rfl ?_
      exact ⟨s, r, bg, br, rfl, Hmd.out, Hm3.out, Hz.out.mono (by omega)⟩
end Go.Proofs.YtcmlmjbpdaecbaaGreat
end
