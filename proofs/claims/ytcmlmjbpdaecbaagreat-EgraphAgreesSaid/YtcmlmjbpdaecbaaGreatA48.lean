/- EgraphAgrees: the law. -/
import Derived.Test.YtcmlmjbpdaecbaaGreatA47
set_option linter.unusedVariables false
set_option linter.unusedSimpArgs false
namespace Go.Proofs.YtcmlmjbpdaecbaaGreat
open Go.RowKit Go.MapKept Go.Maps Go.WideMaps
set_option linter.unusedVariables false
set_option linter.unusedSimpArgs false

theorem Gx.agrees {W w : World} {s r : E.Gr} {b N n ce : Nat} {M : Nat → Prop} {Ae : Option Addr} {env : List Int} (h : Gx W s b M w) (hm : E.Made s r) (z : Sz s N) (hN : N ≤ 800000) (hE : SlAt (IntR .u32) w Ae n env) (hew : ∀ x ∈ env, 0 ≤ x ∧ x < 4294967296) :
    Calls Tryz.prog 11 #[.pointer (some ⟨b, 0, none⟩), .slice Ae n ce] w (AgPost w s env) := by
  obtain ⟨v1, v2, v3, v4, kb, h1, rfl⟩ := h
  have ht := hm.typ
  have h2 := hm.two
  have hwl := h2.s.ok.wd
  have hp := z.p
  have he := z.es
  exact gAgrees_any h1.gr (by omega) (by omega) ht.2.vw ht.1.cl hwl (fun he => (h2.ag ht.1 ht.2 he).1) hE hew
theorem Rx.agrees {W w : World} {s r : E.Gr} {b N n ce : Nat} {M : Nat → Prop} {Ae : Option Addr} {env : List Int} (h : Rx W r b M w) (hm : E.Made s r) (z : Sz r N) (hN : N ≤ 800000) (hE : SlAt (IntR .u32) w Ae n env) (hew : ∀ x ∈ env, 0 ≤ x ∧ x < 4294967296) :
    Calls Tryz.prog 12 #[.pointer (some ⟨b, 0, none⟩), .slice Ae n ce] w (AgPost w r env) := by
  obtain ⟨v1, v2, v4, kb, h1, rfl⟩ := h
  have ht := hm.typ
  have h2 := hm.two
  have hwl := h2.r.ok.wd
  have hp := z.p
  exact rAgrees_any h1.gr (by omega) (fun i hi => by rw [← h2.al.vr]; exact ht.2.vw i hi) hwl (fun he => (h2.ag ht.1 ht.2 (by rw [h2.al.vr]; exact he)).2) h1.owf hE hew

set_option maxRecDepth 100000 in
set_option maxHeartbeats 8000000 in
theorem egraphAgrees_any (l : List Act) (env : List Int) (m cm n cn : Nat) (A B : Option Addr) (W : World) (hA : StAt 4 ActR W A m l) (hB : SlAt (IntR .u32) W B n env) (hew : ∀ x ∈ env, 0 ≤ x ∧ x < 4294967296) :
    Calls Tryz.prog 3 #[.slice A m cm, .slice B n cn] W fun e W' => e = .returned (.bool true) ∧ Below W.heap.size W W' := by
  have Hlong := Lib.hid (actsLong_any l m cm A W hA)
  have Hkn := Lib.hid known_any
  have hle := hB.le
  have HB := Lib.hid hB
  have Hew := Lib.hid hew
  obtain ⟨lg, hlg⟩ : ∃ lg, E.long l = lg := ⟨_, rfl⟩
  rw [hlg] at Hlong
  cases lg with
  | true =>
    clear hlg hA hB hew
    go_enter Tryz.func3, Tryz.ntmps3
    go_wp2_with fail
    (with_reducible refine Hlong.out.mono ?_)
    rintro e w1 ⟨rfl, rfl⟩
    go_wp2_with fail
    (with_reducible refine (Hkn.out _).mono ?_)
    rintro e w2 ⟨rfl, hb⟩
    have Hb := Lib.hid hb
    clear hb
    go_wp2
    go_ret
    exact ⟨rfl, Hb.out⟩
  | false =>
  by_cases h50 : 50 < n
  · have q : (n : Int) > 50 := by omega
    clear hlg hA hB hew
    go_enter Tryz.func3, Tryz.ntmps3
    go_wp2_with fail
    (with_reducible refine Hlong.out.mono ?_)
    rintro e w1 ⟨rfl, rfl⟩
    go_wp2_with fail
    (with_reducible refine (Hkn.out _).mono ?_)
    rintro e w2 ⟨rfl, hb⟩
    have Hb := Lib.hid hb
    clear hb
    go_wp2
    go_ret
    exact ⟨rfl, Hb.out⟩
  have q : ¬ (n : Int) > 50 := by omega
  have hl : m ≤ 24 := by
    rw [← hA.len]
    unfold E.long at hlg
    simp only [Bool.or_eq_false_iff, decide_eq_false_iff_not] at hlg
    omega
  have Hpl := Lib.hid (play_any l m cm A W hA hl)
  clear hlg hA hB hew
  go_enter Tryz.func3, Tryz.ntmps3
  go_wp2_with fail
  (with_reducible refine Hlong.out.mono ?_)
  rintro e w1 ⟨rfl, rfl⟩
  go_wp2_with fail
  (with_reducible refine Hpl.out.mono ?_)
  rintro e w2 ⟨s, r, bg, br, rfl, hmd, ⟨Mg, Mr, hg, hr, hd, _⟩, hz⟩
  have Hmd := Lib.hid hmd
  have Hr := Lib.hid hr
  have Hzr := Lib.hid (hz.alike hmd.two.al)
  have Hga := Lib.hid (hg.agrees (ce := cn) hmd hz (by decide) (HB.out.below (monoInt _) hg.bel) Hew.out)
  clear hmd hg hr hd hz Hpl Hlong
  go_wp2_with fail
  (with_reducible refine Hga.out.mono ?_)
  rintro e w3 ⟨hb, is, er, rfl, hag⟩
  have Hag := Lib.hid hag
  have Hr3 := Lib.hid (Hr.out.below hb)
  have Hra := Lib.hid (Hr3.out.agrees (ce := cn) Hmd.out Hzr.out (by decide) (HB.out.below (monoInt _) Hr3.out.bel) Hew.out)
  clear hb hag Hga
  go_wp2_with fail
  (with_reducible refine Hra.out.mono ?_)
  rintro e w4 ⟨hb, is', er', rfl, hag'⟩
  obtain ⟨rfl, rfl⟩ := Hag.out.same Hmd.out.two.al hag'
  have Hb4 := Lib.hid (Hr3.out.bel.trans (hb.mono Hr3.out.bel.size))
  clear hb hag' Hra
  go_wp2_with fail
  (with_reducible refine (Hkn.out _).mono ?_)
  rintro e w5 ⟨rfl, hb⟩
  have Hb5 := Lib.hid (Hb4.out.trans (hb.mono Hb4.out.size))
  clear hb
  go_wp2
  go_ret
  exact ⟨rfl, Hb5.out⟩
end Go.Proofs.YtcmlmjbpdaecbaaGreat
