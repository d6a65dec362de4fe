/- Merged: CP1, CP2. -/
import Derived.Test.YtcmlmjbpdaecbaaGreatC47
set_option linter.unusedVariables false
set_option linter.unusedSimpArgs false
section
namespace Go.Proofs.YtcmlmjbpdaecbaaGreat
open Go.RowKit Go.MapKept Go.Maps Go.WideMaps
set_option linter.unusedVariables false
set_option linter.unusedSimpArgs false
set_option maxRecDepth 100000
set_option maxHeartbeats 1000000

theorem nNamed_any (v : Value) (W : World) : Calls Tryz.prog 58 #[.pointer none, v] W fun e w' => e = .returned (.tuple #[.slice none 0 0, .int .i64 9]) ∧ w' = W := by
  go_enter Tryz.func58, Tryz.ntmps58
  go_wp2
  refine bodyPost_ret (results_tmp2 rfl _ _ _) rfl ?_
  exact ⟨rfl, rfl⟩
theorem nAdd_any (v : Value) (W : World) : Calls Tryz.prog 23 #[.pointer none, v] W fun e w' => e = .returned (.tuple #[.int .i64 0, .int .i64 9]) ∧ w' = W := by
  go_enter Tryz.func23, Tryz.ntmps23
  go_wp2
  refine bodyPost_ret (results_tmp2 rfl _ _ _) rfl ?_
  exact ⟨rfl, rfl⟩
theorem nSaturate_any (v : Value) (x : Int) (W : World) : Calls Tryz.prog 14 #[.pointer none, v, .int .i64 x] W fun e w' => e = .returned (.tuple #[.bool false, .int .i64 9]) ∧ w' = W := by
  go_enter Tryz.func14, Tryz.ntmps14
  go_wp2
  refine bodyPost_ret (results_tmp2 rfl _ _ _) rfl ?_
  exact ⟨rfl, rfl⟩
theorem nClasses_any (W : World) : Calls Tryz.prog 21 #[.pointer none] W fun e w' => e = .returned (.int .i64 0) ∧ w' = W := by
  go_enter Tryz.func21, Tryz.ntmps21
  go_wp2
  go_ret
  exact ⟨rfl, rfl⟩
theorem nNodes_any (W : World) : Calls Tryz.prog 22 #[.pointer none] W fun e w' => e = .returned (.int .i64 0) ∧ w' = W := by
  go_enter Tryz.func22, Tryz.ntmps22
  go_wp2
  go_ret
  exact ⟨rfl, rfl⟩
theorem nCopy_any (W : World) : Calls Tryz.prog 26 #[.pointer none] W fun e w' => e = .returned (.pointer none) ∧ w' = W := by
  go_enter Tryz.func26, Tryz.ntmps26
  go_wp2
  go_ret
  exact ⟨rfl, rfl⟩
theorem nSame_any (x y : Int) (W : World) : Calls Tryz.prog 24 #[.pointer none, .int .i64 x, .int .i64 y] W fun e w' => e = .returned (.tuple #[.bool false, .int .i64 9]) ∧ Below W.heap.size W w' := by
  have Hn := Lib.hid nNamed_any
  have Hb := Lib.hid (show Below W.heap.size W (W.alloc (.cells #[.int .i64 x, .int .i64 y] 3)) from (Below.refl _ _).alloc (Nat.le_refl _) _)
  go_enter Tryz.func24, Tryz.ntmps24
  go_wp2_with fail
  (with_reducible refine (Hn.out _ _).mono ?_)
  rintro e w ⟨rfl, rfl⟩
  go_wp2
  refine bodyPost_ret (results_tmp2 rfl _ _ _) rfl ?_
  exact ⟨rfl, Hb.out⟩
theorem nUnion_any (x y : Int) (W : World) : Calls Tryz.prog 29 #[.pointer none, .int .i64 x, .int .i64 y] W fun e w' => e = .returned (.int .i64 9) ∧ Below W.heap.size W w' := by
  have Hn := Lib.hid nNamed_any
  have Hb := Lib.hid (show Below W.heap.size W (W.alloc (.cells #[.int .i64 x, .int .i64 y] 3)) from (Below.refl _ _).alloc (Nat.le_refl _) _)
  go_enter Tryz.func29, Tryz.ntmps29
  go_wp2_with fail
  (with_reducible refine (Hn.out _ _).mono ?_)
  rintro e w ⟨rfl, rfl⟩
  go_wp2
  go_ret
  exact ⟨rfl, Hb.out⟩
theorem nExtract_any (x : Int) (W : World) : Calls Tryz.prog 17 #[.pointer none, .int .i64 x] W fun e w' => e = .returned (.tuple #[.slice none 0 0, .int .i64 0, .int .i64 9]) ∧ Below W.heap.size W w' := by
  have Hn := Lib.hid nNamed_any
  have Hb := Lib.hid (show Below W.heap.size W (W.alloc (.cells #[.int .i64 x] 3)) from (Below.refl _ _).alloc (Nat.le_refl _) _)
  go_enter Tryz.func17, Tryz.ntmps17
  go_wp2_with fail
  (with_reducible refine (Hn.out _ _).mono ?_)
  rintro e w ⟨rfl, rfl⟩
  go_wp2
  refine bodyPost_ret (results_tmp3 rfl _ _ _) rfl ?_
  exact ⟨rfl, Hb.out⟩

/-- a copy, in new memory -/
theorem gCopy_any {W : World} {s : E.Gr} {b N : Nat} {M : Nat → Prop} {w : World} (h : Gx W s b M w) (z : Sz s N) (hN : N ≤ 800000) : Calls Tryz.prog 26 #[.pointer (some ⟨b, 0, none⟩)] w fun e w' => ∃ c Mc, e = .returned (.pointer (some ⟨c, 0, none⟩)) ∧ Gx W s c Mc w' ∧ Below w.heap.size w w' ∧ ∀ i, Mc i → w.heap.size ≤ i := by
  obtain ⟨v1, v2, v3, v4, kb, h1, rfl⟩ := h
  have hok := h1.ok
  have hp := z.p
  have he := z.es
  have hm := z.nm
  have Hc := Lib.hid (gcopied_any h1.gr h1.owf (by omega) (by have := hok.wd; omega) (by omega) (by omega))
  have H1 := Lib.hid h1
  clear h1 hok hp he hm z
  go_enter Tryz.func26, Tryz.ntmps26
  go_wp2_with fail
  (with_reducible refine Hc.out.mono ?_)
  rintro e w' ⟨gb, u1, u2, u3, u4, km, rfl, hn⟩
  have Hnn := Lib.hid hn
  clear hn
  go_wp2
  go_ret
  exact ⟨gb, _, rfl, ⟨u1, u2, u3, u4, km, ⟨Hnn.out.gr, H1.out.ok, H1.out.owf, H1.out.bel.trans (Hnn.out.bel.mono H1.out.bel.size), fun i hi => Nat.le_trans H1.out.bel.size (Hnn.out.new i hi)⟩, rfl⟩, Hnn.out.bel, Hnn.out.new⟩
/-- .. of the reference -/
theorem rCopyX_any {W : World} {s : E.Gr} {b N : Nat} {M : Nat → Prop} {w : World} (h : Rx W s b M w) (z : Sz s N) (hN : N ≤ 800000) : Calls Tryz.prog 28 #[.pointer (some ⟨b, 0, none⟩)] w fun e w' => ∃ c Mc es0, e = .returned (.pointer (some ⟨c, 0, none⟩)) ∧ Rx W { s with es := es0 } c Mc w' ∧ Below w.heap.size w w' ∧ (∀ i, Mc i → w.heap.size ≤ i) ∧ (es0.map Prod.fst).Nodup ∧ ∀ x, x ∈ es0 ↔ x ∈ s.es := by
  obtain ⟨v1, v2, v4, kb, h1, rfl⟩ := h
  have hok := h1.ok
  have hp := z.p
  have hm := z.nm
  refine (rCopy_any h1.gr h1.owf (by omega) (by have := hok.wd; omega) (by omega)).mono ?_
  rintro e w' ⟨gb, u1, u2, u4, km, kn', rfl, hn, hnd, hs⟩
  exact ⟨gb, _, kn', rfl, ⟨u1, u2, u4, km, ⟨hn.gr, ⟨hok.down, hok.wd, fun e he => hok.inn e ((hs e).1 he), fun e he => hok.ar e ((hs e).1 he), hok.nm⟩, fun e he => h1.owf e ((hs e).1 he), h1.bel.trans (hn.bel.mono h1.bel.size), fun i hi => Nat.le_trans h1.bel.size (hn.new i hi)⟩, rfl⟩, hn.bel, hn.new, hnd, hs⟩
theorem E.Two.of_set {s r : E.Gr} (h : E.Two s r) {es0 : List (E.Opn × Nat)} (hn : (es0.map Prod.fst).Nodup) (he : ∀ x, x ∈ es0 ↔ x ∈ r.es) : E.Two s { r with es := es0 } :=
  ⟨h.al.of_set hn he, h.s, ⟨⟨h.r.ok.down, h.r.ok.wd, fun e h' => h.r.ok.inn e ((he e).1 h'), fun e h' => h.r.ok.ar e ((he e).1 h'), h.r.ok.nm⟩, fun e h' => h.r.keys e ((he e).1 h'), h.r.vr⟩⟩
end Go.Proofs.YtcmlmjbpdaecbaaGreat
end
section
namespace Go.Proofs.YtcmlmjbpdaecbaaGreat
open Go.RowKit Go.MapKept Go.Maps Go.WideMaps
set_option linter.unusedVariables false
set_option linter.unusedSimpArgs false

set_option maxRecDepth 100000 in
set_option maxHeartbeats 8000000 in
theorem egraphCopies_any (l : List Act) (t : List T.Nd) (m cm n cn : Nat) (A B : Option Addr) (W : World) (hA : StAt 4 ActR W A m l) (hB : StAt 5 NdR W B n t) :
    Calls Tryz.prog 6 #[.slice A m cm, .slice B n cn] W fun e W' => e = .returned (.bool true) ∧ Below W.heap.size W W' := by
  have Hlong := Lib.hid (actsLong_any l m cm A W hA)
  have Hlt := Lib.hid (Long_any t n cn B W hB)
  have Hkn := Lib.hid known_any
  have hle := hB.le
  have HB := Lib.hid hB
  obtain ⟨lg, hlg⟩ : ∃ lg, E.long l = lg := ⟨_, rfl⟩
  obtain ⟨lt, hlt⟩ : ∃ lt, T.long t = lt := ⟨_, rfl⟩
  rw [hlg] at Hlong
  rw [hlt] at Hlt
  cases lg with
  | true =>
    clear hlg hA hlt hB
    go_enter Tryz.func6, Tryz.ntmps6
    go_wp2_with fail
    (with_reducible refine Hlong.out.mono ?_)
    rintro e w1 ⟨rfl, rfl⟩
    go_wp2_with fail
    (with_reducible refine (Hkn.out _).mono ?_)
    rintro e w2 ⟨rfl, hb⟩
    have Hb := Lib.hid hb
    clear hb
    go_wp2
    go_ret
    exact ⟨rfl, Hb.out⟩
  | false =>
  cases lt with
  | true =>
    clear hlg hA hlt hB
    go_enter Tryz.func6, Tryz.ntmps6
    go_wp2_with fail
    (with_reducible refine Hlong.out.mono ?_)
    rintro e w1 ⟨rfl, rfl⟩
    go_wp2_with fail
    (with_reducible refine Hlt.out.mono ?_)
    rintro e w2 ⟨rfl, rfl⟩
    go_wp2_with fail
    (with_reducible refine (Hkn.out _).mono ?_)
    rintro e w2 ⟨rfl, hb⟩
    have Hb := Lib.hid hb
    clear hb
    go_wp2
    go_ret
    exact ⟨rfl, Hb.out⟩
  | false =>
  by_cases h60 : 60 < n
  · have q : (n : Int) > 60 := by omega
    clear hlg hA hlt hB
    go_enter Tryz.func6, Tryz.ntmps6
    go_wp2_with fail
    (with_reducible refine Hlong.out.mono ?_)
    rintro e w1 ⟨rfl, rfl⟩
    go_wp2_with fail
    (with_reducible refine Hlt.out.mono ?_)
    rintro e w2 ⟨rfl, rfl⟩
    go_wp2_with fail
    (with_reducible refine (Hkn.out _).mono ?_)
    rintro e w2 ⟨rfl, hb⟩
    have Hb := Lib.hid hb
    clear hb
    go_wp2
    go_ret
    exact ⟨rfl, Hb.out⟩
  have q : ¬ (n : Int) > 60 := by omega
  have hl : m ≤ 24 := by
    rw [← hA.len]
    unfold E.long at hlg
    simp only [Bool.or_eq_false_iff, decide_eq_false_iff_not] at hlg
    omega
  have Hpl := Lib.hid (play_any l m cm A W hA hl)
  clear hlg hA hlt hB
  go_enter Tryz.func6, Tryz.ntmps6
  go_wp2_with fail
  (with_reducible refine Hlong.out.mono ?_)
  rintro e w1 ⟨rfl, rfl⟩
  go_wp2_with fail
  (with_reducible refine Hlt.out.mono ?_)
  rintro e w1 ⟨rfl, hw1⟩
  subst hw1
  go_wp2_with fail
  (with_reducible refine Hpl.out.mono ?_)
  rintro e w2 ⟨s, r, bg, br, rfl, hmd, ⟨Mg, Mr, hg, hr, hd, _⟩, hz⟩
  have Ht := Lib.hid hmd.two
  have Hz := Lib.hid hz
  have HzR := Lib.hid (hz.alike Ht.out.al)
  have Hg := Lib.hid hg
  have Hr := Lib.hid hr
  have Hd := Lib.hid hd
  have Hcp := Lib.hid (gCopy_any hg hz (by decide))
  clear hmd hg hr hd hz Hpl Hlong Hlt
  go_wp2_with fail
  (with_reducible refine Hcp.out.mono ?_)
  rintro e w3 ⟨bc, Mc, rfl, hc, hb, hnew⟩
  have Hb3 := Lib.hid hb
  have Hg3 := Lib.hid (Hg.out.below hb)
  have Hr3 := Lib.hid (Hr.out.below hb)
  have Hc3 := Lib.hid hc
  have HM3 := Lib.hid (show BM _ s r bc br Mg w3 from ⟨Mc, Mr, hc, Hr3.out, fun i hi hi' => by
    have := hnew i hi
    have := Hr.out.lt i hi'
    omega, fun i hi => ⟨Hg3.out.lt i hi, fun hi' => by
    have := hnew i hi'
    have := Hg.out.lt i hi
    omega, Hd.out i hi⟩⟩)
  have Hal := Lib.hid (alike_any HM3.out Ht.out.al Hz.out (by decide))
  clear hc hb hnew Hcp
  go_wp2_with fail
  (with_reducible refine Hal.out.mono ?_)
  rintro e w4 ⟨rfl, hb⟩
  have Hb4 := Lib.hid hb
  have HM4 := Lib.hid (HM3.out.below hb)
  have Hst4 := Lib.hid (HM3.out.stay hb)
  have Hg4 := Lib.hid (Hg3.out.below hb)
  have Had := Lib.hid (HM4.out.addG (ct := cn) Hz.out (by decide) (HB.out.below monoNd HM4.out.bel))
  clear hb Hal
  go_wp2_with fail
  (with_reducible refine Had.out.mono ?_)
  rintro e w5 ⟨s', no, er, rfl, ha, hm5, hz5, hs5⟩
  have Ha := Lib.hid ha
  have HM5 := Lib.hid hm5
  have Hg5 := Lib.hid (Hg4.out.frame hm5.bel hs5)
  obtain ⟨Mc5, Mr5, hc5, hr5, hd5, hx5⟩ := hm5
  have Hc5 := Lib.hid hc5
  have Hr5 := Lib.hid hr5
  have Hd5 := Lib.hid hd5
  have Hx5 := Lib.hid hx5
  have Hrc := Lib.hid (rCopyX_any hr5 HzR.out (by decide))
  clear ha hz5 hs5 hc5 hr5 hd5 hx5 Had
  go_wp2_with fail
  (with_reducible refine Hrc.out.mono ?_)
  rintro e w6 ⟨b2, M2, es0, rfl, h2, hb, hnew, hnd, hset⟩
  have Hg6 := Lib.hid (Hg5.out.below hb)
  have Hr6 := Lib.hid (Hr5.out.below hb)
  have Ht2 := Lib.hid (Ht.out.of_set hnd hset)
  have HM6 := Lib.hid (show BM _ s' { r with es := es0 } bc b2 (fun i => Mg i ∨ Mr5 i) w6 from ⟨Mc5, M2, Hc5.out.below hb, h2, fun i hi hi' => by
    have := hnew i hi'
    have := Hc5.out.lt i hi
    omega, fun i hi => by
    have hlt : i < w5.heap.size := hi.elim (Hg5.out.lt i) (Hr5.out.lt i)
    refine ⟨Nat.lt_of_lt_of_le hlt hb.size, fun hi' => ?_, fun hi' => ?_⟩
    · rcases hi with hi | hi
      · exact (Hx5.out i hi).2.1 hi'
      · exact Hd5.out i hi' hi
    · have := hnew i hi'; omega⟩)
  have Hzr2 := Lib.hid (Hz.out.alike Ht2.out.al)
  have Had := Lib.hid (HM6.out.addR (ct := cn) Hzr2.out (by decide) (HB.out.below monoNd HM6.out.bel))
  clear h2 hb hnew hnd hset Hrc
  go_wp2_with fail
  (with_reducible refine Had.out.mono ?_)
  rintro e w7 ⟨r', no', er', rfl, hb', hm7, hs7⟩
  obtain ⟨rfl, rfl, ht7⟩ := Ht2.out.add (nd_imm2 HB.out) Ha.out hb' HM5.out.ok1 hm7.ok2
  have Hg7 := Lib.hid (Hg6.out.frame hm7.bel fun i hi => hs7 i (.inl hi))
  have Hr7 := Lib.hid (Hr6.out.frame hm7.bel fun i hi => hs7 i (.inr hi))
  have HM7 := Lib.hid (show BM _ s r bg br (fun _ => False) w7 from ⟨Mg, Mr5, Hg7.out, Hr7.out, fun i hi hi' => (Hx5.out i hi).2.2 hi', fun i hi => hi.elim⟩)
  have Hal := Lib.hid (alike_any HM7.out Ht.out.al Hz.out (by decide))
  clear hb' hm7 hs7 ht7 Had
  go_wp2_with fail
  (with_reducible refine Hal.out.mono ?_)
  rintro e w8 ⟨rfl, hb⟩
  have Hb8 := Lib.hid (HM7.out.bel.trans (hb.mono HM7.out.bel.size))
  clear hb Hal
  have N1 := Lib.hid nAdd_any
  have N2 := Lib.hid nSame_any
  have N3 := Lib.hid nSaturate_any
  have N4 := Lib.hid nExtract_any
  have N5 := Lib.hid nUnion_any
  have N6 := Lib.hid nClasses_any
  have N7 := Lib.hid nNodes_any
  have N8 := Lib.hid nCopy_any
  go_wp2_with fail
  (with_reducible refine (N1.out _ _).mono ?_)
  rintro e w9 ⟨rfl, hw⟩
  subst hw
  go_wp2_with fail
  (with_reducible refine (N2.out _ _ _).mono ?_)
  rintro e w10 ⟨rfl, hb⟩
  have Hb10 := Lib.hid (Hb8.out.trans (hb.mono Hb8.out.size))
  clear hb Hb8
  go_wp2_with fail
  (with_reducible refine (N3.out _ _ _).mono ?_)
  rintro e w11 ⟨rfl, hw⟩
  subst hw
  go_wp2_with fail
  (with_reducible refine (N4.out _ _).mono ?_)
  rintro e w12 ⟨rfl, hb⟩
  have Hb12 := Lib.hid (Hb10.out.trans (hb.mono Hb10.out.size))
  clear hb Hb10
  go_wp2_with fail
  (with_reducible refine (N5.out _ _ _).mono ?_)
  rintro e w13 ⟨rfl, hb⟩
  have Hb13 := Lib.hid (Hb12.out.trans (hb.mono Hb12.out.size))
  clear hb Hb12
  go_wp2_with fail
  (with_reducible refine (N6.out _).mono ?_)
  rintro e w14 ⟨rfl, hw⟩
  subst hw
  go_wp2_with fail
  (with_reducible refine (N7.out _).mono ?_)
  rintro e w14 ⟨rfl, hw⟩
  subst hw
  go_wp2_with fail
  (with_reducible refine (N8.out _).mono ?_)
  rintro e w14 ⟨rfl, hw⟩
  subst hw
  go_wp2_with fail
  (with_reducible refine (Hkn.out _).mono ?_)
  rintro e w15 ⟨rfl, hb⟩
  have Hb15 := Lib.hid (Hb13.out.trans (hb.mono Hb13.out.size))
  clear hb Hb13
  go_wp2
  go_ret
  exact ⟨rfl, Hb15.out⟩
end Go.Proofs.YtcmlmjbpdaecbaaGreat
end
