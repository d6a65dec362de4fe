/- EgraphPlays: play, and the law. -/
import Derived.Test.YtcmlmjbpdaecbaaP47
set_option linter.unusedVariables false
set_option linter.unusedSimpArgs false
namespace Go.Proofs.Ytcmlmjbpdaecbaa
open Go.RowKit Go.MapKept Go.Maps Go.WideMaps
set_option linter.unusedVariables false
set_option linter.unusedSimpArgs false

namespace E
/-- what play makes of both graphs -/
inductive Made : Gr → Gr → Prop where
  | new : Made Gr.new Gr.new
  | add {s r s' r' : Gr} {t : List T.Nd} {no er no' er' : Int} (h : Made s r) (hi : ∀ x ∈ t, 0 ≤ x.imm ∧ x.imm < 4294967296) (a : AddR s t s' no er) (b : RAddR r t r' no' er') (ok1 : s'.Ok) (ok2 : r'.Ok) : Made s' r'
  | uni {s r : Gr} {x y er er' : Int} {p1 q1 : List Nat} {es1 fs1 : List (Opn × Nat)} (h : Made s r) (u : UniR s.p s.wd s.es s.nm x y er p1 es1) (v : RUniR r.p r.wd r.es r.nm x y er' q1 fs1) (ok1 : Ok p1 s.wd es1 s.nm) (ok2 : Ok q1 r.wd fs1 r.nm) : Made { s with p := p1, es := es1 } { r with p := q1, es := fs1 }
theorem Made.two {s r : Gr} (h : Made s r) : Two s r := by
  induction h with
  | new => exact Two.new
  | add h hi a b ok1 ok2 ih => exact (ih.add hi a b ok1 ok2).2.2
  | uni h u v ok1 ok2 ih => exact (ih.uni u v ok1 ok2).2
end E

set_option maxRecDepth 100000 in
set_option maxHeartbeats 4000000 in
theorem play_any (l : List Act) (m cm : Nat) (A : Option Addr) (W : World) (hA : StAt 4 ActR W A m l) (hl : m ≤ 24) :
    Calls Try.prog 14 #[.slice A m cm] W fun e w' => ∃ s r bg br, e = .returned (.tuple #[.pointer (some ⟨bg, 0, none⟩), .pointer (some ⟨br, 0, none⟩), .bool true]) ∧ E.Made s r ∧ BM W s r bg br (fun _ => False) w' ∧ Sz s 7200 := by
  have HA := Lib.hid hA
  have hle := hA.le
  have Hn1 := Lib.hid (gp_new W)
  clear hA
  go_enter Try.func14, Try.ntmps14
  go_wp2_with fail
  (with_reducible refine Hn1.out.mono ?_)
  rintro e w1 ⟨bg, M, rfl, hx⟩
  have Hn2 := Lib.hid hx.refNew
  clear hx Hn1
  go_wp2_with fail
  (with_reducible refine Hn2.out.mono ?_)
  rintro e w2 ⟨br, rfl, hm⟩
  have Hm0 := Lib.hid hm
  clear hm Hn2
  go_wp2_with fail
  go_loopg [7] (m + 1) (fun gg s7 wr => ∃ (j : Nat) (s r : E.Gr), j ≤ m ∧ s7 = .int .i64 (j : Int) ∧ gg + j = m + 1 ∧ Hid (E.Made s r) ∧ Hid (BM W s r bg br (fun _ => False) wr) ∧ Hid (Sz s (300 * j)))
  case atStart => exact ⟨0, E.Gr.new, E.Gr.new, Nat.zero_le _, rfl, rfl, Lib.hid .new, Hm0, Lib.hid ⟨Nat.zero_le _, Nat.zero_le _, Nat.zero_le _⟩⟩
  case round =>
    obtain ⟨j, s, r, hj, rfl, hgk, Hmd, Hm, Hz⟩ := hrel
    have Hgk := Lib.hid hgk
    clear hgk Hm0
    have Ht := Lib.hid Hmd.out.two
    have HzR := Lib.hid (Hz.out.alike Ht.out.al)
    have hN : 300 * j ≤ 800000 := by omega
    by_cases hjm : j < m
    · obtain ⟨x, ba, offa, us, hx, hBa, hba, hul, hcs0, hus⟩ := HA.out.at_ hjm
      have hcs := fun j u hu => (Hm.out.bel.cell (p := ⟨ba, offa + _ * 4 + j, none⟩) hba).trans (hcs0 j u hu)
      have hBa' := hBa
      subst hBa'
      obtain ⟨kd, tm, xa, xb⟩ := x
      obtain ⟨At, ct, rfl, hst⟩ := hus
      dsimp only at hst hcs
      clear hcs0
      have hst0 := hst
      have c0 := hcs 0 _ rfl
      have c1 := hcs 1 _ rfl
      have c2 := hcs 2 _ rfl
      have c3 := hcs 3 _ rfl
      rw [Nat.add_zero] at c0
      obtain ⟨nt, hnt⟩ : ∃ nt, tm.length = nt := ⟨_, rfl⟩
      rw [hnt] at c1
      have Hnt := Lib.hid hnt
      clear hx hBa hul hcs hba hst hnt
      have Hst0 := Lib.hid hst0
      clear hst0
      go_upto_region 8 with (fail)
      have hrow := heap_alloc_new wr (.cells #[.int .i64 kd, .slice At nt ct, .int .i64 xa, .int .i64 xb] 66)
      have Hp := Lib.hid (Hm.out.protect (.cells #[.int .i64 kd, .slice At nt ct, .int .i64 xa, .int .i64 xb] 66))
      obtain ⟨wx, hwx⟩ : ∃ wx, wr.alloc (.cells #[.int .i64 kd, .slice At nt ct, .int .i64 xa, .int .i64 xb] 66) = wx := ⟨_, rfl⟩
      obtain ⟨bx, hbx⟩ : ∃ bx, wr.heap.size = bx := ⟨_, rfl⟩
      rw [hwx] at hrow Hp ⊢
      rw [hbx] at hrow Hp ⊢
      have k0 : wx.cell? ⟨bx, 0, none⟩ = some (.int .i64 kd) := by rw [cell_of_row _ _ _ _ _ (0, 0) hrow]; rfl
      have k1 : wx.cell? ⟨bx, 1, none⟩ = some (.slice At nt ct) := by rw [cell_of_row _ _ _ _ _ (0, 0) hrow]; rfl
      have k2 : wx.cell? ⟨bx, 2, none⟩ = some (.int .i64 xa) := by rw [cell_of_row _ _ _ _ _ (0, 0) hrow]; rfl
      have k3 : wx.cell? ⟨bx, 3, none⟩ = some (.int .i64 xb) := by rw [cell_of_row _ _ _ _ _ (0, 0) hrow]; rfl
      have Hbw := Lib.hid Hp.out.bel
      clear hwx hrow hbx c0 c1 c2 c3
      by_cases hkd : kd = 0
      · subst hkd
        have Hadd := Lib.hid (Hp.out.addG (ct := ct) Hz.out hN (show StAt 5 NdR wx At nt tm from by have := Hst0.out.below monoNd Hbw.out; rwa [Hnt.out] at this))
        go_wp2_with fail
        (with_reducible refine Hadd.out.mono ?_)
        rintro e w5 ⟨s', no, er, rfl, ha, hm5, hz5, hs5⟩
        have Hm5 := Lib.hid hm5
        have Ha := Lib.hid ha
        have Hz5 := Lib.hid hz5
        have j1 := hs5.cell rfl k1
        have Hadr := Lib.hid (hm5.addR (ct := ct) HzR.out hN (show StAt 5 NdR w5 At nt tm from by have := Hst0.out.below monoNd hm5.bel; rwa [Hnt.out] at this))
        clear k0 k1 k2 k3 hm5 ha hz5 hs5 Hadd
        go_wp2_with fail
        (with_reducible refine Hadr.out.mono ?_)
        rintro e w6 ⟨r', no', er', rfl, hb, hm6, hs6⟩
        obtain ⟨rfl, rfl, ht6⟩ := Ht.out.add (nd_imm2 Hst0.out) Ha.out hb Hm5.out.ok1 hm6.ok2
        have Hm6 := Lib.hid hm6.forget
        have Hmd6 := Lib.hid (E.Made.add Hmd.out (nd_imm2 Hst0.out) Ha.out hb hm6.ok1 hm6.ok2)
        clear hb hm6 hs6 ht6 j1 Hadr
        go_wp2_with fail
        go_roundg (gk - 1)
        case measure => have := Hgk.out; omega
        case rel =>
          have := Hgk.out
          exact ⟨j + 1, s', r', by omega, by go_num, by omega, Hmd6, Hm6, Lib.hid (Hz5.out.mono (by omega))⟩
      · have q : (kd != 0) = true := by simpa using hkd
        clear hkd
        have Hug := Lib.hid ((Hp.out.below (w' := wx.drew) ((Below.refl _ _).drew)).uniG Hz.out hN xa xb)
        go_upto_region 9 with (fail)
        clear k0 k1
        have HS0 := Lib.hid (show (fun Y : World => Y.cell? ⟨bx, 2, none⟩ = some (.int .i64 xa) ∧ Y.cell? ⟨bx, 3, none⟩ = some (.int .i64 xb)) wx.drew from ⟨k2, k3⟩)
        clear k2 k3
        refine wp_region_held_drew (S := fun Y : World => Y.cell? ⟨bx, 2, none⟩ = some (.int .i64 xa) ∧ Y.cell? ⟨bx, 3, none⟩ = some (.int .i64 xb)) (by kernel_rfl) (HS0.out) (fun hHeld => ?_)
        refine wpAnyH_take (i := 0) (oi := _) (v := ?_) rfl (by kernel_rfl) (by kernel_rfl) (by kernel_rfl) (fun _ _ _ h => h) (Or.inl ⟨by rfl, fun Y hY => ?_⟩) hHeld ?_
        rotate_left
        · (go_simp) <;> with_reducible rfl
        try simp only [Act.put, List.setIfInBounds_toArray, List.set_cons_zero, List.set_cons_succ, List.getElem_toArray, List.getElem_cons_succ, List.getElem_cons_zero]
        refine wpAnyH_take (i := 1) (oi := _) (v := ?_) rfl (by kernel_rfl) (by kernel_rfl) (by kernel_rfl) (fun _ _ _ h => h) (Or.inl ⟨by rfl, fun Y hY => ?_⟩) hHeld ?_
        rotate_left
        · (go_simp) <;> with_reducible rfl
        try simp only [Act.put, List.setIfInBounds_toArray, List.set_cons_zero, List.set_cons_succ, List.getElem_toArray, List.getElem_cons_succ, List.getElem_cons_zero]
        refine wpAnyH_take (i := 2) (oi := _) (v := ?_) rfl (by kernel_rfl) (by kernel_rfl) (by kernel_rfl) (fun _ _ _ h => h) (Or.inl ⟨by rfl, fun Y hY => ?_⟩) hHeld ?_
        rotate_left
        · obtain ⟨y0, y1⟩ := hY
          (go_simp) <;> with_reducible rfl
        try simp only [Act.put, List.setIfInBounds_toArray, List.set_cons_zero, List.set_cons_succ, List.getElem_toArray, List.getElem_cons_succ, List.getElem_cons_zero]
        refine wpAnyH_take (i := 3) (oi := _) (v := ?_) rfl (by kernel_rfl) (by kernel_rfl) (by kernel_rfl) (fun _ _ _ h => h) (Or.inl ⟨by rfl, fun Y hY => ?_⟩) hHeld ?_
        rotate_left
        · (go_simp) <;> with_reducible rfl
        try simp only [Act.put, List.setIfInBounds_toArray, List.set_cons_zero, List.set_cons_succ, List.getElem_toArray, List.getElem_cons_succ, List.getElem_cons_zero]
        refine wpAnyH_take (i := 4) (oi := _) (v := ?_) rfl (by kernel_rfl) (by kernel_rfl) (by kernel_rfl) (fun _ _ _ h => h) (Or.inl ⟨by rfl, fun Y hY => ?_⟩) hHeld ?_
        rotate_left
        · obtain ⟨y0, y1⟩ := hY
          (go_simp) <;> with_reducible rfl
        try simp only [Act.put, List.setIfInBounds_toArray, List.set_cons_zero, List.set_cons_succ, List.getElem_toArray, List.getElem_cons_succ, List.getElem_cons_zero]
        refine wpAnyH_take (i := 6) (oi := _) (v := ?_) rfl (by kernel_rfl) (by kernel_rfl) (by kernel_rfl) (fun _ _ _ h => h) (Or.inl ⟨by rfl, fun Y hY => ?_⟩) hHeld ?_
        rotate_left
        · (go_simp) <;> with_reducible rfl
        try simp only [Act.put, List.setIfInBounds_toArray, List.set_cons_zero, List.set_cons_succ, List.getElem_toArray, List.getElem_cons_succ, List.getElem_cons_zero]
        refine wpAnyH_take (i := 7) (oi := _) (v := ?_) rfl (by kernel_rfl) (by kernel_rfl) (by kernel_rfl) (fun _ _ _ h => h) (Or.inl ⟨by rfl, fun Y hY => ?_⟩) hHeld ?_
        rotate_left
        · (go_simp) <;> with_reducible rfl
        try simp only [Act.put, List.setIfInBounds_toArray, List.set_cons_zero, List.set_cons_succ, List.getElem_toArray, List.getElem_cons_succ, List.getElem_cons_zero]
        refine wpAnyH_take (i := 8) (oi := _) (v := ?_) rfl (by kernel_rfl) (by kernel_rfl) (by kernel_rfl) (fun _ _ _ h => h) (Or.inl ⟨by rfl, fun Y hY => ?_⟩) hHeld ?_
        rotate_left
        · obtain ⟨y0, y1⟩ := hY
          (go_simp) <;> with_reducible rfl
        try simp only [Act.put, List.setIfInBounds_toArray, List.set_cons_zero, List.set_cons_succ, List.getElem_toArray, List.getElem_cons_succ, List.getElem_cons_zero]
        refine wpAnyH_take (i := 9) (oi := _) (v := ?_) rfl (by kernel_rfl) (by kernel_rfl) (by kernel_rfl) (fun _ _ _ h => h) (Or.inl ⟨by rfl, fun Y hY => ?_⟩) hHeld ?_
        rotate_left
        · (go_simp) <;> with_reducible rfl
        try simp only [Act.put, List.setIfInBounds_toArray, List.set_cons_zero, List.set_cons_succ, List.getElem_toArray, List.getElem_cons_succ, List.getElem_cons_zero]
        refine wpAnyH_take (i := 10) (oi := _) (v := ?_) rfl (by kernel_rfl) (by kernel_rfl) (by kernel_rfl) (fun _ _ _ h => h) (Or.inl ⟨by rfl, fun Y hY => ?_⟩) hHeld ?_
        rotate_left
        · obtain ⟨y0, y1⟩ := hY
          (go_simp) <;> with_reducible rfl
        try simp only [Act.put, List.setIfInBounds_toArray, List.set_cons_zero, List.set_cons_succ, List.getElem_toArray, List.getElem_cons_succ, List.getElem_cons_zero]
        refine wpAnyH_ready (rs := [5]) (by kernel_rfl) (by simp) ?_
        refine AllReadyH.cons (o := _) rfl (fun KK hKK => ?_) AllReadyH.nil
        clear hHeld
        go_simp
        (with_reducible refine Hug.out.mono ?_)
        rintro e w5 ⟨er, p1, es1, rfl, hu, hm5, hz5, hs5⟩
        have Hm5 := Lib.hid hm5
        have Hu5 := Lib.hid hu
        have Hz5 := Lib.hid hz5
        have HS5 := Lib.hid (show (fun Y : World => Y.cell? ⟨bx, 2, none⟩ = some (.int .i64 xa) ∧ Y.cell? ⟨bx, 3, none⟩ = some (.int .i64 xb)) w5 from ⟨hs5.cell rfl HS0.out.1, hs5.cell rfl HS0.out.2⟩)
        have Hur := Lib.hid (hm5.uniR HzR.out hN xa xb)
        clear hu hm5 hz5 hs5
        refine hKK.out _ _ (HS5.out) (fun hHeld => ?_)
        clear hKK KK
        try simp only [Act.put, List.setIfInBounds_toArray, List.set_cons_zero, List.set_cons_succ, List.getElem_toArray, List.getElem_cons_succ, List.getElem_cons_zero]
        refine wpAnyH_ready (rs := [11]) (by kernel_rfl) (by simp) ?_
        refine AllReadyH.cons (o := _) rfl (fun KK hKK => ?_) AllReadyH.nil
        clear hHeld
        go_simp
        (with_reducible refine Hur.out.mono ?_)
        rintro e w6 ⟨er', q1, fs1, rfl, hv, hm6, hs6⟩
        obtain ⟨rfl, ht6⟩ := Ht.out.uni Hu5.out hv Hm5.out.ok1 hm6.ok2
        have Hm6 := Lib.hid hm6.forget
        have Hmd6 := Lib.hid (E.Made.uni Hmd.out Hu5.out hv Hm5.out.ok1 hm6.ok2)
        have HS6 := Lib.hid (show (fun Y : World => Y.cell? ⟨bx, 2, none⟩ = some (.int .i64 xa) ∧ Y.cell? ⟨bx, 3, none⟩ = some (.int .i64 xb)) w6 from ⟨hs6.cell rfl HS5.out.1, hs6.cell rfl HS5.out.2⟩)
        clear hv hm6 hs6 ht6
        refine hKK.out _ _ (HS6.out) (fun hHeld => ?_)
        clear hKK KK
        try simp only [Act.put, List.setIfInBounds_toArray, List.set_cons_zero, List.set_cons_succ, List.getElem_toArray, List.getElem_cons_succ, List.getElem_cons_zero]
        refine wpAnyH_take (i := 12) (oi := _) (v := ?_) rfl (by kernel_rfl) (by kernel_rfl) (by kernel_rfl) (fun _ _ _ h => h) (Or.inl ⟨by rfl, fun Y hY => ?_⟩) hHeld ?_
        rotate_left
        · (go_simp) <;> with_reducible rfl
        try simp only [Act.put, List.setIfInBounds_toArray, List.set_cons_zero, List.set_cons_succ, List.getElem_toArray, List.getElem_cons_succ, List.getElem_cons_zero]
        refine wpAnyH_done (by kernel_rfl) ?_ _
        go_wp2_with fail
        go_roundg (gk - 1)
        case measure => have := Hgk.out; omega
        case rel =>
          have := Hgk.out
          exact ⟨j + 1, _, _, by omega, by go_num, by omega, Hmd6, Hm6, Lib.hid (Hz5.out.mono (by omega))⟩
    · obtain rfl : j = m := by omega
      have Hal := Lib.hid (alike_any Hm.out Ht.out.al Hz.out hN)
      go_wp2_with fail
      (with_reducible refine Hal.out.mono ?_)
      rintro e w3 ⟨rfl, hb⟩
      have Hm3 := Lib.hid (Hm.out.below hb)
      clear hb Hal
      go_wp2
      refine bodyPost_ret (results_tmp3 rfl _ _ _) rfl ?_
      exact ⟨s, r, bg, br, rfl, Hmd.out, Hm3.out, Hz.out.mono (by omega)⟩

set_option maxRecDepth 100000 in
set_option maxHeartbeats 2000000 in
theorem egraphPlays_any (l : List Act) (m cm : Nat) (A : Option Addr) (W : World) (hA : StAt 4 ActR W A m l) :
    Calls Try.prog 4 #[.slice A m cm] W fun e W' => e = .returned (.bool true) ∧ Below W.heap.size W W' := by
  have Hlong := Lib.hid (actsLong_any l m cm A W hA)
  have Hkn := Lib.hid known_any
  obtain ⟨lg, hlg⟩ : ∃ lg, E.long l = lg := ⟨_, rfl⟩
  rw [hlg] at Hlong
  cases lg with
  | true =>
    clear hlg hA
    go_enter Try.func4, Try.ntmps4
    go_wp2_with fail
    (with_reducible refine Hlong.out.mono ?_)
    rintro e w1 ⟨rfl, rfl⟩
    go_wp2_with fail
    (with_reducible refine (Hkn.out _).mono ?_)
    rintro e w2 ⟨rfl, hb⟩
    have Hb := Lib.hid hb
    clear hb
    go_wp2
    go_ret
    exact ⟨rfl, Hb.out⟩
  | false =>
    have hl : m ≤ 24 := by
      rw [← hA.len]
      unfold E.long at hlg
      simp only [Bool.or_eq_false_iff, decide_eq_false_iff_not] at hlg
      omega
    have Hpl := Lib.hid (play_any l m cm A W hA hl)
    clear hlg hA
    go_enter Try.func4, Try.ntmps4
    go_wp2_with fail
    (with_reducible refine Hlong.out.mono ?_)
    rintro e w1 ⟨rfl, rfl⟩
    go_wp2_with fail
    (with_reducible refine Hpl.out.mono ?_)
    rintro e w2 ⟨s, r, bg, br, rfl, _, hm, _⟩
    have Hm := Lib.hid hm.bel
    clear hm
    go_wp2_with fail
    (with_reducible refine (Hkn.out _).mono ?_)
    rintro e w3 ⟨rfl, hb⟩
    have Hb := Lib.hid (Hm.out.trans (hb.mono Hm.out.size))
    clear hb
    go_wp2
    go_ret
    exact ⟨rfl, Hb.out⟩
end Go.Proofs.Ytcmlmjbpdaecbaa
