/- Keys: the law RuleKeys. -/
import Derived.Test.YtbiopedpceddeaaGreatDoorL43
import Derived.Test.YtbiopedpceddeaaGreatDoorL47
import Derived.Test.YtbiopedpceddeaaGreatDoorL31
import Derived.Test.YtbiopedpceddeaaGreatDoorL36
set_option linter.unusedVariables false
set_option linter.unusedSimpArgs false
namespace Go.Proofs.YtbiopedpceddeaaGreatDoor
open Go.RowKit
set_option linter.unusedVariables false
set_option linter.unusedSimpArgs false
namespace KT
theorem str_eq {k j : List UInt8} : ((⟨k.toArray⟩ : ByteArray) = ⟨j.toArray⟩) ↔ k = j := by
  constructor
  · intro h
    injection h with h
    simpa using h
  · rintro rfl
    rfl
/-- the two answers of the law agree -/
theorem keys_agree {r q : R.Rl} {k j : List UInt8} (hr : R.rvalid r = 0) (hq : R.rvalid q = 0) (ok : R.ROk r) (ok' : R.ROk q) (h : IsKey r k) (h' : IsKey q j) : decide ((⟨k.toArray⟩ : ByteArray) = ⟨j.toArray⟩) = sm r q := by
  rw [Bool.eq_iff_iff, decide_eq_true_iff, str_eq]
  exact IsKey.iff ok ok' h h'

set_option maxRecDepth 100000 in
set_option maxHeartbeats 4000000 in
theorem ruleKeys_any {r q : R.Rl} {nl cl nr cr np cp ml dl mr dr mp dp : Nat} {AL AR AP BL BR BP : Option Addr} {W : World} (hR : RlAt W r nl nr np AL AR AP) (hQ : RlAt W q ml mr mp BL BR BP) (hT : TabAt W) (hN : Tens W) :
    Calls Tryz.prog 4 #[.agg #[.slice AL nl cl, .slice AR nr cr, .slice AP np cp], .agg #[.slice BL ml dl, .slice BR mr dr, .slice BP mp dp]] W fun e W' => e = .returned (.bool true) ∧ Below W.heap.size W W' := by
  obtain ⟨W1, hW1⟩ : ∃ W1, W1 = (W.alloc (.cells #[.slice AL nl cl, .slice AR nr cr, .slice AP np cp] 33)).alloc (.cells #[.slice BL ml dl, .slice BR mr dr, .slice BP mp dp] 33) := ⟨_, rfl⟩
  have hb1 : Below W.heap.size W W1 := by rw [hW1]; exact ((Below.refl _ _).alloc (Nat.le_refl _) _).alloc (by simp) _
  have hrow : W1.heap[W.heap.size]? = some (.cells #[.slice AL nl cl, .slice AR nr cr, .slice AP np cp] 33 (0, 0)) := by rw [hW1]; exact row_alloc (heap_alloc_new W _) _
  have hrow2 : W1.heap[W.heap.size + 1]? = some (.cells #[.slice BL ml dl, .slice BR mr dr, .slice BP mp dp] 33 (0, 0)) := by rw [hW1]; exact new_two W _ _
  have HB1 := Lib.hid hb1
  have HS := Lib.hid (show ∀ Y, Below W1.heap.size W1 Y → Y.cell? ⟨W.heap.size, 0, none⟩ = some (.slice AL nl cl) ∧ Y.cell? ⟨W.heap.size, 1, none⟩ = some (.slice AR nr cr) ∧ Y.cell? ⟨W.heap.size, 2, none⟩ = some (.slice AP np cp) ∧ Y.cell? ⟨W.heap.size + 1, 0, none⟩ = some (.slice BL ml dl) ∧ Y.cell? ⟨W.heap.size + 1, 1, none⟩ = some (.slice BR mr dr) ∧ Y.cell? ⟨W.heap.size + 1, 2, none⟩ = some (.slice BP mp dp) from fun Y hY => by
    obtain ⟨h0, h1, h2, _⟩ := rl_cells ((hY.block _ (Array.getElem?_eq_some_iff.1 hrow).1).trans hrow)
    obtain ⟨h3, h4, h5, _⟩ := rl_cells ((hY.block _ (Array.getElem?_eq_some_iff.1 hrow2).1).trans hrow2)
    exact ⟨h0, h1, h2, h3, h4, h5⟩)
  have HR := Lib.hid (fun X (h : Below W1.heap.size W1 X) => (hR.below hb1).below h)
  have HQ := Lib.hid (fun X (h : Below W1.heap.size W1 X) => (hQ.below hb1).below h)
  have HT := Lib.hid (fun X (h : Below W1.heap.size W1 X) => (hT.below hb1).below h)
  have HN := Lib.hid (fun X (h : Below W1.heap.size W1 X) => (hN.below hb1).below h)
  have Hl1 := Lib.hid (fun X (h : Below W1.heap.size W1 X) => rLong_any (cl := cl) (cr := cr) (cp := cp) (HR.out X h))
  have Hl2 := Lib.hid (fun X (h : Below W1.heap.size W1 X) => rLong_any (cl := dl) (cr := dr) (cp := dp) (HQ.out X h))
  have Hk1 := Lib.hid (fun X (h : Below W1.heap.size W1 X) => kKey_any (cl := cl) (cr := cr) (cp := cp) (HR.out X h) (HN.out X h))
  have Hk2 := Lib.hid (fun X (h : Below W1.heap.size W1 X) => kKey_any (cl := dl) (cr := dr) (cp := dp) (HQ.out X h) (HN.out X h))
  have Hv1 := Lib.hid (fun X (h : Below W1.heap.size W1 X) => rValidate_rule (cl := cl) (cr := cr) (cp := cp) (HR.out X h))
  have Hv2 := Lib.hid (fun X (h : Below W1.heap.size W1 X) => rValidate_rule (cl := dl) (cr := dr) (cp := dp) (HQ.out X h))
  have Hkn := Lib.hid (fun X (h : Below W1.heap.size W1 X) => known_any X (HT.out X h))
  have Hsk := Lib.hid (fun (h1 : R.rvalid r = 0) (h2 : R.rvalid q = 0) X (h : Below W1.heap.size W1 X) => by
    have ok := R.rok_of h1
    have ok' := R.rok_of h2
    obtain ⟨L, Q, hS⟩ := Sides.ex ok
    obtain ⟨L', Q', hS'⟩ := Sides.ex ok'
    exact And.intro ok (And.intro ok' (RF.sameKey_any (cl := cl) (cr := cr) (cp := cp) (dl := dl) (dr := dr) (dp := dp) (HR.out X h) ok hS (HQ.out X h) ok' hS')))
  have Hb0 := Lib.hid (Below.refl W1.heap.size W1)
  have HW1 := Lib.hid hW1
  have Hend := Lib.hid (show ∀ X, Below W1.heap.size W1 X → Below W.heap.size W X from fun X h => hb1.trans (h.mono hb1.size))
  obtain ⟨ln1, hln1⟩ : ∃ ln, R.rlong r = ln := ⟨_, rfl⟩
  obtain ⟨ln2, hln2⟩ : ∃ ln, R.rlong q = ln := ⟨_, rfl⟩
  rw [hln1] at Hl1
  rw [hln2] at Hl2
  clear hR hQ hT hN hb1 hrow hrow2 hW1 hln1 hln2 HR HQ HT HN
  go_enter Tryz.func4, Tryz.ntmps4
  go_upto_region 1 with (fail)
  rw [← HW1.out]
  cases ln1 with
  | true =>
    obtain ⟨c0, c1, c2, c3, c4, c5⟩ := HS.out W1 Hb0.out
    go_wp2_with fail
    (with_reducible refine (Hl1.out W1 Hb0.out).mono ?_)
    rintro e w2 ⟨rfl, hb'⟩
    have Hb2 := Lib.hid (Hb0.out.trans (hb'.mono Hb0.out.size))
    clear hb' c0 c1 c2 c3 c4 c5
    obtain ⟨c0, c1, c2, c3, c4, c5⟩ := HS.out w2 Hb2.out
    go_wp2_with fail
    (with_reducible refine (Hkn.out w2 Hb2.out).mono ?_)
    rintro e w3 ⟨rfl, hb'⟩
    have Hb3 := Lib.hid (Hb2.out.trans (hb'.mono Hb2.out.size))
    clear hb' c0 c1 c2 c3 c4 c5
    go_wp2
    go_ret
    exact ⟨rfl, Hend.out _ Hb3.out⟩
  | false =>
    obtain ⟨c0, c1, c2, c3, c4, c5⟩ := HS.out W1 Hb0.out
    go_wp2_with fail
    (with_reducible refine (Hl1.out W1 Hb0.out).mono ?_)
    rintro e w2 ⟨rfl, hb'⟩
    have Hb2 := Lib.hid (Hb0.out.trans (hb'.mono Hb0.out.size))
    clear hb' c0 c1 c2 c3 c4 c5
    cases ln2 with
    | true =>
      obtain ⟨c0, c1, c2, c3, c4, c5⟩ := HS.out w2 Hb2.out
      go_wp2_with fail
      (with_reducible refine (Hl2.out w2 Hb2.out).mono ?_)
      rintro e w3 ⟨rfl, hb'⟩
      have Hb3 := Lib.hid (Hb2.out.trans (hb'.mono Hb2.out.size))
      clear hb' c0 c1 c2 c3 c4 c5
      obtain ⟨c0, c1, c2, c3, c4, c5⟩ := HS.out w3 Hb3.out
      go_wp2_with fail
      (with_reducible refine (Hkn.out w3 Hb3.out).mono ?_)
      rintro e w4 ⟨rfl, hb'⟩
      have Hb4 := Lib.hid (Hb3.out.trans (hb'.mono Hb3.out.size))
      clear hb' c0 c1 c2 c3 c4 c5
      go_wp2
      go_ret
      exact ⟨rfl, Hend.out _ Hb4.out⟩
    | false =>
      obtain ⟨c0, c1, c2, c3, c4, c5⟩ := HS.out w2 Hb2.out
      go_wp2_with fail
      (with_reducible refine (Hl2.out w2 Hb2.out).mono ?_)
      rintro e w3 ⟨rfl, hb'⟩
      have Hb3 := Lib.hid (Hb2.out.trans (hb'.mono Hb2.out.size))
      clear hb' c0 c1 c2 c3 c4 c5
      obtain ⟨c0, c1, c2, c3, c4, c5⟩ := HS.out w3 Hb3.out
      go_wp2_with fail
      (with_reducible refine (Hk1.out w3 Hb3.out).mono ?_)
      rintro e w4 ⟨k, rfl, hk1, hk2, hb'⟩
      have Hb4 := Lib.hid (Hb3.out.trans (hb'.mono Hb3.out.size))
      clear hb' c0 c1 c2 c3 c4 c5
      have HK := Lib.hid hk1
      clear hk1 hk2
      obtain ⟨c0, c1, c2, c3, c4, c5⟩ := HS.out w4 Hb4.out
      go_wp2_with fail
      (with_reducible refine (Hk2.out w4 Hb4.out).mono ?_)
      rintro e w5 ⟨j, rfl, hj1, hj2, hb'⟩
      have Hb5 := Lib.hid (Hb4.out.trans (hb'.mono Hb4.out.size))
      clear hb' c0 c1 c2 c3 c4 c5
      have HJ := Lib.hid hj1
      clear hj1 hj2
      obtain ⟨a, ha⟩ : ∃ a, R.rvalid r = a := ⟨_, rfl⟩
      obtain ⟨b, hb⟩ : ∃ b, R.rvalid q = b := ⟨_, rfl⟩
      rw [ha] at Hv1 HK Hsk ⊢
      rw [hb] at Hv2 HJ Hsk ⊢
      have Ha := Lib.hid ha
      have Hb := Lib.hid hb
      clear ha hb
      have q1 : (a == a) = true := beq_self_eq_true a
      have q2 : (b == b) = true := beq_self_eq_true b
      have q3 : (a != a) = false := by simp
      have q4 : (b != b) = false := by simp
      obtain ⟨c0, c1, c2, c3, c4, c5⟩ := HS.out w5 Hb5.out
      go_wp2_with fail
      (with_reducible refine (Hv1.out w5 Hb5.out).mono ?_)
      rintro e w6 ⟨rfl, hb'⟩
      have Hb6 := Lib.hid (Hb5.out.trans (hb'.mono Hb5.out.size))
      clear hb' c0 c1 c2 c3 c4 c5
      obtain ⟨c0, c1, c2, c3, c4, c5⟩ := HS.out w6 Hb6.out
      go_wp2_with fail
      (with_reducible refine (Hv2.out w6 Hb6.out).mono ?_)
      rintro e w7 ⟨rfl, hb'⟩
      have Hb7 := Lib.hid (Hb6.out.trans (hb'.mono Hb6.out.size))
      clear hb' c0 c1 c2 c3 c4 c5
      by_cases za : a = 0
      · have za' : (a != 0) = false := by simp [za]
        by_cases zb : b = 0
        · have zb' : (b != 0) = false := by simp [zb]
          have Hq := Lib.hid (Hsk.out za zb)
          have Hag := Lib.hid (keys_agree (Ha.out.trans za) (Hb.out.trans zb) (Hq.out W1 Hb0.out).1 (Hq.out W1 Hb0.out).2.1 (HK.out za) (HJ.out zb))
          have Hsk2 := Lib.hid (fun X (h : Below W1.heap.size W1 X) => (Hq.out X h).2.2)
          obtain ⟨z, hz⟩ : ∃ z, sm r q = z := ⟨_, rfl⟩
          rw [hz] at Hag Hsk2
          clear hz za zb
          obtain ⟨sk, hsk⟩ : ∃ s : ByteArray, s = ⟨k.toArray⟩ := ⟨_, rfl⟩
          obtain ⟨sj, hsj⟩ : ∃ s : ByteArray, s = ⟨j.toArray⟩ := ⟨_, rfl⟩
          rw [← hsk, ← hsj] at Hag
          rw [← hsk, ← hsj]
          clear hsk hsj
          have qa := Hag.out
          have qb : (sk.toList == sj.toList) = z := by
            rw [← Hag.out, ByteArray.toList_eq, ByteArray.toList_eq, Bool.eq_iff_iff, beq_iff_eq, decide_eq_true_iff]
            exact ⟨fun h => by cases sk; cases sj; simpa using h, fun h => by rw [h]⟩
          have qz : (z == z) = true := by simp
          obtain ⟨c0, c1, c2, c3, c4, c5⟩ := HS.out w7 Hb7.out
          go_wp2_with fail
          (with_reducible refine (Hsk2.out w7 Hb7.out).mono ?_)
          rintro e w8 ⟨rfl, hb'⟩
          have Hb8 := Lib.hid (Hb7.out.trans (hb'.mono Hb7.out.size))
          clear hb' c0 c1 c2 c3 c4 c5
          obtain ⟨c0, c1, c2, c3, c4, c5⟩ := HS.out w8 Hb8.out
          go_wp2_with fail
          (with_reducible refine (Hkn.out w8 Hb8.out).mono ?_)
          rintro e w9 ⟨rfl, hb'⟩
          have Hb9 := Lib.hid (Hb8.out.trans (hb'.mono Hb8.out.size))
          clear hb' c0 c1 c2 c3 c4 c5
          go_wp2
          go_ret
          exact ⟨rfl, Hend.out _ Hb9.out⟩
        · have zb' : (b != 0) = true := by simp [zb]
          clear za zb
          obtain ⟨c0, c1, c2, c3, c4, c5⟩ := HS.out w7 Hb7.out
          go_wp2_with fail
          (with_reducible refine (Hkn.out w7 Hb7.out).mono ?_)
          rintro e w8 ⟨rfl, hb'⟩
          have Hb8 := Lib.hid (Hb7.out.trans (hb'.mono Hb7.out.size))
          clear hb' c0 c1 c2 c3 c4 c5
          go_wp2
          go_ret
          exact ⟨rfl, Hend.out _ Hb8.out⟩
      · have za' : (a != 0) = true := by simp [za]
        clear za
        obtain ⟨c0, c1, c2, c3, c4, c5⟩ := HS.out w7 Hb7.out
        go_wp2_with fail
        (with_reducible refine (Hkn.out w7 Hb7.out).mono ?_)
        rintro e w8 ⟨rfl, hb'⟩
        have Hb8 := Lib.hid (Hb7.out.trans (hb'.mono Hb7.out.size))
        clear hb' c0 c1 c2 c3 c4 c5
        go_wp2
        go_ret
        exact ⟨rfl, Hend.out _ Hb8.out⟩
end KT
end Go.Proofs.YtbiopedpceddeaaGreatDoor
