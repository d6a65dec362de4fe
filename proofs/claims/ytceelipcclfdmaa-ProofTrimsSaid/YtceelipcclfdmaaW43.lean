/- Walks of the reference: Trim. -/
import Derived.Test.YtceelipcclfdmaaW42
import Derived.Deep.AppendLies
namespace Go.Proofs.Ytceelipcclfdmaa
open Go.RowKit Go.Maps Go.Sort
set_option linter.unusedVariables false

theorem SlAt.take {α : Type} {R : World → Value → α → Prop} {w : World} {A : Option Addr} {n : Nat} {xs : List α} (h : SlAt R w A n xs) {q : Nat} (hq : q ≤ n) : SlAt R w A q (xs.take q) := by
  obtain ⟨h1, h2, h3⟩ := h
  refine ⟨by rw [List.length_take]; omega, by omega, fun k x hx => ?_⟩
  rw [List.getElem?_take] at hx
  split at hx
  · exact h3 k x hx
  · cases hx

theorem Elems.join {α : Type} {R : World → Value → α → Prop} {w : World} {us vs : List Value} {xs ys : List α} (h : Elems R w us xs) (h' : Elems R w vs ys) : Elems R w (us ++ vs) (xs ++ ys) := by
  refine ⟨by rw [List.length_append, List.length_append, h.1, h'.1], fun j x u hx hu => ?_⟩
  by_cases hj : j < xs.length
  · rw [List.getElem?_append_left hj] at hx
    rw [List.getElem?_append_left (by rw [h.1]; exact hj)] at hu
    exact h.2 j x u hx hu
  · rw [List.getElem?_append_right (by omega)] at hx
    rw [List.getElem?_append_right (by rw [h.1]; omega), h.1] at hu
    exact h'.2 _ x u hx hu
theorem Elems.drop {α : Type} {R : World → Value → α → Prop} {w : World} {us : List Value} {xs : List α} (h : Elems R w us xs) (k : Nat) : Elems R w (us.drop k) (xs.drop k) :=
  ⟨by rw [List.length_drop, List.length_drop, h.1], fun j x u hx hu => by rw [List.getElem?_drop] at hx hu; exact h.2 _ x u hx hu⟩

theorem S.checkOf_true {cs l : List (List Int)} : (S.checkOf cs l).2 = true ↔ S.failure cs l = none := by
  unfold S.checkOf S.failure
  cases S.bad cs l with
  | none => by_cases h : l.getLast? = some [] <;> simp [h]
  | some k => simp

set_option maxRecDepth 100000 in
set_option maxHeartbeats 8000000 in
theorem trimR_any (n : Int) (A D : Option Addr) (m c p d : Nat) (cs l : List (List Int)) (w : World) (hA : SlAt (SlR (IntR .i64)) w A m cs) (hD : SlAt (SlR (IntR .i64)) w D p l) (hl1 : l.length ≤ 400) (hl2 : ∀ x ∈ l, x.length ≤ 100) :
    Calls Try.prog 27 #[.int .i64 n, .slice A m c, .slice D p d] w (SomeTabE w (S.trimOf n cs l)) := by
  have Hcon := Lib.hid (refCheckE_any n A D m c p d cs l w hA hD (fun x hx => by have := hl2 x hx; omega))
  have hpl := hD.len
  have HA := Lib.hid hA; clear hA
  have HD := Lib.hid hD; clear hD
  have Hl2 := Lib.hid hl2; clear hl2
  by_cases he : (S.check n cs l).2 = 0
  · obtain ⟨v1, v2, hb, hlast⟩ := S.check_zero' he
    have hfail : S.failure cs l = none := S.failure_none.2 ⟨hb, hlast⟩
    have hpos := S.proof_length hfail
    have e1 : S.trimOf n cs l = (S.trim cs l, 0) := by rw [S.trimOf, if_neg (by simp [he])]
    have e2 : S.check n cs l = (((S.check n cs l).1), 0) := by rw [← he]
    rw [e2] at Hcon
    rw [e1]
    obtain ⟨hn0, hn4, hm, hc1⟩ := validate_zero v1
    obtain ⟨_, _, _, hc2⟩ := validate_zero v2
    obtain ⟨N, rfl⟩ : ∃ N : Nat, n = N := ⟨n.toNat, by omega⟩
    have hm2 : m ≤ 24000 := by rw [← HA.out.len]; omega
    have HC := Lib.hid hc1; clear hc1
    have HL := Lib.hid hc2; clear hc2
    have Hpl := Lib.hid hpl; clear hpl
    have hp400 : p ≤ 400 := by rw [← Hpl.out]; exact hl1
    have hp0 : 0 < p := by rw [← Hpl.out]; exact hpos
    have Hfail := Lib.hid hfail; clear hfail hpos hl1
    generalize (S.check (N : Int) cs l).1 = r1 at Hcon
    clear he v1 v2 hb hlast e1 e2
    go_enter Try.func27, Try.ntmps27
    go_wp2_with fail
    refine Hcon.out.mono ?_
    rintro e w1 ⟨rfl, hb1⟩
    have Hb1 := Lib.hid hb1; clear hb1 Hcon
    have Hcp := Lib.hid (copy_any D p d l w1 (HD.out.below (monoSl (monoInt _)) Hb1.out) (by omega) (fun x hx => by have := Hl2.out x hx; omega))
    go_wp2_with fail
    refine Hcp.out.mono ?_
    rintro e w2 ⟨v2, us2, rfl, hown2, hel2, hb2, hv2⟩
    have Hel2 := Lib.hid (hel2 w2 (grownBy_refl _ _))
    have Hb2 := Lib.hid (Hb1.out.trans (hb2.mono Hb1.out.size)); clear hb2 hel2 hv2
    have hlp : l.length = p := Hpl.out
    rw [hlp] at hown2
    obtain ⟨A2, c2, rfl⟩ := hown2.form
    have Hown2 := Lib.hid hown2; clear hown2
    go_wp2
    go_loopg [10, 11] (p) (fun g v i wr => ∃ (K : Nat) (cur : List (List Int)) (vs : List Value), i = .int .i64 ((K : Int) - 1) ∧ g = K + 1 ∧ K + 1 ≤ cur.length ∧ cur.length ≤ p ∧ OwnAt wr 23 1 v cur.length vs ∧ Elems (SlR (IntR .i64)) wr vs cur ∧ Below w.heap.size w wr ∧ S.trimTo cs K cur = S.trim cs l ∧ (∀ x ∈ cur, x ∈ l))
    case atStart =>
      exact ⟨p - 1, l, _, by go_num, by omega, by omega, by omega, by rw [hlp]; exact Hown2.out, Hel2.out, Hb2.out, by rw [S.trim, hlp], fun x hx => hx⟩
    case round =>
      clear Hown2 Hel2 Hb2 Hb1 Hcp
      obtain ⟨K, cur, vs2, rfl, hgk, hK, hck, hown, hel, hbw, htrim, hsub⟩ := hrel
      have Hown := Lib.hid hown; clear hown
      have Hel := Lib.hid hel; clear hel
      have Htrim := Lib.hid htrim; clear htrim
      have Hsub := Lib.hid hsub; clear hsub
      cases K with
      | zero =>
        obtain ⟨A9, c9, h9⟩ := Hown.out.form
        subst h9
        have hfin : SlAt (SlR (IntR .i64)) wr A9 cur.length (S.trim cs l) := by
          have h1 : cur = S.trim cs l := by have := Htrim.out; exact this
          rw [← h1]
          exact Hown.out.slElems (monoSl (monoInt _)) (Below.refl _ _) Hel.out
        have Hfin := Lib.hid hfin; clear hfin
        go_wp2
        go_ret2
        exact ⟨A9, _, c9, rfl, Hfin.out, hbw⟩
      | succ q =>
        obtain ⟨g9, off9, cap9, A2', hv9, hncap, hcmx, hsA, hsB, hA2⟩ := Hown.out.parts (k := q) (by omega)
        subst hv9
        have e1 : (((q + 1 : Nat) : Int) - 1) = (q : Int) := by omega
        rw [e1]
        have hr1 := fun W => run_slice_to (P := Try.prog) Try.underlying22 Try.infoSl g9 off9 cur.length cap9 q (by omega) W
        have hr2 := fun W => run_slice_from' (P := Try.prog) Try.underlying22 Try.infoSl g9 off9 cur.length cap9 q (by omega) W
        rw [← hA2] at hr2
        have hs1 : ∀ W, (Instr.sliceAt 22 (.slice (some ⟨g9, off9, none⟩) cur.length cap9) none (some (.int .i64 (q : Int))) none).run Try.prog W = .ok (.slice (some ⟨g9, off9, none⟩) q cap9) W := fun W => by
          rw [run_sliceAt_slice _ _ _ _ _ _ Try.underlying22]; exact hr1 W
        have hs2 : ∀ W, (Instr.sliceAt 22 (.slice (some ⟨g9, off9, none⟩) cur.length cap9) (some (.int .i64 ((q : Int) + 1))) none none).run Try.prog W = .ok (.slice A2' (cur.length - (q + 1)) (cap9 - (q + 1))) W := fun W => by
          rw [run_sliceAt_slice _ _ _ _ _ _ Try.underlying22]; exact hr2 W
        have hwr : IntKind.i64.wrap ((q : Int) + 1) = (q : Int) + 1 := IntWalk.i64_in _ (by omega)
        have hslA : SlAt (SlR (IntR .i64)) wr.drew (some ⟨g9, off9, none⟩) q (cur.take q) := (Hown.out.slElems (monoSl (monoInt _)) (Below.refl _ _) Hel.out).take (by omega)
        have Hcopy := Lib.hid (copy_any (some ⟨g9, off9, none⟩) q cap9 (cur.take q) wr.drew hslA (by omega) (fun x hx => by have := Hl2.out x (Hsub.out x (List.mem_of_mem_take hx)); omega)); clear hslA
        have hone : ∀ u ∈ vs2.drop (q + 1), u.oneCell' = true := by
          intro u hu
          obtain ⟨j, hj, rfl⟩ := List.mem_iff_getElem.1 (List.mem_of_mem_drop hu)
          have hj2 : j < cur.length := by rw [← Hel.out.1]; exact hj
          exact oneCell_slR (Hel.out.2 j _ _ (List.getElem?_eq_getElem hj2) (List.getElem?_eq_getElem hj))
        have Hone := Lib.hid hone; clear hone
        have HsB := Lib.hid hsB; clear hsB hsA
        have HA2 := Lib.hid hA2; clear hA2
        have hdl : (vs2.drop (q + 1)).length = cur.length - (q + 1) := by rw [List.length_drop, Hel.out.1]
        have Hdl := Lib.hid hdl; clear hdl
        have htl : (cur.take q).length = q := by rw [List.length_take]; omega
        have Htl := Lib.hid htl; clear htl
        go_wp2_with fail
        go_region_law (first
          | ((refine step_append_src _ rfl (.tmp 37) (.tmp 41) 22 rfl 23 (.slice none 0 0) 1 24 Try.underlying22 Try.infoSl rfl (by omega) _ q _ rfl Hown3.out A2' (cur.length - (q + 1)) (cap9 - (q + 1)) (vs2.drop (q + 1)) rfl (by rw [Nat.mul_one]; exact Hdl.out) (fun j x hj => by
              obtain ⟨A', c', e', hc'⟩ := monoSrc _ _ _ _ Hb3.out HsB.out
              injection e' with e' _ _
              subst e'
              obtain ⟨b', off', e, hc⟩ := hc' j x hj
              exact ⟨_, e, by rw [addr_add_zero]; exact hc⟩) Hone.out (by omega) (by omega) ?_)
             intro v4 w4 hown4 hgr4 hat4)
          | (go_simp; go_at_call 51; refine Hcopy.out.mono ?_; rintro e w3 ⟨v3, us3, rfl, hown3, hel3, hb3, hv3⟩; rw [Htl.out] at hown3; obtain ⟨A3, c3, rfl⟩ := hown3.form; have Hown3 := Lib.hid hown3; have Hb3 := Lib.hid (show Below wr.heap.size wr w3 from ((Below.refl _ _).drew).trans hb3); have Hel3 := Lib.hid hel3; clear hown3 hel3))
        all_goals
          rw [show q + (cur.length - (q + 1)) = cur.length - 1 by omega] at hown4
          obtain ⟨A4, c4, rfl⟩ := hown4.form
          have hb14 : Below wr.heap.size wr w4 := Hb3.out.grown hgr4 Hb3.out.size hv3
          have hE4 : Elems (SlR (IntR .i64)) w4 (us3 ++ vs2.drop (q + 1)) (cur.eraseIdx q) := by
            rw [List.eraseIdx_eq_take_drop_succ]
            exact (Hel3.out w4 hgr4).join ((Hel.out.map_ fun u x hu => monoSl (monoInt _) _ _ _ _ hb14 hu).drop (q + 1))
          have hlenE : (cur.eraseIdx q).length = cur.length - 1 := by rw [List.length_eraseIdx]; simp [show q < cur.length by omega]
          have hsub4 : ∀ x ∈ cur.eraseIdx q, x ∈ l := fun x hx => Hsub.out x (List.mem_of_mem_eraseIdx hx)
          have hsl4 : SlAt (SlR (IntR .i64)) w4 A4 (cur.length - 1) (cur.eraseIdx q) := hown4.slElems (monoSl (monoInt _)) (Below.refl _ _) hE4
          have hbw4 := hbw.trans (hb14.mono hbw.size)
          have con := refCheck_any N A A4 m c (cur.length - 1) c4 cs (cur.eraseIdx q) w4 (HA.out.below (monoSl (monoInt _)) hbw4) hsl4 HC.out (by
              rw [List.all_eq_true]; exact fun x hx => List.all_eq_true.1 HL.out x (hsub4 x hx)) (by omega) (by omega) (by omega) (fun x hx => by have := Hl2.out x (hsub4 x hx); omega)
          have hiff := S.checkOf_true (cs := cs) (l := cur.eraseIdx q)
          have Hown4 := Lib.hid hown4; clear hown4 hsl4
          have HE4 := Lib.hid hE4; clear hE4
          have Hsub4 := Lib.hid hsub4; clear hsub4
          have HlenE := Lib.hid hlenE; clear hlenE
          have Hb14 := Lib.hid hb14; clear hb14
          have Hgk := Lib.hid hgk; clear hgk
          have Hiff := Lib.hid hiff; clear hiff
          clear hs1 hs2 hr1 hr2 hwr hv3 hgr4 hat4 hb3 Hcopy Hel3
          generalize S.checkOf cs (cur.eraseIdx q) = r at con Hiff
          obtain ⟨z1, z2⟩ := r
          have Hck := Lib.hid con; clear con
          cases z2
          · go_wp2_with fail
            refine Hck.out.mono ?_
            rintro e w6 ⟨rfl, hb6⟩
            have hb16 := Hb14.out.trans (hb6.mono Hb14.out.size)
            have Hown6 := Lib.hid (Hown.out.below hb16 Hown.out.lt)
            have Hel6 := Lib.hid (Hel.out.map_ fun u x hu => monoSl (monoInt _) _ _ _ _ hb16 hu)
            have hbw6 := hbw4.trans (hb6.mono hbw4.size)
            clear hb6 hb16
            go_wp2
            go_roundg (gk - 1)
            case measure => have := Hgk.out; omega
            case rel =>
              have := Hgk.out
              refine ⟨q, cur, _, by go_num, by omega, by omega, by omega, Hown6.out, Hel6.out, hbw6, ?_, Hsub.out⟩
              have h8 := Htrim.out
              rw [S.trimTo, if_neg (fun h => by have := Hiff.out.2 h; cases this)] at h8
              exact h8
          · go_wp2_with fail
            refine Hck.out.mono ?_
            rintro e w6 ⟨rfl, hb6⟩
            have Hown6 := Lib.hid (Hown4.out.below hb6 Hown4.out.lt)
            have Hel6 := Lib.hid (HE4.out.map_ fun u x hu => monoSl (monoInt _) _ _ _ _ hb6 hu)
            have hbw6 := hbw4.trans (hb6.mono hbw4.size)
            clear hb6
            go_wp2
            go_roundg (gk - 1)
            case measure => have := Hgk.out; omega
            case rel =>
              have := Hgk.out
              have h7 := HlenE.out
              refine ⟨q, cur.eraseIdx q, _, by go_num, by omega, by omega, by omega, by rw [h7]; exact Hown6.out, Hel6.out, hbw6, ?_, Hsub4.out⟩
              have h8 := Htrim.out
              rw [S.trimTo, if_pos (by have := Hiff.out; simpa using this)] at h8
              exact h8
  · have hb : ((S.check n cs l).2 != 0) = true := by simpa using he
    have e1 : S.trimOf n cs l = ([], (S.check n cs l).2) := by rw [S.trimOf, if_pos he]
    rw [e1]
    clear e1 he
    generalize S.check n cs l = r at Hcon hb
    obtain ⟨r1, r2⟩ := r
    go_enter Try.func27, Try.ntmps27
    go_wp2_with fail
    refine Hcon.out.mono ?_
    rintro e w1 ⟨rfl, hb1⟩
    go_wp2
    go_ret2
    exact ⟨_, _, _, rfl, SlAt.nil_ _, hb1⟩
end Go.Proofs.Ytceelipcclfdmaa
