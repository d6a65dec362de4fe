/- Walks of the program: Trim. -/
import Derived.Test.YtceelipcclfdmaaW41
namespace Go.Proofs.Ytceelipcclfdmaa
open Go.RowKit Go.Maps Go.Sort
set_option linter.unusedVariables false

set_option maxRecDepth 100000 in
set_option maxHeartbeats 8000000 in
theorem trimP_any (n : Int) (A D : Option Addr) (m c p d : Nat) (cs l : List (List Int)) (w : World) (hA : SlAt (SlR (IntR .i64)) w A m cs) (hD : SlAt (SlR (IntR .i64)) w D p l) (ht : tot cs ≤ 10000000) (hl1 : l.length ≤ 400) (hl2 : ∀ x ∈ l, x.length ≤ 100) :
    Calls Try.prog 26 #[.int .i64 n, .slice A m c, .slice D p d] w (SomeTabE w (S.trimOf n cs l)) := by
  have Hcon := Lib.hid (checkE_any n A D m c p d cs l w hA hD ht (by have := tot_small hl1 hl2; omega))
  have hpl := hD.len
  have HA := Lib.hid hA; clear hA
  have HD := Lib.hid hD; clear hD
  have Hl2 := Lib.hid hl2; clear hl2
  by_cases he : (S.check n cs l).2 = 0
  · obtain ⟨v1, v2, hb, hlast⟩ := S.check_zero' he
    have hfail : S.failure cs l = none := S.failure_none.2 ⟨hb, hlast⟩
    have hpos := S.proof_length hfail
    have e1 : S.trimOf n cs l = (S.trim cs l, 0) := by rw [S.trimOf, if_neg (by simp [he])]
    have e2 : S.check n cs l = (((S.check n cs l).1), 0) := by rw [← he]
    rw [e2] at Hcon
    rw [e1]
    obtain ⟨hn0, hn4, hm, hc1⟩ := validate_zero v1
    obtain ⟨_, _, _, hc2⟩ := validate_zero v2
    obtain ⟨N, rfl⟩ : ∃ N : Nat, n = N := ⟨n.toNat, by omega⟩
    have hm2 : m ≤ 24000 := by rw [← HA.out.len]; omega
    have HC := Lib.hid hc1; clear hc1
    have HL := Lib.hid hc2; clear hc2
    have Hpl := Lib.hid hpl; clear hpl
    have hp400 : p ≤ 400 := by rw [← Hpl.out]; exact hl1
    have hp0 : 0 < p := by rw [← Hpl.out]; exact hpos
    have Hfail := Lib.hid hfail; clear hfail hpos hl1
    generalize (S.check (N : Int) cs l).1 = r1 at Hcon
    clear he v1 v2 hb hlast e1 e2
    go_enter Try.func26, Try.ntmps26
    go_wp2_with fail
    refine Hcon.out.mono ?_
    rintro e w1 ⟨rfl, hb1⟩
    have Hb1 := Lib.hid hb1; clear hb1 Hcon
    go_wp2
    go_loopg [10, 27] (p + 1) (fun g v i wr => ∃ (k : Nat) (vs : List Value), k ≤ p ∧ i = .int .i64 (k : Int) ∧ g + k = p + 1 ∧ OwnAt wr 23 1 v k vs ∧ Elems RowOwn wr vs (l.take k) ∧ Below w.heap.size w wr ∧ (∀ g, v.ownBlock = some g → w.heap.size ≤ g))
    case atStart => exact ⟨0, [], Nat.zero_le _, rfl, rfl, OwnAt.nil_ _ _ _, ⟨by simp, fun k x u hx => by simp at hx⟩, Hb1.out, fun g hg => by simp [Value.ownBlock] at hg⟩
    case round =>
      clear Hb1
      obtain ⟨k, vs, hk, rfl, hgk, hown, hel, hbw, hob⟩ := hrel
      have Hgk := Lib.hid hgk; clear hgk
      have Hown := Lib.hid hown; clear hown
      have Hel := Lib.hid hel; clear hel
      have Hob := Lib.hid hob; clear hob
      by_cases hlt : k < p
      · obtain ⟨x, b, off, u, hx, rfl, _, h1, A1, c1, rfl, s1⟩ := (HD.out.below (monoSl (monoInt _)) hbw).at_ hlt
        have hxl := Hl2.out x (List.mem_of_getElem? hx)
        have Hx := Lib.hid hx; clear hx
        have Hcl := Lib.hid (clone_own A1 x.length c1 x wr s1 (by omega)); clear s1
        go_wp2_with fail
        refine Hcl.out.mono ?_
        rintro e w2 ⟨v2, rfl, hown2, hb2, hv2⟩
        obtain ⟨A3, c3, rfl⟩ := hown2.form
        have Hrow := Lib.hid (show RowOwn w2 (.slice A3 x.length c3) x from hown2); clear hown2
        have Hown2 := Lib.hid (Hown.out.below hb2 Hown.out.lt)
        have Hel2 := Lib.hid (show Elems RowOwn w2 vs (l.take k) from Hel.out.map_ fun u y hu => OwnAt.below hu hb2 (OwnAt.lt hu))
        have hbw2 := hbw.trans (hb2.mono hbw.size)
        clear hb2 hv2 h1 hxl
        go_wp2_with (at_builtin; refine wpList_append_one _ rfl (.tmp 31) (.tmp 34) 22 rfl 23 (.slice none 0 0) 24 Try.underlying22 Try.infoSl rfl _ k _ rfl Hown2.out (.slice A3 x.length c3) rfl 23 rfl (by omega) (by omega) ?_; intro v' w3 hown' hgr hat)
        have Hown' := Lib.hid hown'; clear hown'
        obtain ⟨hb3, hv3⟩ := below_append hbw2 hbw2.size Hob.out hgr hat
        have hstay : ∀ (u : Value) (y : List Int), RowOwn w2 u y → RowOwn w3 u y := fun u y hu => OwnAt.kept (OwnAt.alloc hu _) hgr (ownAt_ne hu Hown2.out (by decide))
        have Hel3 := Lib.hid (show Elems RowOwn w3 (vs ++ [.slice A3 x.length c3]) (l.take (k + 1)) from by rw [take_succ_of Hx.out]; exact (Hel2.out.map_ hstay).snoc (hstay _ _ Hrow.out))
        have Hv3 := Lib.hid hv3; clear hv3 hgr hat hstay
        go_wp2
        go_roundg (gk - 1)
        case measure => have := Hgk.out; omega
        case rel => have := Hgk.out; exact ⟨k + 1, _, by omega, by go_num, by omega, Hown'.out, Hel3.out, hb3, Hv3.out⟩
      · obtain rfl : k = p := by omega
        have hel := RowOwn.elems Hel.out
        rw [take_all Hpl.out (Nat.le_refl _)] at hel
        obtain ⟨wB, hwB⟩ : ∃ W, W = wr := ⟨_, rfl⟩
        rw [← hwB] at hel
        have HelB := Lib.hid hel; clear hel Hel Hgk
        have Hob2 := Hob
        have hbB : Below wB.heap.size wB wr := by rw [hwB]; exact Below.refl _ _
        have hbwB : Below w.heap.size w wB := by rw [hwB]; exact hbw
        have HbwB := Lib.hid hbwB; clear hbwB
        go_wp2
        go_loopg [10, 13] (k) (fun g v i wr => ∃ (K : Nat) (cur : List (List Int)) (vs : List Value), i = .int .i64 ((K : Int) - 1) ∧ g = K + 1 ∧ K + 1 ≤ cur.length ∧ cur.length ≤ k ∧ OwnAt wr 23 1 v cur.length vs ∧ Elems (SlR (IntR .i64)) wB vs cur ∧ Below wB.heap.size wB wr ∧ S.trimTo cs K cur = S.trim cs l ∧ (∀ x ∈ cur, x ∈ l))
        case atStart =>
          refine ⟨k - 1, l, _, by go_num, by omega, by rw [Hpl.out]; omega, by rw [Hpl.out]; exact Nat.le_refl _, by rw [Hpl.out]; exact Hown.out, HelB.out, hbB, by rw [S.trim, Hpl.out], fun x hx => hx⟩
        case round =>
          clear hbB hbw Hown Hob Hob2
          obtain ⟨K, cur, vs2, rfl, hgk, hK, hck, hown, hel, hbw, htrim, hsub⟩ := hrel
          have Hown := Lib.hid hown; clear hown
          have Hel := Lib.hid hel; clear hel
          have Htrim := Lib.hid htrim; clear htrim
          have Hsub := Lib.hid hsub; clear hsub
          cases K with
          | zero =>
            obtain ⟨A9, c9, h9⟩ := Hown.out.form
            subst h9
            have hfin : SlAt (SlR (IntR .i64)) wr A9 cur.length (S.trim cs l) := by
              have h1 : cur = S.trim cs l := by have := Htrim.out; exact this
              rw [← h1]
              exact Hown.out.slElems (monoSl (monoInt _)) hbw Hel.out
            have Hfin := Lib.hid hfin; clear hfin
            have hbw2 := HbwB.out.trans (hbw.mono HbwB.out.size)
            have Hbw2 := Lib.hid hbw2; clear hbw2 hbw
            go_wp2
            go_ret2
            exact ⟨A9, _, c9, rfl, Hfin.out, Hbw2.out⟩
          | succ q =>
            obtain ⟨g9, off9, cap9, A2, hv9, hncap, hcmx, hsA, hsB, hA2⟩ := Hown.out.parts (k := q) (by omega)
            subst hv9
            have e1 : (((q + 1 : Nat) : Int) - 1) = (q : Int) := by omega
            rw [e1]
            have hr1 := fun W => run_slice_to (P := Try.prog) Try.underlying22 Try.infoSl g9 off9 cur.length cap9 q (by omega) W
            have hr2 := fun W => run_slice_from' (P := Try.prog) Try.underlying22 Try.infoSl g9 off9 cur.length cap9 q (by omega) W
            rw [← hA2] at hr2
            have hs1 : ∀ W, (Instr.sliceAt 22 (.slice (some ⟨g9, off9, none⟩) cur.length cap9) none (some (.int .i64 (q : Int))) none).run Try.prog W = .ok (.slice (some ⟨g9, off9, none⟩) q cap9) W := fun W => by
              rw [run_sliceAt_slice _ _ _ _ _ _ Try.underlying22]; exact hr1 W
            have hs2 : ∀ W, (Instr.sliceAt 22 (.slice (some ⟨g9, off9, none⟩) cur.length cap9) (some (.int .i64 ((q : Int) + 1))) none none).run Try.prog W = .ok (.slice A2 (cur.length - (q + 1)) (cap9 - (q + 1))) W := fun W => by
              rw [run_sliceAt_slice _ _ _ _ _ _ Try.underlying22]; exact hr2 W
            have hflat : (vs2.take q ++ vs2.drop (q + 1)).length = cur.length - 1 := by
              have := Hown.out.1
              rw [List.length_append, List.length_take, List.length_drop]; omega
            have hup : Below wr.heap.size wr (wr.drew.alloc (.cells #[.slice (some ⟨g9, off9, none⟩) q cap9, .slice A2 (cur.length - (q + 1)) (cap9 - (q + 1))] 22)) := ((Below.refl _ _).drew).alloc (Nat.le_refl _) _
            have hB2 : SlAt SrcR (wr.drew.alloc (.cells #[.slice (some ⟨g9, off9, none⟩) q cap9, .slice A2 (cur.length - (q + 1)) (cap9 - (q + 1))] 22)) (some ⟨wr.heap.size, 0, none⟩) 2 [vs2.take q, vs2.drop (q + 1)] := by
              have own := OwnAt.of_new (s := 1) (e := 22) wr.drew #[.slice (some ⟨g9, off9, none⟩) q cap9, .slice A2 (cur.length - (q + 1)) (cap9 - (q + 1))] 2 rfl (by simp [maxLen])
              refine own.slAt rfl fun j x u hx hu => ?_
              match j, hx, hu with
              | 0, hx, hu => simp at hx hu; subst hx; subst hu; exact monoSrc _ _ _ _ hup hsA
              | 1, hx, hu => simp at hx hu; subst hx; subst hu; exact monoSrc _ _ _ _ hup hsB
              | j + 2, hx, hu => simp at hx
            have hone : ∀ us ∈ [vs2.take q, vs2.drop (q + 1)], ∀ u ∈ us, u.oneCell' = true := by
              have h1 : ∀ u ∈ vs2, u.oneCell' = true := by
                intro u hu
                obtain ⟨j, hj, rfl⟩ := List.mem_iff_getElem.1 hu
                have hj2 : j < cur.length := by rw [← Hel.out.1]; exact hj
                exact oneCell_slR (Hel.out.2 j _ _ (List.getElem?_eq_getElem hj2) (List.getElem?_eq_getElem hj))
              intro us hus u hu
              rcases List.mem_cons.1 hus with rfl | hus
              · exact h1 u (List.mem_of_mem_take hu)
              · rw [List.mem_singleton.1 hus] at hu
                exact h1 u (List.mem_of_mem_drop hu)
            have conc := concat_any (some ⟨wr.heap.size, 0, none⟩) 2 2 [vs2.take q, vs2.drop (q + 1)] _ hB2 hone (by simp only [List.flatten_cons, List.flatten_nil, List.append_nil]; omega)
            simp only [List.flatten_cons, List.flatten_nil, List.append_nil] at conc
            rw [hflat] at conc
            have Hconc := Lib.hid conc; clear conc hB2 hone hsA hsB hflat
            have Hup := Lib.hid hup; clear hup
            have HA2 := Lib.hid hA2; clear hA2
            have hq1 : (q : Int) + 1 ≤ 400 := by omega
            have hwr : IntKind.i64.wrap ((q : Int) + 1) = (q : Int) + 1 := IntWalk.i64_in _ (by omega)
            go_wp2_with fail
            go_region_with ((go_at_call 50; refine Hconc.out.mono ?_; rintro e w5 ⟨v5, rfl, hown5, hb5, hv5⟩))
            all_goals
              obtain ⟨A5, c5, rfl⟩ := hown5.form
              have hlenE : (cur.eraseIdx q).length = cur.length - 1 := by rw [List.length_eraseIdx]; simp [show q < cur.length by omega]
              have hb15 : Below wr.heap.size wr w5 := Hup.out.trans (hb5.mono Hup.out.size)
              have hbB5 : Below wB.heap.size wB w5 := hbw.trans (hb15.mono hbw.size)
              have hel5 := Hel.out.erase q
              have hsub5 : ∀ x ∈ cur.eraseIdx q, x ∈ l := fun x hx => Hsub.out x (List.mem_of_mem_eraseIdx hx)
              have hsl5 : SlAt (SlR (IntR .i64)) w5 A5 (cur.length - 1) (cur.eraseIdx q) := hown5.slElems (monoSl (monoInt _)) hbB5 hel5
              have confail := failure_any N A A5 m c (cur.length - 1) c5 cs (cur.eraseIdx q) w5 (HA.out.below (monoSl (monoInt _)) (HbwB.out.trans (hbB5.mono HbwB.out.size))) hsl5 HC.out (by
                  rw [List.all_eq_true]; exact fun x hx => List.all_eq_true.1 HL.out x (hsub5 x hx)) (by omega) (by omega) (by omega) ht (by
                  have := tot_small (cs := cur.eraseIdx q) (by omega) (fun x hx => Hl2.out x (hsub5 x hx)); omega)
              have Hown5 := Lib.hid hown5; clear hown5 hsl5
              have Hel5 := Lib.hid hel5; clear hel5
              have Hsub5 := Lib.hid hsub5; clear hsub5
              have Hb15 := Lib.hid hb15; clear hb15 hb5
              have HbB5 := Lib.hid hbB5; clear hbB5
              have HlenE := Lib.hid hlenE; clear hlenE
              have Hgk := Lib.hid hgk; clear hgk
              clear hs1 hs2 hr1 hr2 hwr hv5 Hconc
              unfold S.failInt at confail
              cases hf : S.failure cs (cur.eraseIdx q) with
              | none =>
                rw [hf] at confail
                have Hcf := Lib.hid confail; clear confail
                have Hf := Lib.hid hf; clear hf
                go_wp2_with fail
                refine Hcf.out.mono ?_
                rintro e w6 ⟨rfl, hb6⟩
                have Hown6 := Lib.hid (Hown5.out.below hb6 Hown5.out.lt)
                have Hb6 := Lib.hid (HbB5.out.trans (hb6.mono HbB5.out.size)); clear hb6
                go_wp2
                go_roundg (gk - 1)
                case measure => have := Hgk.out; omega
                case rel =>
                  have := Hgk.out
                  have h7 := HlenE.out
                  refine ⟨q, cur.eraseIdx q, _, by go_num, by omega, by omega, by omega, by rw [h7]; exact Hown6.out, Hel5.out, Hb6.out, ?_, Hsub5.out⟩
                  have h8 := Htrim.out
                  rw [S.trimTo, if_pos Hf.out] at h8
                  exact h8
              | some z =>
                rw [hf] at confail
                have Hcf := Lib.hid confail; clear confail
                have Hf := Lib.hid hf; clear hf
                have hz0 : (0 : Int) ≤ (z : Int) := by omega
                go_wp2_with fail
                refine Hcf.out.mono ?_
                rintro e w6 ⟨rfl, hb6⟩
                have hb16 := Hb15.out.trans (hb6.mono Hb15.out.size)
                have Hown6 := Lib.hid (Hown.out.below hb16 Hown.out.lt)
                have Hb6 := Lib.hid (HbB5.out.trans (hb6.mono HbB5.out.size)); clear hb6 hb16
                go_wp2
                go_roundg (gk - 1)
                case measure => have := Hgk.out; omega
                case rel =>
                  have := Hgk.out
                  refine ⟨q, cur, _, by go_num, by omega, by omega, by omega, Hown6.out, Hel.out, Hb6.out, ?_, Hsub.out⟩
                  have h8 := Htrim.out
                  rw [S.trimTo, if_neg (by rw [Hf.out]; simp)] at h8
                  exact h8
  · have hb : ((S.check n cs l).2 != 0) = true := by simpa using he
    have e1 : S.trimOf n cs l = ([], (S.check n cs l).2) := by rw [S.trimOf, if_pos he]
    rw [e1]
    clear e1 he
    generalize S.check n cs l = r at Hcon hb
    obtain ⟨r1, r2⟩ := r
    go_enter Try.func26, Try.ntmps26
    go_wp2_with fail
    refine Hcon.out.mono ?_
    rintro e w1 ⟨rfl, hb1⟩
    go_wp2
    go_ret2
    exact ⟨_, _, _, rfl, SlAt.nil_ _, hb1⟩
end Go.Proofs.Ytceelipcclfdmaa
