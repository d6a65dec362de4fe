/- EgraphTurns: the law, walked. -/
import Derived.Test.YtcmlmjbpdaecbaaH46
import Derived.Test.YtcmlmjbpdaecbaaH47
set_option linter.unusedVariables false
set_option linter.unusedSimpArgs false
namespace Go.Proofs.Ytcmlmjbpdaecbaa
open Go.RowKit Go.MapKept Go.Maps Go.WideMaps
set_option linter.unusedVariables false
set_option linter.unusedSimpArgs false

theorem same_ok {p nm : List Nat} {x y : Int} (hx : E.nmOk nm x = true) (hy : E.nmOk nm y = true) : sameEnd p nm x y = .returned (.tuple #[.bool (decide (E.nr p nm x = E.nr p nm y)), .int .i64 0]) := by
  unfold sameEnd
  rw [if_pos (by rw [hx, hy]; rfl)]

set_option maxRecDepth 100000 in
set_option maxHeartbeats 8000000 in
theorem egraphTurns_any (ls : List (List T.Nd)) (D : List (Int × Int)) (m cm k ck : Nat) (A B : Option Addr) (W : World) (hA : SlAt NdsR W A m ls) (hB : StAt 2 PairR W B k D) :
    Calls Try.prog 3 #[.slice A m cm, .slice B k ck] W fun e W' => e = .returned (.bool true) ∧ Below W.heap.size W W' := by
  have Hkn := Lib.hid known_any
  have HA := Lib.hid hA
  have HB := Lib.hid hB
  have HlA := Lib.hid hA.len
  have HlB := Lib.hid hB.len
  have hle1 := hA.le
  have hle2 := hB.le
  have Hn1 := Lib.hid (gp_new W)
  clear hA hB
  by_cases hm : 12 < m
  · have q1 : (m : Int) > 12 := by omega
    go_enter Try.func3, Try.ntmps3
    go_wp2_with fail
    (with_reducible refine (Hkn.out W).mono ?_)
    rintro e w1 ⟨rfl, hb⟩
    have Hb := Lib.hid hb
    clear hb
    go_wp2
    go_ret
    exact ⟨rfl, Hb.out⟩
  have q1 : ¬ (m : Int) > 12 := by omega
  by_cases hk : 12 < k
  · have q2 : (k : Int) > 12 := by omega
    go_enter Try.func3, Try.ntmps3
    go_wp2_with fail
    (with_reducible refine (Hkn.out W).mono ?_)
    rintro e w1 ⟨rfl, hb⟩
    have Hb := Lib.hid hb
    clear hb
    go_wp2
    go_ret
    exact ⟨rfl, Hb.out⟩
  have q2 : ¬ (k : Int) > 12 := by omega
  go_enter Try.func3, Try.ntmps3
  go_wp2_with fail
  (with_reducible refine Hn1.out.mono ?_)
  rintro e w1 ⟨bg, M, rfl, hx⟩
  have Hn2 := Lib.hid hx.two
  clear hx Hn1
  go_wp2_with fail
  (with_reducible refine Hn2.out.mono ?_)
  rintro e w2 ⟨bh, rfl, hg⟩
  have Hg0 := Lib.hid hg
  clear hg Hn2
  go_wp2_with fail
  -- the terms, in order
  go_loopg [7] (m + 1) (fun gg s7 wr => ∃ (j : Nat) (sg : E.Gr) (og : List T.Nd) (fs : List T.F), j ≤ m ∧ s7 = .int .i64 (j : Int) ∧ gg + j = m + 1 ∧ Hid (GP W sg E.Gr.new bg bh wr) ∧ Hid (E.Fresh sg og fs sg.vr.get) ∧ Hid (E.Trees ls j fs) ∧ Hid (og.length ≤ 60))
  case atStart => exact ⟨0, E.Gr.new, [], [], Nat.zero_le _, rfl, rfl, Hg0, Lib.hid (E.fresh_new _), Lib.hid ⟨rfl, (fun k f h => by simp at h)⟩, Lib.hid (by simp)⟩
  case round =>
    obtain ⟨j, sg, og, fs, hj, rfl, hgk, Hg, Hf, Ht, H60⟩ := hrel
    have Hgk := Lib.hid hgk
    clear hgk Hg0
    by_cases hjm : j < m
    · obtain ⟨t, ba, offa, u, ht, rfl, hba, hca, hu⟩ := (HA.out.below monoNds Hg.out.bel).at_ hjm
      obtain ⟨At, ct, rfl, hst⟩ := hu
      have Hst := Lib.hid hst
      have Htl := Lib.hid ht
      have Hlong := Lib.hid (Long_any t t.length ct At wr hst)
      have Hadd := Lib.hid (Hg.out.addG (ct := ct) (by have := Hf.out.small; have := H60.out; omega) (by have := Hf.out.small; have := H60.out; omega) (by have := Hf.out.small; have := Ht.out.1; omega) hst)
      clear hst ht hba
      obtain ⟨lg, hlg⟩ : ∃ lg, T.long t = lg := ⟨_, rfl⟩
      rw [hlg] at Hlong
      clear hlg
      cases lg with
      | true =>
        go_wp2_with fail
        (with_reducible refine Hlong.out.mono ?_)
        rintro e w3 ⟨rfl, rfl⟩
        go_wp2_with fail
        (with_reducible refine (Hkn.out _).mono ?_)
        rintro e w4 ⟨rfl, hb⟩
        have Hb := Lib.hid (Hg.out.bel.trans (hb.mono Hg.out.bel.size))
        clear hb
        go_wp2
        go_ret
        exact ⟨rfl, Hb.out⟩
      | false =>
        go_wp2_with fail
        (with_reducible refine Hlong.out.mono ?_)
        rintro e w3 ⟨rfl, rfl⟩
        go_wp2_with fail
        (with_reducible refine Hadd.out.mono ?_)
        rintro e w4 ⟨s', no, er, rfl, hadd, hg4⟩
        have Hg4 := Lib.hid hg4
        have Had := Lib.hid hadd
        clear hg4 hadd Hadd Hlong hca
        by_cases he : er = 0
        · obtain ⟨og', fs', f1, f2, f3⟩ := Hf.out.told Ht.out Htl.out (nd_imm2 Hst.out) Had.out he
          have F1 := Lib.hid f1
          have F2 := Lib.hid f2
          have F3 := Lib.hid f3
          have q : (er != 0) = false := by simpa using he
          clear f1 f2 f3 he
          go_wp2_with fail
          go_roundg (gk - 1)
          case measure => have := Hgk.out; omega
          case rel =>
            have := Hgk.out
            exact ⟨j + 1, s', og', fs', by omega, by go_num, by omega, Hg4, F1, F2, F3⟩
        · have q : (er != 0) = true := by simpa using he
          clear he
          go_wp2_with fail
          (with_reducible refine (Hkn.out _).mono ?_)
          rintro e w5 ⟨rfl, hb⟩
          have Hb := Lib.hid (Hg4.out.bel.trans (hb.mono Hg4.out.bel.size))
          clear hb
          go_wp2
          go_ret
          exact ⟨rfl, Hb.out⟩
    · obtain rfl : j = m := by omega
      have hm12 : j ≤ 12 := by omega
      have e9 : IntKind.i64.wrap ((j : Int) - 1) = (j : Int) - 1 := IntWalk.i64_in _ (by omega)
      have Hh0 := Lib.hid (show E.Fresh E.Gr.new [] (fs.reverse.take 0) sg.vr.get from E.fresh_new _)
      clear Hgk
      go_wp2_with fail
      clear e9
      -- the terms, the other way round
      go_loopg [10] (j + 1) (fun gg s10 wr => ∃ (q : Nat) (z : Int) (sh : E.Gr) (oh : List T.Nd), q ≤ j ∧ s10 = .int .i64 z ∧ gg + q = j + 1 ∧ Hid (z = (j : Int) - 1 - (q : Int)) ∧ Hid (GP W sg sh bg bh wr) ∧ Hid (E.Fresh sh oh (fs.reverse.take q) sg.vr.get) ∧ Hid (oh.length ≤ 60))
      case atStart => exact ⟨0, _, E.Gr.new, [], Nat.zero_le _, rfl, rfl, Lib.hid (by omega), Hg, Hh0, Lib.hid (by simp)⟩
      case round =>
        obtain ⟨q, z, sh, oh, hq, rfl, hgk, Hz, Hg2, Hh, H6h⟩ := hrel
        have Hgk := Lib.hid hgk
        clear hgk Hh0 Hg
        by_cases hqj : q < j
        · obtain ⟨x, hx⟩ : ∃ x : Nat, z = x := ⟨z.toNat, by have := Hz.out; omega⟩
          subst hx
          have hxj : x < j := by have := Hz.out; omega
          have hxe : x = j - 1 - q := by have := Hz.out; omega
          obtain ⟨t, ba, offa, u, ht, rfl, hba, hca, hu⟩ := (HA.out.below monoNds Hg2.out.bel).at_ hxj
          obtain ⟨At, ct, rfl, hst⟩ := hu
          have Htl := Lib.hid (show ls[j - 1 - q]? = some t from hxe ▸ ht)
          have Hadd := Lib.hid (Hg2.out.addH (ct := ct) (by have := Hh.out.small; have := H6h.out; omega) (by have := Hh.out.small; have := H6h.out; omega) (by have := Hh.out.small; have h1 := List.length_take_le q fs.reverse; omega) hst)
          clear hst ht hba hxe
          go_wp2_with fail
          (with_reducible refine Hadd.out.mono ?_)
          rintro e w4 ⟨s', no, er, rfl, hadd, hg4⟩
          obtain ⟨rfl, oh', f1, f2⟩ := Hf.out.back Ht.out H60.out hqj Hh.out Htl.out hadd
          have Hg4 := Lib.hid hg4
          have F1 := Lib.hid f1
          have F2 := Lib.hid f2
          clear hg4 hadd Hadd hca f1 f2
          have e9 : IntKind.i64.wrap ((x : Int) - 1) = (x : Int) - 1 := IntWalk.i64_in _ (by omega)
          go_wp2_with fail
          go_roundg (gk - 1)
          case measure => have := Hgk.out; omega
          case rel =>
            have := Hgk.out
            have := Hz.out
            exact ⟨q + 1, _, s', oh', by omega, rfl, by omega, Lib.hid (by omega), Hg4, F1, F2⟩
        · obtain rfl : q = j := by omega
          obtain rfl : z = -1 := by have := Hz.out; omega
          have Hh2 := Lib.hid (show E.Fresh sh oh fs.reverse sg.vr.get from by
            have := Hh.out
            rw [List.take_of_length_le (by rw [List.length_reverse]; exact Nat.le_of_eq Ht.out.1)] at this
            exact this)
          clear Hh Hz Hgk
          have Hu0 := Lib.hid (show E.Uni sg og (D.take 0) sg.p sg.es from E.Uni.start Hf.out.fr)
          have Hv0 := Lib.hid (show E.Uni sh oh (E.backTo q D 0) sh.p sh.es from E.Uni.start Hh2.out.fr)
          have Hs1 := Lib.hid (show sg.es.length ≤ 60 ∧ sh.es.length ≤ 60 from by have := Hf.out.small; have := Hh2.out.small; have := H60.out; have := H6h.out; omega)
          go_wp2_with fail
          -- the pairs
          go_loopg [13] (k + 1) (fun gg s13 wr => ∃ (i : Nat) (pg : List Nat) (eg : List (E.Opn × Nat)) (ph : List Nat) (eh : List (E.Opn × Nat)), i ≤ k ∧ s13 = .int .i64 (i : Int) ∧ gg + i = k + 1 ∧ Hid (GP W { sg with p := pg, es := eg } { sh with p := ph, es := eh } bg bh wr) ∧ Hid (E.Uni sg og (D.take i) pg eg) ∧ Hid (E.Uni sh oh (E.backTo q D i) ph eh) ∧ Hid (eg.length ≤ 60 ∧ eh.length ≤ 60))
          case atStart => exact ⟨0, sg.p, sg.es, sh.p, sh.es, Nat.zero_le _, rfl, rfl, Hg2, Hu0, Hv0, Hs1⟩
          case round =>
            obtain ⟨i, pg, eg, ph, eh, hi, rfl, hgk, Hg3, Hu, Hv, Hs⟩ := hrel
            have Hgk := Lib.hid hgk
            clear hgk Hg2 Hu0 Hv0 Hs1
            by_cases hik : i < k
            · obtain ⟨⟨x, y⟩, ba, offa, us, hxy, hBa, hba, hul, hcs, hus⟩ := (HB.out.below monoPair Hg3.out.bel).at_ hik
              have hBa' := hBa
              subst hBa'
              unfold PairR at hus
              subst hus
              have c0 := hcs 0 _ rfl
              have c1 := hcs 1 _ rfl
              rw [Nat.add_zero] at c0
              have Htk := Lib.hid (show D.take (i + 1) = D.take i ++ [(x, y)] from by rw [List.take_add_one, hxy]; rfl)
              have Hpl := Lib.hid (show pg.length ≤ 60 ∧ ph.length ≤ 60 from by have := Hu.out.len; have := Hv.out.len; have := H60.out; have := H6h.out; omega)
              have Hun := Lib.hid ((Hg3.out.below (w' := wr.drew) ((Below.refl _ _).drew)).uniG (by have := Hpl.out; show pg.length ≤ _; omega) (by have := Hs.out; show eg.length ≤ _; omega) x y)
              clear hxy hBa hul hcs hba
              go_upto_region 23 with (fail)
              go_cut [13] (fun s13 wx => ∃ (pg1 : List Nat) (eg1 : List (E.Opn × Nat)), s13 = .int .i64 (i : Int) ∧ Hid (GP W { sg with p := pg1, es := eg1 } { sh with p := ph, es := eh } bg bh wx) ∧ Hid (E.Uni sg og (D.take (i + 1)) pg1 eg1) ∧ Hid (eg1.length ≤ 60))
              case first =>
                go_region_with ((go_at_call 9; (with_reducible refine Hun.out.mono ?_); rintro e w5 ⟨er, pg1, eg1, rfl, hu5, hg5, hl5, hle5⟩))
                all_goals
                  go_wp2_with fail
                  go_meet
                  exact ⟨pg1, eg1, rfl, Lib.hid hg5, Lib.hid (by rw [Htk.out]; exact Hu.out.step Hf.out.fr Hf.out.nmlt hu5), Lib.hid (by have := Hs.out.1; have h2 : eg1.length ≤ eg.length := hle5; omega)⟩
              case rest =>
              obtain ⟨pg1, eg1, rfl, Hg5, Hu5, Hs5⟩ := hcut
              obtain ⟨w5, hw5⟩ : ∃ w5, w5 = wc := ⟨_, rfl⟩
              rw [← hw5] at Hg5 ⊢
              clear hw5 Hun c0 c1 Hg3 Hu
              obtain ⟨r, hr⟩ : ∃ r, r = k - 1 - i := ⟨_, rfl⟩
              have hrk : r < k := by omega
              obtain ⟨⟨u, v⟩, bb, offb, us, huv, hBb, hbb, hul, hcs, hus⟩ := (HB.out.below monoPair Hg5.out.bel).at_ hrk
              cases hBb
              unfold PairR at hus
              subst hus
              have c0 := hcs 0 _ rfl
              have c1 := hcs 1 _ rfl
              rw [Nat.add_zero] at c0
              have Hrev := Lib.hid (show D.reverse[i]? = some (u, v) from by
                rw [List.getElem?_reverse (by rw [HlB.out]; exact hik), ← huv]
                congr 1
                rw [HlB.out, hr])
              have e1 : IntKind.i64.wrap ((k : Int) - 1) = (k : Int) - 1 := IntWalk.i64_in _ (by omega)
              have e2 : IntKind.i64.wrap ((k : Int) - 1 - (i : Int)) = (r : Int) := by rw [IntWalk.i64_in _ (by omega)]; omega
              have e3 : (k : Int) - 1 - (i : Int) = (r : Int) := by omega
              clear huv hul hcs hbb hr
              go_upto_region 25 with (fail)
              clear c0 c1 e1 e2 e3
              have Hg6 := Lib.hid (Hg5.out.below (w' := w5.alloc (.cells #[.int .i64 u, .int .i64 v] 33)) ((Below.refl _ _).alloc (Nat.le_refl _) _))
              by_cases h1 : u ≥ 0
              rotate_left
              · have Hno := Lib.hid (E.backTo_out (n := q) Hrev.out (fun h => by dsimp only at h; omega))
                go_wp2_with fail
                go_roundg (gk - 1)
                case measure => have := Hgk.out; omega
                case rel =>
                  have := Hgk.out
                  exact ⟨i + 1, pg1, eg1, ph, eh, by omega, by go_num, by omega, Hg6, Hu5, Lib.hid (by rw [Hno.out]; exact Hv.out), Lib.hid ⟨Hs5.out, Hs.out.2⟩⟩
              by_cases h2 : u < (q : Int)
              rotate_left
              · have Hno := Lib.hid (E.backTo_out (n := q) Hrev.out (fun h => by dsimp only at h; omega))
                go_wp2_with fail
                go_roundg (gk - 1)
                case measure => have := Hgk.out; omega
                case rel =>
                  have := Hgk.out
                  exact ⟨i + 1, pg1, eg1, ph, eh, by omega, by go_num, by omega, Hg6, Hu5, Lib.hid (by rw [Hno.out]; exact Hv.out), Lib.hid ⟨Hs5.out, Hs.out.2⟩⟩
              by_cases h3 : v ≥ 0
              rotate_left
              · have Hno := Lib.hid (E.backTo_out (n := q) Hrev.out (fun h => by dsimp only at h; omega))
                go_wp2_with fail
                go_roundg (gk - 1)
                case measure => have := Hgk.out; omega
                case rel =>
                  have := Hgk.out
                  exact ⟨i + 1, pg1, eg1, ph, eh, by omega, by go_num, by omega, Hg6, Hu5, Lib.hid (by rw [Hno.out]; exact Hv.out), Lib.hid ⟨Hs5.out, Hs.out.2⟩⟩
              by_cases h4 : v < (q : Int)
              rotate_left
              · have Hno := Lib.hid (E.backTo_out (n := q) Hrev.out (fun h => by dsimp only at h; omega))
                go_wp2_with fail
                go_roundg (gk - 1)
                case measure => have := Hgk.out; omega
                case rel =>
                  have := Hgk.out
                  exact ⟨i + 1, pg1, eg1, ph, eh, by omega, by go_num, by omega, Hg6, Hu5, Lib.hid (by rw [Hno.out]; exact Hv.out), Lib.hid ⟨Hs5.out, Hs.out.2⟩⟩
              have Hin := Lib.hid (E.backTo_in (n := q) Hrev.out ⟨⟨h1, h2⟩, h3, h4⟩)
              have e1 : IntKind.i64.wrap ((q : Int) - 1) = (q : Int) - 1 := IntWalk.i64_in _ (by omega)
              have e2 : IntKind.i64.wrap ((q : Int) - 1 - u) = (q : Int) - 1 - u := IntWalk.i64_in _ (by omega)
              have e3 : IntKind.i64.wrap ((q : Int) - 1 - v) = (q : Int) - 1 - v := IntWalk.i64_in _ (by omega)
              have Hun := Lib.hid (Hg6.out.uniH (by have := Hpl.out; show ph.length ≤ _; omega) (by have := Hs.out; show eh.length ≤ _; omega) ((q : Int) - 1 - u) ((q : Int) - 1 - v))
              go_wp2_with fail
              (with_reducible refine Hun.out.mono ?_)
              rintro e w7 ⟨er, ph1, eh1, rfl, hu7, hg7, hl7, hle7⟩
              have Hg7 := Lib.hid hg7
              have Hv7 := Lib.hid (show E.Uni sh oh (E.backTo q D (i + 1)) ph1 eh1 from by rw [Hin.out]; exact Hv.out.step Hh2.out.fr Hh2.out.nmlt hu7)
              have Hs7 := Lib.hid (show eg1.length ≤ 60 ∧ eh1.length ≤ 60 from ⟨Hs5.out, by have := Hs.out.2; have h2 : eh1.length ≤ eh.length := hle7; omega⟩)
              clear hu7 hg7 hl7 hle7 Hun e1 e2 e3
              go_wp2_with fail
              go_roundg (gk - 1)
              case measure => have := Hgk.out; omega
              case rel =>
                have := Hgk.out
                exact ⟨i + 1, pg1, eg1, ph1, eh1, by omega, by go_num, by omega, Hg7, Hu5, Hv7, Hs7⟩
            · obtain rfl : i = k := by omega
              have hD : D.take i = D := List.take_of_length_le (by rw [HlB.out]; exact Nat.le_refl _)
              have hbk : E.backTo q D i = E.back fs.length D := by rw [← HlB.out, Ht.out.1]; exact E.backTo_all q D
              rw [hD] at Hu
              rw [hbk] at Hv
              obtain ⟨tp1, tp2, tp3⟩ := E.turns_plain Hf.out Hh2.out Hu.out Hv.out
              have Hpl := Lib.hid (show pg.length ≤ 60 ∧ ph.length ≤ 60 from by have := Hu.out.len; have := Hv.out.len; have := H60.out; have := H6h.out; omega)
              have Hok := Lib.hid (show ∀ z : Int, 0 ≤ z → z < (q : Int) → E.nmOk sg.nm z = true ∧ E.nmOk sh.nm z = true from fun z h1 h2 => by
                have n1 := Hf.out.nm
                have n2 := Hh2.out.nm
                rw [List.length_reverse] at n2
                rw [Ht.out.1] at n1 n2
                simp only [E.nmOk, Bool.and_eq_true, decide_eq_true_eq, n1, n2]
                exact ⟨⟨h1, h2⟩, h1, h2⟩)
              rw [Ht.out.1] at tp1
              have Hsa := Lib.hid (show ∀ a b : Nat, a < q → b < q → ∃ β : Bool, sameEnd pg sg.nm (a : Int) (b : Int) = .returned (.tuple #[.bool β, .int .i64 0]) ∧ sameEnd ph sh.nm ((q : Int) - 1 - (a : Int)) ((q : Int) - 1 - (b : Int)) = .returned (.tuple #[.bool β, .int .i64 0]) from fun a b ha hb => by
                refine ⟨decide (E.nr pg sg.nm (a : Int) = E.nr pg sg.nm (b : Int)), same_ok (Hok.out _ (by omega) (by omega)).1 (Hok.out _ (by omega) (by omega)).1, ?_⟩
                rw [same_ok (Hok.out _ (by omega) (by omega)).2 (Hok.out _ (by omega) (by omega)).2, decide_eq_decide.2 (tp1 a b ha hb)])
              have Ht2 := Lib.hid tp2
              have Ht3 := Lib.hid tp3
              clear tp1 tp2 tp3 hD hbk Hu Hv Hf Hh2 Ht Hok Hgk H60 H6h Hs HA HB
              have hq12 : q ≤ 12 := by omega
              go_wp2_with fail
              -- all pairs of terms
              go_loopg [15] (q + 1) (fun gg s15 wr => ∃ (a : Nat), a ≤ q ∧ s15 = .int .i64 (a : Int) ∧ gg + a = q + 1 ∧ Hid (GP W { sg with p := pg, es := eg } { sh with p := ph, es := eh } bg bh wr))
              case atStart => exact ⟨0, Nat.zero_le _, rfl, rfl, Hg3⟩
              case round =>
                obtain ⟨a, ha, rfl, hgk, Hg4⟩ := hrel
                have Hgk := Lib.hid hgk
                clear hgk Hg3
                by_cases haq : a < q
                · obtain ⟨gO, hgO⟩ : ∃ g, g = gk := ⟨_, rfl⟩
                  rw [← hgO] at Hgk
                  go_wp2_with fail
                  go_loopg [16] (q + 1) (fun gg s16 wr => ∃ (b : Nat), b ≤ q ∧ s16 = .int .i64 (b : Int) ∧ gg + b = q + 1 ∧ Hid (GP W { sg with p := pg, es := eg } { sh with p := ph, es := eh } bg bh wr))
                  case atStart => exact ⟨0, Nat.zero_le _, rfl, rfl, Hg4⟩
                  case round =>
                    obtain ⟨b, hb, rfl, hgk2, Hg5⟩ := hrel
                    have Hgk2 := Lib.hid hgk2
                    clear hgk2 Hg4
                    by_cases hbq : b < q
                    · obtain ⟨β, r1, r2⟩ := Hsa.out a b haq hbq
                      have R1 := Lib.hid r1
                      have R2 := Lib.hid r2
                      clear r1 r2
                      have Hs1 := Lib.hid (Hg5.out.sameG (a : Int) (b : Int))
                      have e1 : IntKind.i64.wrap ((q : Int) - 1) = (q : Int) - 1 := IntWalk.i64_in _ (by omega)
                      have e2 : IntKind.i64.wrap ((q : Int) - 1 - (a : Int)) = (q : Int) - 1 - (a : Int) := IntWalk.i64_in _ (by omega)
                      have e3 : IntKind.i64.wrap ((q : Int) - 1 - (b : Int)) = (q : Int) - 1 - (b : Int) := IntWalk.i64_in _ (by omega)
                      go_wp2_with fail
                      (with_reducible refine Hs1.out.mono ?_)
                      rintro e w6 ⟨hg6, he6⟩
                      have he6' := he6.trans R1.out
                      subst he6'
                      have Hg6 := Lib.hid hg6
                      have Hs2 := Lib.hid (hg6.sameH ((q : Int) - 1 - (a : Int)) ((q : Int) - 1 - (b : Int)))
                      clear hg6 he6 Hs1
                      go_wp2_with fail
                      (with_reducible refine Hs2.out.mono ?_)
                      rintro e w7 ⟨hg7, he7⟩
                      have he7' := he7.trans R2.out
                      subst he7'
                      have Hg7 := Lib.hid hg7
                      clear hg7 he7 Hs2 e1 e2 e3
                      cases β
                      · go_wp2_with fail
                        go_roundg (gk - 1)
                        case measure => have := Hgk2.out; omega
                        case rel =>
                          have := Hgk2.out
                          exact ⟨b + 1, by omega, by go_num, by omega, Hg7⟩
                      · go_wp2_with fail
                        go_roundg (gk - 1)
                        case measure => have := Hgk2.out; omega
                        case rel =>
                          have := Hgk2.out
                          exact ⟨b + 1, by omega, by go_num, by omega, Hg7⟩
                    · obtain rfl : b = q := by omega
                      go_wp2_with fail
                      go_roundg (gO - 1)
                      case measure => have := Hgk.out; omega
                      case rel =>
                        have := Hgk.out
                        exact ⟨a + 1, by omega, by go_num, by omega, Hg5⟩
                · obtain rfl : a = q := by omega
                  have Hc1 := Lib.hid (Hg4.out.classesG (by have := Hpl.out; show pg.length ≤ _; omega))
                  go_wp2_with fail
                  (with_reducible refine Hc1.out.mono ?_)
                  rintro e w6 ⟨he6, hg6⟩
                  have he6' : e = .returned (.int .i64 (E.roots pg : Nat)) := he6
                  subst he6'
                  have Hg6 := Lib.hid hg6
                  have Hc2 := Lib.hid (hg6.classesH (by have := Hpl.out; show ph.length ≤ _; omega))
                  clear hg6 he6 Hc1
                  go_wp2_with fail
                  (with_reducible refine Hc2.out.mono ?_)
                  rintro e w7 ⟨he7, hg7⟩
                  have he7' : e = .returned (.int .i64 (E.roots pg : Nat)) := by rw [Ht2.out]; exact he7
                  subst he7'
                  have Hg7 := Lib.hid hg7
                  have Hn1 := Lib.hid (hg7.nodesG)
                  clear hg7 he7 Hc2
                  go_wp2_with fail
                  (with_reducible refine Hn1.out.mono ?_)
                  rintro e w8 ⟨he8, rfl⟩
                  have he8' : e = .returned (.int .i64 (eg.length : Nat)) := he8
                  subst he8'
                  have Hn2 := Lib.hid (Hg7.out.nodesH)
                  clear he8 Hn1
                  go_wp2_with fail
                  (with_reducible refine Hn2.out.mono ?_)
                  rintro e w9 ⟨he9, rfl⟩
                  have he9' : e = .returned (.int .i64 (eg.length : Nat)) := by rw [Ht3.out]; exact he9
                  subst he9'
                  clear he9 Hn2
                  go_wp2_with fail
                  (with_reducible refine (Hkn.out _).mono ?_)
                  rintro e w10 ⟨rfl, hb⟩
                  have Hb := Lib.hid (Hg7.out.bel.trans (hb.mono Hg7.out.bel.size))
                  clear hb
                  go_wp2
                  go_ret
                  exact ⟨rfl, Hb.out⟩
end Go.Proofs.Ytcmlmjbpdaecbaa
