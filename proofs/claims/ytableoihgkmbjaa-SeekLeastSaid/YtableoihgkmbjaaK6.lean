/- Walks of the reference's layer of rows: the first row with a meaning. -/
import Derived.Test.YtableoihgkmbjaaK5
namespace Go.Proofs.Ytableoihgkmbjaa
open Go.RowKit
set_option linter.unusedVariables false

namespace K
/-- no row of a list has the meaning -/
def None_ (k w : Nat) (t : List Int) (l : List (List Stp)) : Prop := ∀ r ∈ l, meaning k w r ≠ t
theorem upTo_succ (k q : Nat) : upTo k (q + 1) = upTo k q ++ rows k q := by unfold upTo; rw [List.range_succ, List.flatMap_append]; simp
theorem upTo_pre (k q d : Nat) : ∃ l, upTo k (q + d) = upTo k q ++ l := by
  induction d with
  | zero => exact ⟨[], by simp⟩
  | succ d ih => obtain ⟨l, hl⟩ := ih; exact ⟨l ++ rows k (q + d), by rw [← Nat.add_assoc, upTo_succ, hl, List.append_assoc]⟩
theorem find_none {k w : Nat} {t : List Int} {l : List (List Stp)} (h : None_ k w t l) : (l.find? fun r => decide (meaning k w r = t)) = none := by
  rw [List.find?_eq_none]
  intro r hr
  simpa using h r hr
theorem first_none {k w : Nat} {t : List Int} {most : Nat} (h : None_ k w t (upTo k most)) : first k w t most = none := find_none h
theorem first_some {k w : Nat} {t : List Int} {most q i : Nat} {row : List Stp} (h : None_ k w t (upTo k q)) (h2 : None_ k w t ((rows k q).take i)) (hr : (rows k q)[i]? = some row) (hm : meaning k w row = t) (hq : q < most) : first k w t most = some row := by
  obtain ⟨l, hl⟩ := upTo_pre k (q + 1) (most - (q + 1))
  rw [show q + 1 + (most - (q + 1)) = most by omega] at hl
  unfold first
  have e : rows k q = (rows k q).take i ++ (row :: (rows k q).drop (i + 1)) := by
    have hi : i < (rows k q).length := (List.getElem?_eq_some_iff.1 hr).1
    have hd := List.drop_eq_getElem_cons hi
    rw [(List.getElem?_eq_some_iff.1 hr).2] at hd
    rw [← hd, List.take_append_drop]
  have e2 : (rows k q).find? (fun r => decide (meaning k w r = t)) = some row := by
    rw [e, List.find?_append, find_none h2, Option.none_or, List.find?_cons, decide_eq_true hm]
  rw [hl, upTo_succ, List.append_assoc, List.find?_append, find_none h, Option.none_or, List.find?_append, e2]
  rfl
theorem None_.take_succ {k w : Nat} {t : List Int} {l : List (List Stp)} {i : Nat} {row : List Stp} (h : None_ k w t (l.take i)) (hr : l[i]? = some row) (hm : meaning k w row ≠ t) : None_ k w t (l.take (i + 1)) := by
  intro r hr'
  rw [take_succ_at hr] at hr'
  rcases List.mem_append.1 hr' with h' | h'
  · exact h r h'
  · rw [List.mem_singleton.1 h']; exact hm
theorem None_.up {k w : Nat} {t : List Int} {q : Nat} (h : None_ k w t (upTo k q)) (h2 : None_ k w t (rows k q)) : None_ k w t (upTo k (q + 1)) := by
  intro r hr
  rw [upTo_succ] at hr
  rcases List.mem_append.1 hr with h' | h'
  · exact h r h'
  · exact h2 r h'
theorem over_iff {k w : Int} : over k w = true ↔ 1 ≤ k ∧ k ≤ 2 ∧ 1 ≤ w ∧ w ≤ 3 := by unfold over; simp [and_assoc]
end K

/-- a row, whether there is one, and an error -/
def Res3 (w : World) (r : List K.Stp × Bool × Int) (e : Ending) (w' : World) : Prop := ∃ A c, e = .returned (.tuple #[.slice A r.1.length c, .bool r.2.1, .int .i64 r.2.2]) ∧ StAt 3 StepR w' A r.1.length r.1 ∧ Below w.heap.size w w'

set_option maxRecDepth 100000 in
set_option maxHeartbeats 4000000 in
theorem rshortest_any (k w : Int) (A : Option Addr) (m c : Nat) (t : List Int) (W : World) (hA : SlAt (IntR .u32) W A m t) (h32 : K.W32 t) :
    Calls Try.prog 8 #[.int .i64 k, .int .i64 w, .slice A m c] W (Res3 W (K.shortest k w t)) := by
  have HO := Lib.hid (over_any k w W)
  cases hov : K.over k w
  · have hs : K.shortest k w t = ([], false, 1) := by unfold K.shortest; rw [if_pos hov]
    rw [hs]
    rw [hov] at HO
    clear hs hov hA h32
    go_enter Try.func8, Try.ntmps8
    go_wp2_with fail
    refine HO.out.mono ?_
    rintro e w' ⟨rfl, rfl⟩
    go_wp2
    go_ret3
    exact ⟨none, 0, rfl, StAt.nil_ _, Below.refl _ _⟩
  · have hkw := K.over_iff.1 hov
    obtain ⟨kN, rfl⟩ : ∃ kN : Nat, k = kN := ⟨k.toNat, by omega⟩
    obtain ⟨wN, rfl⟩ : ∃ wN : Nat, w = wN := ⟨w.toNat, by omega⟩
    have hk : kN = 1 ∨ kN = 2 := by omega
    have hw : wN = 1 ∨ wN = 2 ∨ wN = 3 := by omega
    have HT := Lib.hid (risTable_any kN wN hk hw A m c t W hA h32)
    rw [hov] at HO
    cases hti : K.isTable kN wN t
    · have hs : K.shortest kN wN t = ([], false, 1) := by unfold K.shortest; rw [if_neg (by rw [hov]; simp), if_pos (by simpa using hti)]
      rw [hs]
      rw [hti] at HT
      clear hs hov hA h32 hti hkw hk hw
      go_enter Try.func8, Try.ntmps8
      go_wp2_with fail
      refine HO.out.mono ?_
      rintro e w' ⟨rfl, rfl⟩
      go_wp2_with fail
      refine HT.out.mono ?_
      rintro e w' ⟨rfl, rfl⟩
      go_wp2
      go_ret3
      exact ⟨none, 0, rfl, StAt.nil_ _, Below.refl _ _⟩
    · have hs : K.shortest kN wN t = (match K.first kN wN t 3 with | some r => (r, true, 0) | none => ([], false, 0)) := by
        unfold K.shortest; rw [if_neg (by rw [hov]; simp), if_neg (by simpa using hti)]; rfl
      have hm : m = K.size kN wN := by
        have h1 := hti
        unfold K.isTable at h1
        simp only [Bool.and_eq_true, decide_eq_true_eq] at h1
        rw [← hA.len]; exact h1.1
      rw [hti] at HT
      have Hs := Lib.hid hs
      have HA := Lib.hid hA
      have HI := Lib.hid (rinputs_any kN wN hk hw W)
      have HR := Lib.hid (fun n (hn : n ≤ 2) W' => rrows_any kN n (by omega) hn W')
      have HH := Lib.hid (fun Ar m' cr row A2 c2 W' (h1 : StAt 3 StepR W' Ar m' row) (h2 : SlAt (SlR (IntR .u32)) W' A2 (K.size kN wN) (K.inputs kN wN)) (h3 : Below W.heap.size W W') (h4 : K.okRow kN row) (h5 : m' ≤ 100) => rhas_any kN wN hk hw Ar m' cr row A2 c2 A c t W' h1 h2 ((hm ▸ hA).below (monoInt _) h3) h4 h5)
      have Hov := Lib.hid hov
      clear hs hov hA h32 hti hkw hk hw
      subst hm
      have hk2 : kN ≤ 2 := by have := K.over_iff.1 Hov.out; omega
      have hsz64 := K.size_le (k := kN) (w := wN) hk2 (by have := K.over_iff.1 Hov.out; omega)
      obtain ⟨N, hN⟩ : ∃ N, N = K.size kN wN := ⟨_, rfl⟩
      simp only [← hN] at *
      clear hN
      go_enter Try.func8, Try.ntmps8
      go_wp2_with fail
      refine HO.out.mono ?_
      rintro e w' ⟨rfl, rfl⟩
      go_wp2_with fail
      refine HT.out.mono ?_
      rintro e w' ⟨rfl, rfl⟩
      go_wp2_with fail
      refine HI.out.mono ?_
      rintro e w1 ⟨A1, c1, rfl, hin, hb1⟩
      have Hin := Lib.hid hin; clear hin
      have Hb1 := Lib.hid hb1; clear hb1
      go_wp2
      go_loopg [11] (3 + 1) (fun g i wr => ∃ (q : Nat), q ≤ 3 ∧ i = .int .i64 (q : Int) ∧ g + q = 3 + 1 ∧ Below w1.heap.size w1 wr ∧ Hid (K.None_ kN wN t (K.upTo kN q)))
      case atStart => exact ⟨0, by omega, rfl, rfl, Below.refl _ _, fun r hr => by simp [K.upTo] at hr⟩
      case round =>
        obtain ⟨q, hq, rfl, hgk, hbw, HN⟩ := hrel
        have Hgk := Lib.hid hgk; clear hgk
        obtain ⟨gO, hgO⟩ : ∃ g, g = gk := ⟨_, rfl⟩
        subst hgO
        by_cases hlq : q < 3
        · have hcount := K.rows_count hk2 (show q ≤ 2 by omega)
          have Hrl := Lib.hid (fun r (h : r ∈ K.rows kN q) => K.rows_len h)
          obtain ⟨R, hR⟩ : ∃ R, R = (K.rows kN q).length := ⟨_, rfl⟩
          rw [← hR] at hcount
          have HRl := Lib.hid hR
          have HRq := Lib.hid (HR.out q (by omega) wr)
          rw [← hR] at HRq
          clear hR
          go_wp2_with fail
          refine HRq.out.mono ?_
          rintro e w2 ⟨A2, c2, rfl, hrows, hb2⟩
          have Hrows := Lib.hid hrows; clear hrows
          have Hb2 := Lib.hid (hbw.trans (hb2.mono hbw.size)); clear hb2 hbw
          go_wp2
          go_loopg [13] (R + 1) (fun g i wr => ∃ (j : Nat), j ≤ R ∧ i = .int .i64 (j : Int) ∧ g + j = R + 1 ∧ Below w2.heap.size w2 wr ∧ Hid (K.None_ kN wN t ((K.rows kN q).take j)))
          case atStart => exact ⟨0, Nat.zero_le _, rfl, rfl, Below.refl _ _, fun r hr => by simp at hr⟩
          case round =>
            obtain ⟨j, hj, rfl, hgk, hbw, HNj⟩ := hrel
            have Hgk2 := Lib.hid hgk; clear hgk
            by_cases hlt : j < R
            · obtain ⟨row, b, off, u, hrow, rfl, hbl, hc, Ar, cr, rfl, hst⟩ := Hrows.out.at_ hlt
              have hcw : wr.cell? ⟨b, off + j, none⟩ = _ := (hbw.cell (p := ⟨b, off + j, none⟩) hbl).trans hc
              have hmem := List.mem_of_getElem? hrow
              have hl2 := Hrl.out row hmem
              have hbW : Below W.heap.size W wr := Hb1.out.trans ((Hb2.out.trans (hbw.mono Hb2.out.size)).mono Hb1.out.size)
              have hb1r : Below w1.heap.size w1 wr := Hb2.out.trans (hbw.mono Hb2.out.size)
              have con := HH.out Ar row.length cr row A1 c1 wr (hst.below monoStep hbw) (Hin.out.below (monoSl (monoInt _)) hb1r) hbW (K.rows_ok hmem) (by omega)
              have Hrow := Lib.hid hrow; clear hrow hc hmem hl2
              by_cases hm : K.meaning kN wN row = t
              · rw [decide_eq_true hm] at con
                have Hcon := Lib.hid con
                have Hm := Lib.hid hm
                have Hst := Lib.hid hst
                clear con hm hst
                go_wp2_with fail
                (with_reducible refine Hcon.out.mono ?_)
                rintro e w3 ⟨rfl, hb3⟩
                have hcw3 : w3.cell? ⟨b, off + j, none⟩ = _ := (hb3.cell (p := ⟨b, off + j, none⟩) (World.block_lt_of_cell? _ _ hcw)).trans hcw
                have Hb3 := Lib.hid hb3
                have HbW := Lib.hid hbW
                have Hbw := Lib.hid hbw
                clear hb3 hcw hbW hb1r hbw
                go_wp2
                go_ret3
                have hf : K.shortest kN wN t = (row, true, 0) := by rw [Hs.out, K.first_some HN.out HNj.out Hrow.out Hm.out hlq]
                rw [hf]
                exact ⟨Ar, cr, rfl, (Hst.out.below monoStep Hbw.out).below monoStep Hb3.out, HbW.out.trans (Hb3.out.mono HbW.out.size)⟩
              · rw [decide_eq_false hm] at con
                have Hcon := Lib.hid con
                have Hm := Lib.hid hm
                clear con hm hst
                go_wp2_with fail
                (with_reducible refine Hcon.out.mono ?_)
                rintro e w3 ⟨rfl, hb3⟩
                have Hb3 := Lib.hid (hbw.trans (hb3.mono hbw.size))
                clear hb3 hcw hbW hb1r hbw
                go_wp2
                go_roundg (gk - 1)
                case measure => have := Hgk2.out; omega
                case rel => have := Hgk2.out; exact ⟨j + 1, by omega, by go_num, by omega, Hb3.out, HNj.out.take_succ Hrow.out Hm.out⟩
            · obtain rfl : j = R := by omega
              have hN2 := HNj.out
              rw [HRl.out, List.take_length] at hN2
              have HN2 := Lib.hid hN2; clear hN2
              have Hbw := Lib.hid hbw; clear hbw
              go_wp2
              go_roundg (gO - 1)
              case measure => have := Hgk.out; omega
              case rel => have := Hgk.out; exact ⟨q + 1, by omega, by go_num, by omega, Hb2.out.trans (Hbw.out.mono Hb2.out.size), HN.out.up HN2.out⟩
        · obtain rfl : q = 3 := by omega
          have Hbw := Lib.hid hbw; clear hbw
          go_wp2
          go_ret3
          have hf : K.shortest kN wN t = ([], false, 0) := by rw [Hs.out, K.first_none HN.out]
          rw [hf]
          exact ⟨none, 0, rfl, StAt.nil_ _, Hb1.out.trans (Hbw.out.mono Hb1.out.size)⟩
end Go.Proofs.Ytableoihgkmbjaa
