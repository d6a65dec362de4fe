/- Walks of the program: what follows, what fails. -/
import Derived.Test.YtceelipcclfdmaaW24
namespace Go.Proofs.Ytceelipcclfdmaa
open Go.RowKit Go.Maps

theorem book_follows_any (w0 : World) (B0 Bk Mw : Nat) (cv : Value) (us : List Value) (cs : List (List Int)) (lw : List (Int × List Int)) (blk : Int → Option Nat) (N n : Nat) (A : Option Addr) (m d : Nat) (c : List Int) (w : World)
    (h : BkAt w w0 B0 Bk Mw cv us cs lw blk N) (hidx : Idx cs lw) (hb0 : Below w0.heap.size w0 w) (hA : SlAt (IntR .i64) w A m c) (hg : S.isClause n c = true) (hc : cs.all (S.isClause n) = true) (hn : n ≤ 4000) (hm : m ≤ 100000000) :
    Calls Try.prog 41 #[.pointer (some ⟨Bk, 0, none⟩), .slice A m d] w fun e w' => e = .returned (.bool (S.fol cs c)) ∧ Below w.heap.size w w' := by
  have Hcon1 := Lib.hid (negated_any n A m d c w hA hg hn hm)
  have H := Lib.hid h; clear h
  have HI := Lib.hid hidx; clear hidx
  have HB0 := Lib.hid hb0; clear hb0
  have HG := Lib.hid hg; clear hg
  have HC := Lib.hid hc; clear hc hA
  go_enter Try.func41, Try.ntmps41
  go_wp2_with fail
  refine Hcon1.out.mono ?_
  rintro e w1 ⟨A', d', rfl, hA', hb1⟩
  have Hcon2 := Lib.hid (propagate_any w0 B0 Bk Mw cv us cs lw blk N n A' m d' (S.negs c) w1 (H.out.below hb1) HI.out (HB0.out.trans (hb1.mono HB0.out.size)) hA' (S.isClause_negs HG.out) HC.out hn)
  clear hA'
  go_wp2_with fail
  refine Hcon2.out.mono ?_
  rintro e w2 ⟨hb2, ⟨rfl, hinc⟩ | ⟨T, M, l, qv, q, rfl, _, hinc, _⟩⟩
  · have hf := S.fol_iff.2 hinc
    have Hf := Lib.hid hf; clear hf hinc
    go_wp2
    go_ret
    exact ⟨ret_bool Hf.out.symm, hb1.trans (hb2.mono hb1.size)⟩
  · have hf : S.fol cs c = false := by
      cases hf : S.fol cs c
      · rfl
      · exact absurd (S.fol_iff.1 hf) hinc
    have Hf := Lib.hid hf; clear hf hinc
    go_wp2
    go_ret
    exact ⟨ret_bool Hf.out.symm, hb1.trans (hb2.mono hb1.size)⟩

theorem tot_append (a b : List (List Int)) : tot (a ++ b) = tot a + tot b := by unfold tot; rw [List.map_append, List.sum_append]

noncomputable def S.failInt (cs l : List (List Int)) : Int := match S.failure cs l with | none => -1 | some k => k

set_option maxHeartbeats 1000000 in
theorem failure_any (n : Nat) (A D : Option Addr) (m c p d : Nat) (cs l : List (List Int)) (w : World) (hA : SlAt (SlR (IntR .i64)) w A m cs) (hD : SlAt (SlR (IntR .i64)) w D p l) (hcs : cs.all (S.isClause n) = true) (hl : l.all (S.isClause n) = true) (hn : n ≤ 4000)
    (hm : m ≤ 40000) (hp : p ≤ 40000) (ht : tot cs ≤ 10000000) (htl : tot l ≤ 10000000) :
    Calls Try.prog 38 #[.slice A m c, .slice D p d] w fun e w' => e = .returned (.int .i64 (S.failInt cs l)) ∧ Below w.heap.size w w' := by
  have Hcon := Lib.hid (open_any n A m c cs w hA hcs hn ht (by omega))
  have hmc := hA.len
  have HD := Lib.hid hD; clear hD hA
  have HC := Lib.hid hcs; clear hcs
  have HL := Lib.hid hl; clear hl
  have Hmc := Lib.hid hmc; clear hmc
  have Ht := Lib.hid ht; clear ht
  have Htl := Lib.hid htl; clear htl
  go_enter Try.func38, Try.ntmps38
  go_wp2_with fail
  refine Hcon.out.mono ?_
  rintro e w1 ⟨Bk, Mw, cv, us, lw, blk, rfl, hbk, hidx, hbw⟩
  have Hbk0 := Lib.hid hbk; clear hbk
  have HI0 := Lib.hid hidx; clear hidx
  go_wp2
  go_loopg [12] (p + 1) (fun g i wr => ∃ (k : Nat) (cv : Value) (us : List Value) (lw : List (Int × List Int)) (blk : Int → Option Nat), k ≤ p ∧ i = .int .i64 (k : Int) ∧ g + k = p + 1 ∧ BkAt wr w w.heap.size Bk Mw cv us (cs ++ l.take k) lw blk (tot (cs ++ l.take k)) ∧ Idx (cs ++ l.take k) lw ∧ Below w.heap.size w wr ∧ S.bad cs l = (S.bad (cs ++ l.take k) (l.drop k)).map (· + k))
  case atStart => exact ⟨0, cv, us, lw, blk, Nat.zero_le _, rfl, rfl, by simpa using Hbk0.out, by simpa using HI0.out, hbw, by simp⟩
  case round =>
    clear Hbk0 HI0 hbw
    obtain ⟨k, cv, us, lw, blk, hk, rfl, hgk, hbk, hidx, hbw, hbad⟩ := hrel
    have Hgk := Lib.hid hgk; clear hgk
    have Hbk := Lib.hid hbk; clear hbk
    have HI := Lib.hid hidx; clear hidx
    have Hbad := Lib.hid hbad; clear hbad
    by_cases hlt : k < p
    · obtain ⟨x, b, off, u, hx, rfl, hlb, h10, A1, c1, rfl, s10⟩ := HD.out.at_ hlt
      have h1 := (hbw.cell (p := ⟨b, off + k, none⟩) hlb).trans h10
      have s1 := s10.below (monoInt _) hbw
      have hxm := List.mem_of_getElem? hx
      have hall : (cs ++ l.take k).all (S.isClause n) = true := by
        rw [List.all_append, HC.out, Bool.true_and, List.all_eq_true]
        intro y hy
        exact List.all_eq_true.1 HL.out y (List.mem_of_mem_take hy)
      have hxc := List.all_eq_true.1 HL.out x hxm
      have hxl := length_le_tot hxm
      have con := book_follows_any w w.heap.size Bk Mw cv us (cs ++ l.take k) lw blk (tot (cs ++ l.take k)) n A1 x.length c1 x wr Hbk.out HI.out hbw s1 hxc hall hn (by have := Htl.out; omega)
      have Hx := Lib.hid hx; clear hx
      have Hs10 := Lib.hid s10; clear s10 h10 s1
      cases hf : S.fol (cs ++ l.take k) x
      · rw [hf] at con
        have Hcon := Lib.hid con; clear con
        have Hf := Lib.hid hf; clear hf
        clear hall hxm hxl hxc
        go_wp2_with fail
        refine Hcon.out.mono ?_
        rintro e w' ⟨rfl, hb2⟩
        go_wp2
        go_ret
        refine ⟨ret_int ?_, hbw.trans (hb2.mono hbw.size)⟩
        rw [S.failInt, S.failure, S.bad_stop Hbad.out Hx.out Hf.out]
      · rw [hf] at con
        have Hcon := Lib.hid con; clear con
        have Hf := Lib.hid hf; clear hf
        have Hxc := Lib.hid hxc; clear hxc hall
        have Hxm := Lib.hid hxm; clear hxm hxl
        go_wp2_with fail
        refine Hcon.out.mono ?_
        rintro e w2 ⟨rfl, hb2⟩
        have hbw2 := hbw.trans (hb2.mono hbw.size)
        have hlk : (l.take k).length ≤ k := List.length_take_le k l
        have hcon3 := write_any w w.heap.size Bk Mw cv us (cs ++ l.take k) lw blk (tot (cs ++ l.take k)) n A1 x.length c1 x w2 (Hbk.out.below hb2) HI.out (Hs10.out.below (monoInt _) hbw2) Hs10.out (Nat.le_refl _) Hxc.out hn
          (by have h1 := tot_take_le l k; have h2 := length_le_tot Hxm.out; have := Ht.out; have := Htl.out; rw [tot_append]; omega) (by have := Hmc.out; rw [List.length_append]; omega)
        have Hcon3 := Lib.hid hcon3; clear hcon3 hlk h1
        go_wp2_with fail
        refine Hcon3.out.mono ?_
        rintro e w3 ⟨cv', lw', blk', rfl, hbk3, hidx3, hb3⟩
        have Hbk3 := Lib.hid hbk3; clear hbk3
        have HI3 := Lib.hid hidx3; clear hidx3
        go_wp2
        go_roundg (gk - 1)
        case measure => have := Hgk.out; omega
        case rel =>
          have := Hgk.out
          have e1 : cs ++ l.take (k + 1) = (cs ++ l.take k) ++ [x] := by rw [take_succ_of Hx.out, List.append_assoc]
          have e2 : tot (cs ++ l.take (k + 1)) = tot (cs ++ l.take k) + x.length := by rw [e1, tot_append]; simp [tot]
          refine ⟨k + 1, cv', us ++ [.slice A1 x.length c1], lw', blk', by omega, by go_num, by omega, by rw [e2, e1]; exact Hbk3.out, by rw [e1]; exact HI3.out, hbw2.trans hb3, S.bad_step Hbad.out Hx.out Hf.out⟩
    · obtain rfl : k = p := by omega
      have hnone := S.bad_end Hbad.out (by rw [HD.out.len]; omega)
      have hlen := HD.out.len
      have Hnone := Lib.hid hnone; clear hnone
      by_cases h0 : k = 0
      · subst h0
        have Hlen := Lib.hid hlen; clear hlen
        go_wp2
        go_ret
        refine ⟨ret_int ?_, hbw⟩
        obtain rfl := List.length_eq_zero_iff.1 Hlen.out
        rw [S.failInt, S.failure, Hnone.out]; rfl
      · obtain ⟨x, b, off, u, hx, rfl, hlb, h10, A1, c1, rfl, s10⟩ := HD.out.at_ (k := k - 1) (by omega)
        have h1 := (hbw.cell (p := ⟨b, off + (k - 1), none⟩) hlb).trans h10
        have hlast : l.getLast? = some x := by rw [List.getLast?_eq_getElem?, hlen]; exact hx
        obtain ⟨k', rfl⟩ : ∃ k', k = k' + 1 := ⟨k - 1, by omega⟩
        rw [Nat.add_sub_cancel] at h1
        clear s10 h10 hx
        by_cases hx0 : x.length = 0
        · obtain rfl := List.length_eq_zero_iff.1 hx0
          have Hlast := Lib.hid hlast; clear hlast hlen
          go_wp2
          go_ret
          refine ⟨ret_int ?_, hbw⟩
          rw [S.failInt, S.failure, Hnone.out]
          simp [Hlast.out]
        · have Hlast := Lib.hid hlast; clear hlast
          have Hlen := Lib.hid hlen; clear hlen
          go_wp2
          go_ret
          refine ⟨ret_int ?_, hbw⟩
          have hne : l.getLast? ≠ some [] := by rw [Hlast.out]; intro h; injection h with h; exact hx0 (by rw [h]; rfl)
          rw [S.failInt, S.failure, Hnone.out]
          simp [hne, Hlen.out]
end Go.Proofs.Ytceelipcclfdmaa
