/- Part. -/
import Derived.Test.YtbiopedpceddeaaGreatDoorQz24
set_option linter.unusedVariables false
set_option linter.unusedSimpArgs false
set_option maxRecDepth 100000
set_option maxHeartbeats 16000000
namespace Go.Proofs.YtbiopedpceddeaaGreatDoor
section
open Go.RowKit Go.Maps Go.Lib
namespace KT
theorem badT_at {rs : List R.Rl} {j : Nat} {r : R.Rl} (h : ∀ q ∈ rs.take j, R.rvalid q = 0) (hr : rs[j]? = some r) (hv : R.rvalid r ≠ 0) : badT rs = R.rvalid r := by
 induction rs generalizing j with
 | nil => simp at hr
 | cons q rs ih =>
  cases j with
  | zero =>
   simp at hr
   subst hr
   rw [badT, if_pos hv]
  | succ j =>
   rw [badT, if_neg (by have := h q (by simp); omega)]
   exact ih (j := j) (fun p hp => h p (by rw [List.take_succ_cons]; exact List.mem_cons_of_mem _ hp)) (by simpa using hr)
theorem valid_next {rs : List R.Rl} {j : Nat} {r : R.Rl} (h : ∀ q ∈ rs.take j, R.rvalid q = 0) (hr : rs[j]? = some r) (hv : R.rvalid r = 0) : ∀ q ∈ rs.take (j + 1), R.rvalid q = 0 := fun q hq => by
 rw [List.take_add_one, hr, List.mem_append] at hq
 rcases hq with hq | hq
 · exact h q hq
 · simp at hq; subst hq; exact hv
theorem short_next {rs : List R.Rl} {j : Nat} {r : R.Rl} (h : ∀ q ∈ rs.take j, (textW q).length ≤ 200) (hr : rs[j]? = some r) (hv : ¬ 200 < (textW r).length) : ∀ q ∈ rs.take (j + 1), (textW q).length ≤ 200 := fun q hq => by
 rw [List.take_add_one, hr, List.mem_append] at hq
 rcases hq with hq | hq
 · exact h q hq
 · simp at hq; subst hq; omega
theorem apart_next {rs : List R.Rl} {j : Nat} {r : R.Rl} (h : (rs.take j).Pairwise fun q r => sm q r = false) (hr : rs[j]? = some r) (hv : hasT (rs.take j) r = false) : (rs.take (j + 1)).Pairwise fun q r => sm q r = false := by
 rw [List.take_add_one, hr, List.pairwise_append]
 refine ⟨h, by simp, fun q hq b hb => ?_⟩
 simp at hb
 subst hb
 unfold hasT at hv
 rw [List.any_eq_false] at hv
 simpa using hv q hq
theorem not_free {rs : List R.Rl} {j : Nat} {r : R.Rl} (hr : rs[j]? = some r) (hv : hasT (rs.take j) r = true) : freeT [] rs = false := by
 cases h : freeT [] rs with
 | false => rfl
 | true =>
  have h1 := (freeT_iff rs [] .nil).1 h
  rw [List.nil_append] at h1
  unfold hasT at hv
  rw [List.any_eq_true] at hv
  obtain ⟨q, hq, e⟩ := hv
  have hj := (List.getElem?_eq_some_iff.1 hr).1
  have e2 : rs = rs.take j ++ r :: rs.drop (j + 1) := by
   have := (List.getElem?_eq_some_iff.1 hr).2
   rw [← this, ← List.drop_eq_getElem_cons hj, List.take_append_drop]
  rw [e2] at h1
  have := (List.pairwise_append.1 h1).2.2 q hq r (by simp)
  rw [this] at e
  cases e
theorem writeT_bad {rs : List R.Rl} {z : Int} (h : badT rs = z) (hz : z ≠ 0) : writeT rs = ([], z) := by
 unfold writeT
 rw [h, if_pos hz]
theorem writeT_large {rs : List R.Rl} (h : ∀ q ∈ rs, R.rvalid q = 0) (hs : smallT rs = false) : writeT rs = ([], 3) := by
 unfold writeT
 rw [(badT_iff rs).2 h, if_neg (by decide), if_pos hs]
theorem writeT_met {rs : List R.Rl} (h : ∀ q ∈ rs, R.rvalid q = 0) (hs : smallT rs = true) (hf : freeT [] rs = false) : writeT rs = ([], 7) := by
 unfold writeT
 rw [(badT_iff rs).2 h, if_neg (by decide), hs, if_neg (by decide), if_pos hf]
theorem writeT_fine {rs : List R.Rl} (h : ∀ q ∈ rs, R.rvalid q = 0) (hs : smallT rs = true) (hf : rs.Pairwise fun q r => sm q r = false) : writeT rs = (storeT rs, 0) := by
 unfold writeT
 rw [(badT_iff rs).2 h, if_neg (by decide), hs, if_neg (by decide), (freeT_iff rs [] .nil).2 (by simpa using hf), if_neg (by decide)]
def WritePost (W : World) (rs : List R.Rl) (e : Ending) (w' : World) : Prop :=
 e = .returned (.tuple #[.string ⟨(writeT rs).1.toArray⟩, .int .i64 (writeT rs).2]) ∧ Below W.heap.size W w'
theorem writePost_of {W w' : World} {rs : List R.Rl} {t : List UInt8} {z : Int} (h : writeT rs = (t, z)) (hb : Below W.heap.size W w') : WritePost W rs (.returned (.tuple #[.string ⟨t.toArray⟩, .int .i64 z])) w' := ⟨by rw [h], hb⟩
theorem Write_any {rs : List R.Rl} {A : Option Addr} {n c : Nat} {W : World} (hS : StAt 3 RlR W A n rs) (hn : n ≤ 1000000) (hT : Tens W) :
 Calls Tryz.prog 31 #[.slice A n c] W (WritePost W rs) := by
 have HS := kH hS
 have HT := kH (fun X (h : Below W.heap.size W X) => hT.below h)
 have Hn := kH hS.len
 clear hS hT
 go_enter Tryz.func31, Tryz.ntmps31
 go_wp2_with fail
 go_loopg [15] (n + 1) (fun gg s15 wr => ∃ j : Nat, j ≤ n ∧ s15 = .int .i64 (j : Int) ∧ gg + j = n + 1 ∧ Hid (∀ q ∈ rs.take j, R.rvalid q = 0) ∧ Hid (Below W.heap.size W wr))
 case atStart => exact ⟨0, Nat.zero_le _, rfl, rfl, kH (fun q h => by simp at h), kH (Below.refl _ _)⟩
 case round =>
  obtain ⟨j, hj, rfl, hgk, Hv, Hb⟩ := hrel
  have Hgk := kH hgk
  clear hgk
  by_cases hjn : j < n
  · obtain ⟨r, b, off, nl, cl, nr, cr, np, cp, AL, AR, AP, hx, hA, hb, c0, c1, c2, hR⟩ := rl_at (HS.out.below monoRl Hb.out) hjn
    subst hA
    have Hx := kH hx
    obtain ⟨wa, hwa⟩ : ∃ wa, wa = wr.alloc (.cells #[.slice AL nl cl, .slice AR nr cr, .slice AP np cp] 33) := ⟨_, rfl⟩
    have hba : Below wr.heap.size wr wa := by rw [hwa]; exact al0
    have hrow : wa.heap[wr.heap.size]? = some (.cells #[.slice AL nl cl, .slice AR nr cr, .slice AP np cp] 33 (0, 0)) := by rw [hwa]; exact heap_alloc_new wr _
    have Hba := kH (Hb.out.trans (hba.mono Hb.out.size))
    have hRa := hR.below hba
    have HV := kH (gValidate_any r nl cl nr cr np cp AL AR AP wa hRa.sl hRa.sr hRa.sp hRa.fl hRa.fr)
    obtain ⟨z, hz⟩ : ∃ z, R.rvalid r = z := ⟨_, rfl⟩
    have Hz := kH hz
    rw [hz] at HV
    obtain ⟨r0, r1, r2, _⟩ := rl_cells hrow
    clear hx hb hR hba hrow hRa hz
    go_upto_region 4 with (fail)
    rw [← hwa]
    clear hwa c0 c1 c2
    go_wp2_with fail
    (with_reducible refine HV.out.mono ?_)
    rintro e w2 ⟨rfl, hb2⟩
    have Hb2 := kH (Hba.out.trans (hb2.mono Hba.out.size))
    clear hb2 HV r0 r1 r2
    by_cases hz0 : z = 0
    · subst hz0
      go_wp2_with fail
      go_roundg (gk - 1)
      case measure => have := Hgk.out; omega
      case rel =>
       have := Hgk.out
       exact ⟨j + 1, by omega, by go_num, by omega, kH (valid_next Hv.out Hx.out Hz.out), Hb2⟩
    · have q : (z != 0) = true := by simpa using hz0
      have Hw := kH (writeT_bad ((badT_at Hv.out Hx.out (by rw [Hz.out]; exact hz0)).trans Hz.out) hz0)
      clear hz0
      go_wp2_with fail
      go_ret2
      exact writePost_of Hw.out Hb2.out
  · obtain rfl : n = j := by omega
    have Hva := kH (show ∀ q ∈ rs, R.rvalid q = 0 from by
     have h := Hv.out
     rw [List.take_of_length_le (by rw [Hn.out]; exact Nat.le_refl _)] at h
     exact h)
    clear Hv Hgk
    by_cases hn40 : 40 < n
    · have Hw := kH (writeT_large Hva.out (by unfold smallT; rw [Hn.out, decide_eq_false (by omega), Bool.false_and]))
      go_wp2_with fail
      go_ret2
      exact writePost_of Hw.out Hb.out
    have Hn40 := kH hn40
    obtain ⟨w1, rfl⟩ : ∃ w, w = wr := ⟨_, rfl⟩
    go_wp2_with fail
    go_loopg [30] (n + 1) (fun gg s30 wr => ∃ j : Nat, j ≤ n ∧ s30 = .int .i64 (j : Int) ∧ gg + j = n + 1 ∧ Hid (∀ q ∈ rs.take j, (textW q).length ≤ 200) ∧ Hid (Below W.heap.size W wr))
    case atStart => exact ⟨0, Nat.zero_le _, rfl, rfl, kH (fun q h => by simp at h), Hb⟩
    case round =>
     obtain ⟨j, hj, rfl, hgk, Hs, Hb⟩ := hrel
     have Hgk := kH hgk
     clear hgk
     by_cases hjn : j < n
     · obtain ⟨r, b, off, nl, cl, nr, cr, np, cp, AL, AR, AP, hx, hA, hb, c0, c1, c2, hR⟩ := rl_at (HS.out.below monoRl Hb.out) hjn
       subst hA
       have Hx := kH hx
       obtain ⟨wa, hwa⟩ : ∃ wa, wa = wr.alloc (.cells #[.slice AL nl cl, .slice AR nr cr, .slice AP np cp] 33) := ⟨_, rfl⟩
       have hba : Below wr.heap.size wr wa := by rw [hwa]; exact al0
       have hrow : wa.heap[wr.heap.size]? = some (.cells #[.slice AL nl cl, .slice AR nr cr, .slice AP np cp] 33 (0, 0)) := by rw [hwa]; exact heap_alloc_new wr _
       have Hba := kH (Hb.out.trans (hba.mono Hb.out.size))
       have hwr := wrt_of_valid (us := [.slice AL nl cl, .slice AR nr cr, .slice AP np cp]) ⟨nl, cl, nr, cr, np, cp, AL, AR, AP, rfl, hR⟩ (Hva.out r (List.mem_of_getElem? hx))
       have h1 := hwr.nl
       have h2 := hwr.nr
       have h3 := hwr.np
       have HC := kH (written_any (cl := cl) (cr := cr) (cp := cp) (hR.below hba) (HT.out _ Hba.out) (by rw [← hR.sl.len]; exact h1) (by rw [← hR.sr.len]; exact h2) (by rw [← hR.sp.len]; exact h3) hwr.l hwr.q hwr.p)
       obtain ⟨t, ht⟩ : ∃ t, t = textW r := ⟨_, rfl⟩
       have Ht := kH ht
       rw [← ht] at HC
       obtain ⟨r0, r1, r2, _⟩ := rl_cells hrow
       clear hx hb hR hwr h1 h2 h3 ht hba hrow
       go_upto_region 13 with (fail)
       rw [← hwa]
       clear hwa c0 c1 c2
       go_wp2_with fail
       (with_reducible refine HC.out.mono ?_)
       rintro e w2 ⟨rfl, hb2⟩
       have Hb2 := kH (Hba.out.trans (hb2.mono Hba.out.size))
       clear hb2 HC r0 r1 r2
       by_cases hl : 200 < t.length
       · have Hw := kH (writeT_large Hva.out (by
          cases h : smallT rs with
          | false => rfl
          | true =>
           have := ((smallT_iff rs).1 h).2 r (List.mem_of_getElem? Hx.out)
           rw [← Ht.out] at this
           omega))
         go_wp2_with fail
         go_ret2
         exact writePost_of Hw.out Hb2.out
       · have Hl := kH hl
         go_wp2_with fail
         go_roundg (gk - 1)
         case measure => have := Hgk.out; omega
         case rel =>
          have := Hgk.out
          exact ⟨j + 1, by omega, by go_num, by omega, kH (short_next Hs.out Hx.out (by rw [← Ht.out]; exact Hl.out)), Hb2⟩
     · obtain rfl : n = j := by omega
       have Hsm := kH (show smallT rs = true from by
        rw [smallT_iff]
        refine ⟨by rw [Hn.out]; have := Hn40.out; omega, fun r hr => Hs.out r ?_⟩
        rw [List.take_of_length_le (by rw [Hn.out]; exact Nat.le_refl _)]
        exact hr)
       have HNs := kH (newStore_any (B := 0) (W := wr))
       clear Hs Hgk hj hjn
       go_wp2_with fail
       (refine HNs.out.mono ?_)
       rintro e w3 ⟨g, mb, rfl, hst, hb3, hg, hmb⟩
       have Hst := kH hst
       have Hb3 := kH (Hb.out.trans (hb3.mono Hb.out.size))
       have Hg := kH (show W.heap.size ≤ g ∧ W.heap.size ≤ mb from by have := Hb.out.size; exact ⟨by omega, by omega⟩)
       clear hst hb3 hg hmb HNs
       go_wp2_with fail
       go_loopg [42] (n + 1) (fun gg s42 wr => ∃ (j : Nat) (v : Value) (ks : List (List UInt8)), j ≤ n ∧ s42 = .int .i64 (j : Int) ∧ gg + j = n + 1 ∧ Hid (StoreAt 0 wr g v mb (rs.take j) ks) ∧ Hid (∀ b, v.ownBlock = some b → W.heap.size ≤ b) ∧ Hid ((rs.take j).Pairwise fun q r => sm q r = false) ∧ Hid (Below W.heap.size W wr))
       case atStart => exact ⟨0, _, _, Nat.zero_le _, rfl, rfl, Hst, kH (fun b e => by simp [Value.ownBlock] at e), kH .nil, Hb3⟩
       case round =>
        obtain ⟨j, v, ks, hj, rfl, hgk, Hst, Hvo, Hap, Hb⟩ := hrel
        have Hgk := kH hgk
        clear hgk
        by_cases hjn : j < n
        · obtain ⟨r, b, off, nl, cl, nr, cr, np, cp, AL, AR, AP, hx, hA, hb, c0, c1, c2, hR⟩ := rl_at (HS.out.below monoRl Hb.out) hjn
          subst hA
          have Hx := kH hx
          obtain ⟨wa, hwa⟩ : ∃ wa, wa = wr.alloc (.cells #[.slice AL nl cl, .slice AR nr cr, .slice AP np cp] 33) := ⟨_, rfl⟩
          have hba : Below wr.heap.size wr wa := by rw [hwa]; exact al0
          have hrow : wa.heap[wr.heap.size]? = some (.cells #[.slice AL nl cl, .slice AR nr cr, .slice AP np cp] 33 (0, 0)) := by rw [hwa]; exact heap_alloc_new wr _
          have Hba := kH (Hb.out.trans (hba.mono Hb.out.size))
          have Hsta := kH (Hst.out.below hba)
          have hNB : ∀ i, Nst g mb v i → W.heap.size ≤ i := fun i h => by
           rcases h with e | e | e
           · rw [e]; exact Hg.out.1
           · rw [e]; exact Hg.out.2
           · exact Hvo.out i e
          have HNB := kH hNB
          obtain ⟨r', b', off', nl', cl', nr', cr', np', cp', AL', AR', AP', hx', hA', _, k0, k1, k2, hR0⟩ := rl_at HS.out hjn
          cases hA'
          rw [hx] at hx'
          cases hx'
          have hb0 : b < W.heap.size := cell_below k0
          have c0' := (Hb.out.cell (p := ⟨b, off + j * 3, none⟩) hb0).trans k0
          have c1' := (Hb.out.cell (p := ⟨b, off + j * 3 + 1, none⟩) hb0).trans k1
          have c2' := (Hb.out.cell (p := ⟨b, off + j * 3 + 2, none⟩) hb0).trans k2
          rw [c0] at c0'
          rw [c1] at c1'
          rw [c2] at c2'
          cases c0'
          cases c1'
          cases c2'
          have HA := kH (add_any (cl := cl) (cr := cr) (cp := cp) Hsta.out (fun w' hk => hR0.below (Hba.out.trans (hk.below Hba.out.size (fun i h => by rcases h with h | h; exact absurd h (Nat.not_lt_zero _); exact hNB i h)))) (Hva.out r (List.mem_of_getElem? hx)) (fun w' hk => HT.out w' (Hba.out.trans (hk.below Hba.out.size hNB))) (by rw [List.length_take, Hn.out]; have := Hn40.out; omega))
          obtain ⟨r0, r1, r2, _⟩ := rl_cells hrow
          obtain ⟨z, hz⟩ : ∃ z, addC (rs.take j) r = z := ⟨_, rfl⟩
          have Hz := kH hz
          have Hzc := kH (show z = if hasT (rs.take j) r = true then 7 else 0 from by
           rw [← hz]
           unfold addC
           split
           · rfl
           · rw [if_neg]
             have h1 := Hn40.out
             have h2 := ((smallT_iff rs).1 Hsm.out).2 r (List.mem_of_getElem? hx)
             rw [List.length_take, Hn.out]
             omega)
          unfold AddPost at HA
          rw [hz] at HA
          clear hx hb hR hba hrow hNB k0 k1 k2 hR0 hz hb0
          go_upto_region 20 with (fail)
          rw [← hwa]
          clear hwa c0 c1 c2
          go_wp2_with fail
          (refine HA.out.mono ?_)
          rintro e w4 ⟨v', ks', rfl, hst4, hk4, hv4⟩
          have Hb4 := kH (Hba.out.trans (hk4.below Hba.out.size HNB.out))
          have Hst4 := kH hst4
          have Hvo4 := kH (show ∀ b, v'.ownBlock = some b → W.heap.size ≤ b from fun b e => by
           rcases hv4 b e with h | h
           · exact Hvo.out b h
           · exact Nat.le_trans Hba.out.size h)
          clear hst4 hk4 hv4 HA r0 r1 r2
          by_cases hz0 : z = 0
          · subst hz0
            have Hno := kH (show hasT (rs.take j) r = false from by
             have h := Hzc.out
             cases e : hasT (rs.take j) r with
             | false => rfl
             | true => rw [e, if_pos rfl] at h; cases h)
            go_wp2_with fail
            go_roundg (gk - 1)
            case measure => have := Hgk.out; omega
            case rel =>
             have := Hgk.out
             refine ⟨j + 1, v', ks', by omega, by go_num, by omega, kH ?_, Hvo4, kH (apart_next Hap.out Hx.out Hno.out), Hb4⟩
             have h := Hst4.out
             unfold addR at h
             rw [Hz.out, if_pos rfl] at h
             rw [List.take_add_one, Hx.out]
             exact h
          · have h7 : hasT (rs.take j) r = true ∧ z = 7 := by
             have h := Hzc.out
             cases e : hasT (rs.take j) r with
             | false => rw [e, if_neg (by decide)] at h; exact absurd h hz0
             | true => rw [e, if_pos rfl] at h; exact ⟨rfl, h⟩
            obtain ⟨h7, rfl⟩ := h7
            have Hw := kH (writeT_met Hva.out Hsm.out (not_free Hx.out h7))
            clear h7 hz0
            go_wp2_with fail
            go_ret2
            exact writePost_of Hw.out Hb4.out
        · obtain rfl : n = j := by omega
          have e : rs.take n = rs := List.take_of_length_le (by rw [Hn.out]; exact Nat.le_refl _)
          have hst := Hst.out
          have hap := Hap.out
          rw [e] at hst hap
          have Hw := kH (writeT_fine Hva.out Hsm.out hap)
          obtain ⟨Av, cv, hv⟩ := hst.own.form
          subst hv
          have HX := kH (text_any hst.row (hst.own.stAt rfl) hst.wrt ((smallT_iff rs).1 Hsm.out).2 (by rw [Hn.out]; exact hn) (HT.out _ Hb.out))
          clear hst hap e Hst Hap
          go_wp2_with fail
          (with_reducible refine HX.out.mono ?_)
          rintro e w5 ⟨rfl, hb5⟩
          have Hb5 := kH (Hb.out.trans (hb5.mono Hb.out.size))
          clear hb5 HX
          go_wp2_with fail
          go_ret2
          exact writePost_of Hw.out Hb5.out
end KT
end
section
open Go.RowKit Go.Maps Go.Lib
namespace KT
theorem stop_line {n : Int} {l : List R.Rl} {x : List UInt8} (h : lineOf x = none) : Reads sm n l x l x := .stop fun _ _ _ _ e => by rw [h] at e; cases e
theorem stop_ok {n : Int} {l : List R.Rl} {x told t b : List UInt8} (h : lineOf x = some (told, t, b)) (hn : ∀ r, ¬ lineOk sm n l told t r) : Reads sm n l x l x := .stop fun _ _ _ r e => by
 rw [h] at e
 injection e with e
 injection e with e1 e2
 injection e2 with e2 e3
 subst e1 e2 e3
 exact hn r
theorem lineOf_cut {x : List UInt8} : lineOf x = if (cut x [10]).2.2 = true ∧ (cut (cut x [10]).1 [32]).2.2 = true then some ((cut (cut x [10]).1 [32]).1, (cut (cut x [10]).1 [32]).2.1, (cut x [10]).2.1) else none := rfl
theorem cut_len (c : UInt8) (x : List UInt8) : (cut x [c]).1.length ≤ x.length ∧ (cut x [c]).2.1.length ≤ x.length := by
 rcases cut_cases c x with ⟨_, e⟩ | ⟨y, A, e1, _, e⟩
 · rw [e]; simp
 · rw [e, e1]; simp; omega
def ReadP (W : World) (rs : List R.Rl) (z : List UInt8) (e : Ending) (w' : World) : Prop :=
 ∃ (g mb : Nat) (v : Value) (ks : List (List UInt8)), e = .returned (.tuple #[.pointer (some ⟨g, 0, none⟩), .string ⟨z.toArray⟩]) ∧ StoreAt W.heap.size w' g v mb rs ks ∧ Below W.heap.size W w' ∧ ∀ i, Nst g mb v i → W.heap.size ≤ i
theorem read_any {s : List UInt8} {rs : List R.Rl} {z : List UInt8} (hs : s.length ≤ 700000) (hr : Reads sm 0 [] s rs z) {W : World} (hL : Lb W) :
 Calls Tryz.prog 85 #[.string ⟨s.toArray⟩] W (ReadP W rs z) := by
 have HL := kH (fun X (h : Below W.heap.size W X) => hL.below h)
 have Hr := kH hr
 have HNs := kH (newStore_any (B := W.heap.size) (W := W))
 clear hL hr
 go_enter Tryz.func85, Tryz.ntmps85
 go_wp2_with fail
 (refine HNs.out.mono ?_)
 rintro e w3 ⟨g, mb, rfl, hst, hb3, hg, hmb⟩
 have Hst := kH hst
 have Hb3 := kH hb3
 have Hg := kH (And.intro hg hmb)
 clear hst hb3 hg hmb HNs
 go_wp2_with fail
 go_loopg [0, 5] (s.length + 1) (fun gg s0 s5 wr => ∃ (x : List UInt8) (m : Int) (l : List R.Rl) (v : Value) (ks : List (List UInt8)), s0 = .string ⟨x.toArray⟩ ∧ s5 = .int .i64 m ∧ x.length + 1 ≤ gg ∧ x.length ≤ s.length ∧ 0 ≤ m ∧ m < 1000003 ∧ Hid (∀ m' z', Reads sm m l x m' z' → Reads sm 0 [] s m' z') ∧ Hid (StoreAt W.heap.size wr g v mb l ks) ∧ Hid (∀ b, v.ownBlock = some b → W.heap.size ≤ b) ∧ l.length ≤ 40 ∧ Hid (Below W.heap.size W wr))
 case atStart => exact ⟨s, 0, [], _, _, rfl, rfl, Nat.le_refl _, Nat.le_refl _, by omega, by omega, kH (fun _ _ h => h), Hst, kH (fun b e => by simp [Value.ownBlock] at e), by simp, Hb3⟩
 case round =>
  obtain ⟨x, m, l, v, ks, rfl, rfl, hgk, hxl, hm0, hm1, Hrd, Hst, Hvo, hll, Hb⟩ := hrel
  have Hgk := kH hgk
  clear hgk
  have HEnd := kH (show ∀ wz, StoreAt W.heap.size wz g v mb l ks → Below W.heap.size W wz → Reads sm m l x l x → ReadP W rs z (.returned (.tuple #[.pointer (some ⟨g, 0, none⟩), .string ⟨x.toArray⟩])) wz from fun wz h1 h2 h3 => by
   obtain ⟨e1, e2⟩ := (Hrd.out l x h3).det Hr.out
   subst e1 e2
   refine ⟨g, mb, v, ks, rfl, h1, h2, fun i hi => ?_⟩
   rcases hi with e | e | e
   · rw [e]; exact Hg.out.1
   · rw [e]; exact Hg.out.2
   · exact Hvo.out i e)
  have HC := kH (Cut_any (s := x) (c := 10) (by omega) (HL.out _ Hb.out).mlen)
  obtain ⟨hla, hlb⟩ := cut_len 10 x
  obtain ⟨hlc, hld⟩ := cut_len 32 (cut x [10]).1
  have hlo := lineOf_cut (x := x)
  obtain ⟨a, ha⟩ : ∃ a, a = (cut x [10]).1 := ⟨_, rfl⟩
  obtain ⟨b, hb⟩ : ∃ a, a = (cut x [10]).2.1 := ⟨_, rfl⟩
  obtain ⟨en, hen⟩ : ∃ a, a = (cut x [10]).2.2 := ⟨_, rfl⟩
  rw [← ha] at hla hlc hld hlo HC
  rw [← hb] at hlb hlo HC
  rw [← hen] at hlo HC
  obtain ⟨told, htold⟩ : ∃ q, q = (cut a [32]).1 := ⟨_, rfl⟩
  obtain ⟨t, ht⟩ : ∃ q, q = (cut a [32]).2.1 := ⟨_, rfl⟩
  obtain ⟨ok, hok⟩ : ∃ q, q = (cut a [32]).2.2 := ⟨_, rfl⟩
  have Hb0 := kH Hb.out.size
  have HD := kH (fun X (h : Below W.heap.size W X) => Cut_any (s := a) (c := 32) (by omega) (HL.out _ h).mlen)
  rw [← htold] at hlc hlo HD
  rw [← ht] at hld hlo HD
  rw [← hok] at hlo HD
  have Hlo := kH hlo
  clear ha hb hen htold ht hok hlo
  go_wp2_with fail
  (with_reducible refine HC.out.mono ?_)
  rintro e w2 ⟨rfl, hdr⟩
  have hbd := hdr.below wr.heap.size
  have Hst2 := kH (Hst.out.below hbd)
  have Hb2 := kH (Hb.out.trans (hbd.mono Hb0.out))
  clear hdr hbd HC
  go_wp2_with fail
  (with_reducible refine (HD.out _ Hb2.out).mono ?_)
  rintro e w4 ⟨rfl, hdr⟩
  have hbd := hdr.below w2.heap.size
  have Hst4 := kH (Hst2.out.below hbd)
  have Hb4 := kH (Hb2.out.trans (hbd.mono Hb2.out.size))
  clear hdr hbd HD
  cases en with
  | false =>
   have He := kH (HEnd.out w4 Hst4.out Hb4.out (stop_line (by rw [Hlo.out, if_neg (fun h => by cases h.1)])))
   go_wp2_with fail
   go_ret2
   exact He.out
  | true =>
   cases ok with
   | false =>
    have He := kH (HEnd.out w4 Hst4.out Hb4.out (stop_line (by rw [Hlo.out, if_neg (fun h => by cases h.2)])))
    go_wp2_with fail
    go_ret2
    exact He.out
   | true =>
    have Hline := kH (show lineOf x = some (told, t, b) from by rw [Hlo.out, if_pos ⟨rfl, rfl⟩])
    have Hbl := kH (lineOf_len Hline.out)
    obtain ⟨m', hm'⟩ : ∃ m', m' = sumT m t := ⟨_, rfl⟩
    have Hm' := kH hm'
    have Hmr' := kH (show 0 ≤ m' ∧ m' < 1000003 from by rw [hm']; exact sumT_range _ _)
    have HSm := kH (fun X => Sum_any (n := m) ⟨by omega, by omega⟩ (t := t) (by omega) (W := X))
    rw [← hm'] at HSm
    obtain ⟨i, hi⟩ : ∃ i, i = itoa m' := ⟨_, rfl⟩
    have HI := kH (fun X (h : Below W.heap.size W X) => kItoa_any (n := m') ⟨by have := Hmr'.out; omega, by have := Hmr'.out; omega⟩ (HL.out X h).tens)
    rw [← hi] at HI
    have Hi := kH hi
    have htl : t.length ≤ 800000 := by omega
    clear hm' hi Hlo
    go_wp2_with fail
    (with_reducible refine (HSm.out _).mono ?_)
    rintro e w5 ⟨rfl, hb5⟩
    have Hst5 := kH (Hst4.out.below hb5)
    have Hb5 := kH (Hb4.out.trans (hb5.mono Hb4.out.size))
    clear hb5
    go_wp2_with fail
    (with_reducible refine (HI.out _ Hb5.out).mono ?_)
    rintro e w6 ⟨rfl, hb6⟩
    have Hst6 := kH (Hst5.out.below hb6)
    have Hb6 := kH (Hb5.out.trans (hb6.mono Hb5.out.size))
    clear hb6
    by_cases hti : told = i
    rotate_left
    · have q : (told == i) = false := by simpa using hti
      have He := kH (HEnd.out w6 Hst6.out Hb6.out (stop_ok Hline.out (fun r h => hti (by rw [h.2.1, Hi.out, Hm'.out]))))
      clear hti
      go_wp2_with fail
      go_ret2
      exact He.out
    · subst hti
      have q : (told == told) = true := by simp
      have HP := kH (Parse_any htl (HL.out _ Hb6.out))
      go_wp2_with fail
      (refine HP.out.mono ?_)
      rintro e w7 ⟨v1, v2, v3, r, code, rfl, hown, fl, fr, hb7, hcase⟩
      obtain ⟨A1, k1, e1⟩ := hown.ol.form
      obtain ⟨A2, k2, e2⟩ := hown.or_.form
      obtain ⟨A3, k3, e3⟩ := hown.op.form
      obtain ⟨n1, hn1⟩ : ∃ n, n = r.left.length := ⟨_, rfl⟩
      obtain ⟨n2, hn2⟩ : ∃ n, n = r.right.length := ⟨_, rfl⟩
      obtain ⟨n3, hn3⟩ : ∃ n, n = r.pre.length := ⟨_, rfl⟩
      rw [← hn1] at e1
      rw [← hn2] at e2
      rw [← hn3] at e3
      subst e1 e2 e3
      obtain ⟨w8, hw8⟩ : ∃ w8, w8 = w7.alloc (.cells #[.slice A1 n1 k1, .slice A2 n2 k2, .slice A3 n3 k3] 33) := ⟨_, rfl⟩
      have hb8 : Below w7.heap.size w7 w8 := by rw [hw8]; exact al0
      have hrow : w8.heap[w7.heap.size]? = some (.cells #[.slice A1 n1 k1, .slice A2 n2 k2, .slice A3 n3 k3] 33 (0, 0)) := by rw [hw8]; exact heap_alloc_new w7 _
      have hb68 : Below w6.heap.size w6 w8 := hb7.trans (hb8.mono hb7.size)
      have Hst8 := kH (Hst6.out.below hb68)
      have Hb8 := kH (Hb6.out.trans (hb68.mono Hb6.out.size))
      obtain ⟨r0, r1, r2, _⟩ := rl_cells hrow
      have hNs : ∀ i, Nst g mb v i → W.heap.size ≤ i := fun i h => by
       rcases h with e | e | e
       · rw [e]; exact Hg.out.1
       · rw [e]; exact Hg.out.2
       · exact Hvo.out i e
      have hN6 : ∀ i, Nst g mb v i → i < w6.heap.size := fun i h => by
       rcases h with e | e | e
       · rw [e]; exact Hst6.out.lt
       · rw [e]; exact Hst6.out.map_.lt
       · exact Hst6.out.own.lt i e
      have HNs := kH hNs
      have hN7 : ∀ i, (i < W.heap.size ∨ Nst g mb v i) → i < w6.heap.size := fun i h => by
       rcases h with h | h
       · exact Nat.lt_of_lt_of_le h Hb6.out.size
       · exact hN6 i h
      have HRk := kH (show ∀ w', Kpm (fun i => i < W.heap.size ∨ Nst g mb v i) w8 w' → RlAt w' r n1 n2 n3 A1 A2 A3 from fun w' hk => by
       have ho8 := hown.below hb8
       exact ⟨(ownR_kpm ho8.ol hk (fun i _ h => hN7 i h)).stAt (ndF_rel _) hn1.symm, (ownR_kpm ho8.or_ hk (fun i _ h => hN7 i h)).stAt (ndF_rel _) hn2.symm, (ownC_kpm ho8.op hk (fun i _ h => hN7 i h)).stAt hn3.symm, fl, fr⟩)
      have HTk := kH (show ∀ w', Kpm (Nst g mb v) w8 w' → Tens w' from fun w' hk => (HL.out w' (Hb8.out.trans (hk.below Hb8.out.size hNs))).tens)
      have Hw8 := kH hw8
      clear hb8 hrow hb68 hown hb7 hn1 hn2 hn3 hNs hN6 hN7 fl fr HP hw8
      go_upto_region 8 with (fail)
      rw [← Hw8.out]
      rcases hcase with ⟨hps, rfl⟩ | ⟨hps, rfl, rfl⟩
      rotate_left
      · have He := kH (HEnd.out w8 Hst8.out Hb8.out (stop_ok Hline.out (fun r h => by have := h.1; rw [hps] at this; cases this)))
        clear hps r0 r1 r2
        go_wp2_with fail
        go_ret2
        exact He.out
      · have Hps := kH hps
        have hpp := parse_some.1 hps
        have HA := kH (add_any (cl := k1) (cr := k2) (cp := k3) Hst8.out HRk.out hpp.1 HTk.out (by omega))
        obtain ⟨y, hy⟩ : ∃ y, addC l r = y := ⟨_, rfl⟩
        have Hy := kH hy
        have Htx := kH hpp.2.2
        unfold AddPost at HA
        rw [hy] at HA
        clear hps hpp hy
        go_wp2_with fail
        (refine HA.out.mono ?_)
        rintro e w9 ⟨v', ks', rfl, hst9, hk9, hv9⟩
        have Hb9 := kH (Hb8.out.trans (hk9.below Hb8.out.size HNs.out))
        have Hvo9 := kH (show ∀ b, v'.ownBlock = some b → W.heap.size ≤ b from fun b e => by
         rcases hv9 b e with h | h
         · exact Hvo.out b h
         · exact Nat.le_trans Hb8.out.size h)
        by_cases hy0 : y = 0
        · subst hy0
          unfold addR at hst9
          rw [Hy.out, if_pos rfl] at hst9
          have Hst9 := kH hst9
          have Hlk := kH (show lineOk sm m l told t r from by
           have h := Hy.out
           unfold addC at h
           split at h
           · cases h
           · rename_i hno
             split at h
             · cases h
             · rename_i hfit
               rw [Htx.out] at hfit
               refine ⟨Hps.out, by rw [Hi.out, Hm'.out], ?_, by omega, by omega⟩
               simpa [hasT] using hno)
          clear hst9 hk9 hv9 HA r0 r1 r2
          go_wp2_with fail
          (with_reducible refine (HSm.out _).mono ?_)
          rintro e w10 ⟨rfl, hb10⟩
          have Hst10 := kH (Hst9.out.below hb10)
          have Hb10 := kH (Hb9.out.trans (hb10.mono Hb9.out.size))
          clear hb10
          go_wp2_with fail
          go_roundg (gk - 1)
          case measure => have h1 := Hgk.out; have h2 := Hbl.out; omega
          case rel =>
           have h1 := Hgk.out
           have h2 := Hbl.out
           have h3 := Hmr'.out
           refine ⟨b, m', l ++ [r], v', ks', rfl, rfl, by omega, by omega, h3.1, h3.2, kH (fun m2 z2 h => Hrd.out m2 z2 (.go Hline.out Hlk.out (by rw [← Hm'.out]; exact h))), Hst10, Hvo9, ?_, Hb10⟩
           have := Hlk.out.2.2.2.1
           rw [List.length_append, List.length_singleton]
           omega
        · have q2 : (y != 0) = true := by simpa using hy0
          unfold addR at hst9
          rw [Hy.out, if_neg hy0] at hst9
          have Hrd2 := kH (show Reads sm m l x l x from stop_ok Hline.out (fun r' h => by
           have e1 := h.1
           rw [Hps.out] at e1
           injection e1 with e1
           subst e1
           refine hy0 ?_
           rw [← Hy.out]
           unfold addC
           have h3 := h.2.2.1
           have h3' : hasT l r = false := h3
           rw [h3', if_neg (by decide), if_neg]
           rw [Htx.out]
           have h4 := h.2.2.2.1
           have h5 := h.2.2.2.2
           omega))
          have He := kH (show ReadP W rs z (.returned (.tuple #[.pointer (some ⟨g, 0, none⟩), .string ⟨x.toArray⟩])) w9 from by
           obtain ⟨e1, e2⟩ := (Hrd.out l x Hrd2.out).det Hr.out
           subst e1 e2
           refine ⟨g, mb, v', ks', rfl, hst9, Hb9.out, fun i hi => ?_⟩
           rcases hi with e | e | e
           · rw [e]; exact Hg.out.1
           · rw [e]; exact Hg.out.2
           · exact Hvo9.out i e)
          clear hst9 hk9 hv9 HA hy0 r0 r1 r2
          go_wp2_with fail
          go_ret2
          exact He.out
end KT
end
section
open Go.RowKit Go.Maps Go.Lib
namespace KT
theorem rWrite_any {rs : List R.Rl} {A : Option Addr} {n c : Nat} {W : World} (hS : StAt 3 RlR W A n rs) (hn : n ≤ 1000000) (hnc : n ≤ c) (hT : Tens W) :
 Calls Tryz.prog 32 #[.slice A n c] W (WritePost W rs) := by
 have HS := kH hS
 have HT := kH (fun X (h : Below W.heap.size W X) => hT.below h)
 have Hn := kH hS.len
 clear hS hT
 go_enter Tryz.func32, Tryz.ntmps32
 go_wp2_with fail
 go_loopg [4] (n + 1) (fun gg s4 wr => ∃ j : Nat, j ≤ n ∧ s4 = .int .i64 (j : Int) ∧ gg + j = n + 1 ∧ Hid (∀ q ∈ rs.take j, R.rvalid q = 0) ∧ Hid (Below W.heap.size W wr))
 case atStart => exact ⟨0, Nat.zero_le _, rfl, rfl, kH (fun q h => by simp at h), kH (Below.refl _ _)⟩
 case round =>
  obtain ⟨j, hj, rfl, hgk, Hv, Hb⟩ := hrel
  have Hgk := kH hgk
  clear hgk
  by_cases hjn : j < n
  · obtain ⟨r, b, off, nl, cl, nr, cr, np, cp, AL, AR, AP, hx, hA, hb, c0, c1, c2, hR⟩ := rl_at (HS.out.below monoRl Hb.out) hjn
    subst hA
    have Hx := kH hx
    have HV := kH (rValidate_rule (cl := cl) (cr := cr) (cp := cp) hR)
    obtain ⟨z, hz⟩ : ∃ z, R.rvalid r = z := ⟨_, rfl⟩
    have Hz := kH hz
    rw [hz] at HV
    clear hx hb hR hz
    go_wp2_with fail
    (with_reducible refine HV.out.mono ?_)
    rintro e w2 ⟨rfl, hb2⟩
    have Hb2 := kH (Hb.out.trans (hb2.mono Hb.out.size))
    clear hb2 HV c0 c1 c2
    by_cases hz0 : z = 0
    · subst hz0
      go_wp2_with fail
      go_roundg (gk - 1)
      case measure => have := Hgk.out; omega
      case rel =>
       have := Hgk.out
       exact ⟨j + 1, by omega, by go_num, by omega, kH (valid_next Hv.out Hx.out Hz.out), Hb2⟩
    · have q : (z != 0) = true := by simpa using hz0
      have Hw := kH (writeT_bad ((badT_at Hv.out Hx.out (by rw [Hz.out]; exact hz0)).trans Hz.out) hz0)
      clear hz0
      go_wp2_with fail
      go_ret2
      exact writePost_of Hw.out Hb2.out
  · obtain rfl : n = j := by omega
    have Hva := kH (show ∀ q ∈ rs, R.rvalid q = 0 from by
     have h := Hv.out
     rw [List.take_of_length_le (by rw [Hn.out]; exact Nat.le_refl _)] at h
     exact h)
    have Hwr := kH (show ∀ r ∈ rs, Wrt r from fun r hr => by
     obtain ⟨k, hk⟩ := List.mem_iff_getElem?.1 hr
     have hlt := (List.getElem?_eq_some_iff.1 hk).1
     rw [Hn.out] at hlt
     obtain ⟨r', b, off, nl, cl, nr, cr, np, cp, AL, AR, AP, hx, _, _, _, _, _, hR⟩ := rl_at HS.out hlt
     rw [hk] at hx
     cases hx
     exact wrt_of_valid (us := [.slice AL nl cl, .slice AR nr cr, .slice AP np cp]) ⟨nl, cl, nr, cr, np, cp, AL, AR, AP, rfl, hR⟩ (Hva.out r hr))
    have HF := kH (rfits_any (c := c) (HS.out.below monoRl Hb.out) Hwr.out (HT.out _ Hb.out))
    obtain ⟨y, hy⟩ : ∃ y, fitsC rs = y := ⟨_, rfl⟩
    have Hy := kH hy
    rw [hy] at HF
    clear hy Hv Hgk
    go_wp2_with fail
    (with_reducible refine HF.out.mono ?_)
    rintro e w2 ⟨rfl, hb2⟩
    have Hb2 := kH (Hb.out.trans (hb2.mono Hb.out.size))
    clear hb2 HF
    by_cases hsm : smallT rs = true
    rotate_left
    · have hsf : smallT rs = false := by simpa using hsm
      obtain rfl : 3 = y := by rw [← Hy.out]; unfold fitsC; rw [if_neg hsm]
      have Hw := kH (writeT_large Hva.out hsf)
      clear hsf hsm
      go_wp2_with fail
      go_ret2
      exact writePost_of Hw.out Hb2.out
    obtain rfl : 0 = y := by rw [← Hy.out]; unfold fitsC; rw [if_pos hsm]
    have Hsm := kH hsm
    clear hsm
    go_wp2_with fail
    go_loopg [7] (n + 1) (fun gg s7 wr => ∃ j : Nat, j ≤ n ∧ s7 = .int .i64 (j : Int) ∧ gg + j = n + 1 ∧ Hid ((rs.take j).Pairwise fun q r => sm q r = false) ∧ Hid (Below W.heap.size W wr))
    case atStart => exact ⟨0, Nat.zero_le _, rfl, rfl, kH .nil, Hb2⟩
    case round =>
     obtain ⟨j, hj, rfl, hgk, Hap, Hb⟩ := hrel
     have Hgk := kH hgk
     clear hgk
     by_cases hjn : j < n
     · obtain ⟨r, b, off, nl, cl, nr, cr, np, cp, AL, AR, AP, hx, hA, hb, c0, c1, c2, hR⟩ := rl_at (HS.out.below monoRl Hb.out) hjn
       subst hA
       have Hx := kH hx
       have hsl := fun W' : World => run_slice_to (P := Tryz.prog) Tryz.underlying40 infoRule b off n c j (by omega) W'
       obtain ⟨ov⟩ := ov_ex wr
       have HC := kH (fun u => calls_over (ov := ov) (rthere_any (c := c) (dl := cl) (dr := cr) (dp := cp) (((HS.out.below monoRl Hb.out).below monoRl (ov.below u)).take (by omega : j ≤ n)) (fun q hq => Hva.out q (List.mem_of_mem_take hq)) (hR.below (ov.below u)) (Hva.out r (List.mem_of_getElem? hx))))
       have o0 := ov.cell c0
       have o1 := ov.cell c1
       have o2 := ov.cell c2
       obtain ⟨s, hs⟩ : ∃ s, s = hasT (rs.take j) r := ⟨_, rfl⟩
       have Hs := kH hs
       rw [← hs] at HC
       clear hx hb c0 c1 c2 hR hs
       go_upto_region 13 with (fail)
       refine wp_region_ovq ov (by kernel_rfl) (by kernel_rfl) ?_
       repeat (go_big_quiet_step ((go_at_call 83; with_reducible exact HC.out _)))
       refine wpQuiet_nil ?_
       rintro _ ⟨u, rfl⟩
       have Hb3 := kH (Hb.out.trans ((ov.below u).mono Hb.out.size))
       clear o0 o1 o2 HC hsl
       generalize ov.f u = w3 at *
       clear ov
       cases s with
       | true =>
        have Hw := kH (writeT_met Hva.out Hsm.out (not_free Hx.out Hs.out.symm))
        go_wp2
        go_ret2
        exact writePost_of Hw.out Hb3.out
       | false =>
        go_wp2
        go_roundg (gk - 1)
        case measure => have := Hgk.out; omega
        case rel =>
         have := Hgk.out
         exact ⟨j + 1, by omega, by go_num, by omega, kH (apart_next Hap.out Hx.out Hs.out.symm), Hb3⟩
     · obtain rfl : n = j := by omega
       have hap := Hap.out
       rw [List.take_of_length_le (by rw [Hn.out]; exact Nat.le_refl _)] at hap
       have Hw := kH (writeT_fine Hva.out Hsm.out hap)
       have HX := kH (rstore_any (c := c) (HS.out.below monoRl Hb.out) Hwr.out ((smallT_iff rs).1 Hsm.out).2 hn (HT.out _ Hb.out))
       clear hap Hap
       go_wp2_with fail
       (with_reducible refine HX.out.mono ?_)
       rintro e w5 ⟨rfl, hb5⟩
       have Hb5 := kH (Hb.out.trans (hb5.mono Hb.out.size))
       clear hb5 HX
       go_wp2_with fail
       go_ret2
       exact writePost_of Hw.out Hb5.out
end KT
end
end Go.Proofs.YtbiopedpceddeaaGreatDoor
