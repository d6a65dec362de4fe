/- Merged: C4KF8, C4PKL, C4PKW, C4KF9. -/
import Derived.Test.YtbiopedpceddeaaGreatDoorW33
import Derived.Test.YtbiopedpceddeaaGreatDoorW35
import Derived.Test.YtbiopedpceddeaaGreatDoorW21
import Derived.Test.YtbiopedpceddeaaGreatDoorW26
import Derived.Test.YtbiopedpceddeaaGreatDoorW20
import Derived.Test.YtbiopedpceddeaaGreatDoorW30
import Derived.Test.YtbiopedpceddeaaGreatDoorW31
import Derived.Test.YtbiopedpceddeaaGreatDoorW05
import Derived.Test.YtbiopedpceddeaaGreatDoorW04
import Derived.Laws.StructEq
import Derived.Deep.DeepCutAuto
import Derived.Test.YtbiopedpceddeaaGreatDoorW14
set_option linter.unusedVariables false
set_option linter.unusedSimpArgs false
section
namespace Go.Proofs.YtbiopedpceddeaaGreatDoor
open Go.RowKit Go.Maps Go.Lib
set_option linter.unusedVariables false
set_option linter.unusedSimpArgs false
namespace KT
set_option maxRecDepth 100000 in
set_option maxHeartbeats 16000000 in
theorem rParse_any {t : List UInt8} (ht : t.length ≤ 800000) {W : World} (hT : Tens W) :
    Calls Tryz.prog 28 #[.string ⟨t.toArray⟩] W (ParsePost W t) := by
  obtain ⟨W1, hW1⟩ : ∃ W1, W1 = W.alloc (.cells #[.slice none 0 0, .slice none 0 0, .slice none 0 0] 33) := ⟨_, rfl⟩
  have hb1 : Below W.heap.size W W1 := by rw [hW1]; exact (Below.refl _ _).alloc (Nat.le_refl _) _
  have hr1 : W1.heap[W.heap.size]? = some (.cells #[.slice none 0 0, .slice none 0 0, .slice none 0 0] 33 (0, 0)) := by rw [hW1]; exact heap_alloc_new W _
  have HC := Lib.hid (rread_any (t := t) (by omega) (W := W1))
  obtain ⟨cand, hcand⟩ : ∃ r, r = candR t := ⟨_, rfl⟩
  unfold ReadPost at HC
  rw [← hcand] at HC
  have HRS := Lib.hid (show RlS cand from by rw [hcand]; exact candR_S t)
  have Hpa := Lib.hid (show parse t = if R.rvalid cand = 0 ∧ textW cand = t then some cand else none from by rw [hcand]; exact parse_ref t)
  have HT := Lib.hid (fun X (h : Below W.heap.size W X) => hT.below h)
  have HB1 := Lib.hid hb1
  have Hr1 := Lib.hid hr1
  have HW1 := Lib.hid hW1
  clear hT hb1 hr1 hW1 hcand
  go_enter Tryz.func28, Tryz.ntmps28
  go_upto_region 1 with (fail)
  rw [← HW1.out]
  go_wp2_with fail
  (refine HC.out.mono ?_)
  rintro e w2 ⟨v1, v2, v3, rfl, hown, hb2⟩
  obtain ⟨A1, kA, e1⟩ := hown.ol.form
  obtain ⟨A2, kB, e2⟩ := hown.or_.form
  obtain ⟨A3, kC, e3⟩ := hown.op.form
  obtain ⟨m1, hm1⟩ : ∃ m, m = cand.left.length := ⟨_, rfl⟩
  obtain ⟨m2, hm2⟩ : ∃ m, m = cand.right.length := ⟨_, rfl⟩
  obtain ⟨m3, hm3⟩ : ∃ m, m = cand.pre.length := ⟨_, rfl⟩
  rw [← hm1] at e1
  rw [← hm2] at e2
  rw [← hm3] at e3
  subst e1 e2 e3
  obtain ⟨gr, hgr⟩ : ∃ g, g = w2.heap.size := ⟨_, rfl⟩
  obtain ⟨wr, hwr⟩ : ∃ wr, wr = w2.alloc (.cells #[.slice A1 m1 kA, .slice A2 m2 kB, .slice A3 m3 kC] 33) := ⟨_, rfl⟩
  have hb3 : Below w2.heap.size w2 wr := by rw [hwr]; exact (Below.refl _ _).alloc (Nat.le_refl _) _
  have HO := Lib.hid (show OwnRl W.heap.size wr (.slice A1 m1 kA) (.slice A2 m2 kB) (.slice A3 m3 kC) cand from (hown.below hb3).weak HB1.out.size)
  have HRow := Lib.hid (show wr.heap[gr]? = some (.cells #[.slice A1 m1 kA, .slice A2 m2 kB, .slice A3 m3 kC] 33 (0, 0)) from by rw [hwr, hgr]; exact heap_alloc_new w2 _)
  have Hbr := Lib.hid (HB1.out.trans ((hb2.trans (hb3.mono hb2.size)).mono HB1.out.size))
  have Hr := Lib.hid (show wr.heap[W.heap.size]? = some (.cells #[.slice none 0 0, .slice none 0 0, .slice none 0 0] 33 (0, 0)) from (hb3.block _ (Nat.lt_of_lt_of_le (Array.getElem?_eq_some_iff.1 Hr1.out).1 hb2.size)).trans ((hb2.block _ (Array.getElem?_eq_some_iff.1 Hr1.out).1).trans Hr1.out))
  have fl := flr_of HRS.out.left
  have fr := flr_of HRS.out.right
  have hRl : RlAt wr cand m1 m2 m3 A1 A2 A3 := ⟨HO.out.ol.stAt (ndF_rel _) hm1.symm, HO.out.or_.stAt (ndF_rel _) hm2.symm, HO.out.op.stAt hm3.symm, fl, fr⟩
  have HV := Lib.hid (rValidate_rule (cl := kA) (cr := kB) (cp := kC) hRl)
  have HRl := Lib.hid hRl
  have Hfl := Lib.hid fl
  have Hfr := Lib.hid fr
  have Hs1 := Lib.hid Hbr.out.size
  have Hlt := Lib.hid (Array.getElem?_eq_some_iff.1 HRow.out).1
  have Hwr := Lib.hid hwr
  have Hgr := Lib.hid hgr
  clear hown hb2 hb3 fl fr hRl hm1 hm2 hm3 hwr HC
  go_upto_region 2 with (fail)
  first | rw [← Hgr.out, ← Hwr.out] | (simp only [← Hgr.out, ← Hwr.out])
  clear hgr
  obtain ⟨z0, z1, z2, _⟩ := rl_cells HRow.out
  by_cases hv : R.rvalid cand = 0
  rotate_left
  · have Hpn := Lib.hid (show parse t = none from by rw [Hpa.out, if_neg (fun h => hv h.1)])
    obtain ⟨z, hz⟩ : ∃ z, R.rvalid cand = z := ⟨_, rfl⟩
    rw [hz] at HV hv
    have q : (z != 0) = true := by simpa using hv
    clear hv hz
    go_wp2_with fail
    (with_reducible refine HV.out.mono ?_)
    rintro e w3 ⟨rfl, hb2⟩
    have Hb2 := Lib.hid (Hbr.out.trans (hb2.mono Hs1.out))
    have hr2 := (hb2.block _ (Array.getElem?_eq_some_iff.1 Hr.out).1).trans Hr.out
    have Hr2 := Lib.hid hr2
    obtain ⟨y0, y1, y2, yf⟩ := rl_cells hr2
    have yf0 := yf 0
    have yf1 := yf 1
    have yf2 := yf 2
    clear hb2 HV z0 z1 z2 hr2 yf
    go_wp2_with fail
    (try simp only [Exit.inBlock, Exit.then])
    refine bodyPost_ret (results_rl2 rfl _ _ W.heap.size _ _ _ rfl (set3_row _ _ _ Hr2.out)) rfl ?_
    exact ⟨_, _, _, ⟨[], [], []⟩, 2, rfl, OwnRl.nil_ _ _, fun x h => (by cases h), fun x h => (by cases h), set3_below _ _ _ Hb2.out (Nat.le_refl _), .inr ⟨Hpn.out, rfl, rfl⟩⟩
  · have hwr := wrt_of_valid (us := [.slice A1 m1 kA, .slice A2 m2 kB, .slice A3 m3 kC]) ⟨m1, kA, m2, kB, m3, kC, A1, A2, A3, rfl, HRl.out⟩ hv
    have hnl := HRl.out.sl.len
    have hnr := HRl.out.sr.len
    have hnp := HRl.out.sp.len
    have k1 := hwr.nl
    have k2 := hwr.nr
    have k3 := hwr.np
    have HX := Lib.hid (fun X (h : Below wr.heap.size wr X) => rtext_any (cl := kA) (cr := kB) (cp := kC) (HRl.out.below h) (HT.out X (Hbr.out.trans (h.mono Hs1.out))) (by omega) (by omega) (by omega) hwr.l hwr.q hwr.p)
    rw [hv] at HV
    have Hv := Lib.hid hv
    obtain ⟨tx, htx⟩ : ∃ tx, tx = textW cand := ⟨_, rfl⟩
    rw [← htx] at HX
    have Htx := Lib.hid htx
    clear hv hwr hnl hnr hnp k1 k2 k3 htx
    go_wp2_with fail
    (with_reducible refine HV.out.mono ?_)
    rintro e w3 ⟨rfl, hb2⟩
    have Hb2 := Lib.hid hb2
    have hz := (hb2.block _ Hlt.out).trans HRow.out
    clear hb2 HV z0 z1 z2
    obtain ⟨z0, z1, z2, _⟩ := rl_cells hz
    clear hz
    go_wp2_with fail
    (with_reducible refine (HX.out _ Hb2.out).mono ?_)
    rintro e w4 ⟨rfl, hb3⟩
    have Hb3 := Lib.hid (Hb2.out.trans (hb3.mono Hb2.out.size))
    have hz := (Hb3.out.block _ Hlt.out).trans HRow.out
    have hr2 := (Hb3.out.block _ (Array.getElem?_eq_some_iff.1 Hr.out).1).trans Hr.out
    have Hr2 := Lib.hid hr2
    clear hb3 z0 z1 z2
    obtain ⟨z0, z1, z2, _⟩ := rl_cells hz
    obtain ⟨y0, y1, y2, yf⟩ := rl_cells hr2
    have yf0 := yf 0
    have yf1 := yf 1
    have yf2 := yf 2
    clear hz hr2 yf
    by_cases he : tx = t
    · have Hps := Lib.hid (show parse t = some cand from by rw [Hpa.out, if_pos ⟨Hv.out, by rw [← Htx.out]; exact he⟩])
      subst he
      have q : (tx == tx) = true := by simp
      go_wp2_with fail
      (try simp only [Exit.inBlock, Exit.then])
      refine bodyPost_ret (results_rl2 rfl _ _ W.heap.size _ _ _ rfl (set3_row _ _ _ Hr2.out)) rfl ?_
      exact ⟨_, _, _, cand, 0, rfl, (HO.out.below Hb3.out).set3 _ _ _ Hr2.out, Hfl.out, Hfr.out, set3_below _ _ _ (Hbr.out.trans (Hb3.out.mono Hs1.out)) (Nat.le_refl _), .inl ⟨Hps.out, rfl⟩⟩
    · have Hps := Lib.hid (show parse t = none from by rw [Hpa.out, if_neg (fun h => he (Htx.out.trans h.2))])
      have q : (tx == t) = false := by simpa using he
      clear he
      go_wp2_with fail
      (try simp only [Exit.inBlock, Exit.then])
      refine bodyPost_ret (results_rl2 rfl _ _ W.heap.size _ _ _ rfl (set3_row _ _ _ Hr2.out)) rfl ?_
      exact ⟨_, _, _, ⟨[], [], []⟩, 2, rfl, OwnRl.nil_ _ _, fun x h => (by cases h), fun x h => (by cases h), set3_below _ _ _ (Hbr.out.trans (Hb3.out.mono Hs1.out)) (Nat.le_refl _), .inr ⟨Hps.out, rfl, rfl⟩⟩
end KT
end Go.Proofs.YtbiopedpceddeaaGreatDoor
end
section
namespace Go.Proofs.YtbiopedpceddeaaGreatDoor
set_option linter.unusedVariables false
set_option linter.unusedSimpArgs false
namespace KT
open Go.Lib
theorem lineOf_no10 {s : List UInt8} (h : (10 : UInt8) ∉ s) : lineOf s = none := by
  unfold lineOf
  rw [cut_not 10 s h]
  simp
end KT
end Go.Proofs.YtbiopedpceddeaaGreatDoor
end
section
namespace Go.Proofs.YtbiopedpceddeaaGreatDoor
set_option linter.unusedVariables false
set_option linter.unusedSimpArgs false
namespace KT
/-- the first error of rules -/
def badT : List R.Rl → Int
  | [] => 0
  | r :: l => if R.rvalid r ≠ 0 then R.rvalid r else badT l
def smallT (l : List R.Rl) : Bool := decide (l.length ≤ 40) && l.all fun r => decide ((textW r).length ≤ 200)
noncomputable def hasT (m : List R.Rl) (r : R.Rl) : Bool := m.any fun q => sm q r
noncomputable def freeT : List R.Rl → List R.Rl → Bool
  | _, [] => true
  | acc, r :: l => !hasT acc r && freeT (acc ++ [r]) l
noncomputable def writeT (l : List R.Rl) : List UInt8 × Int := if badT l ≠ 0 then ([], badT l) else if smallT l = false then ([], 3) else if freeT [] l = false then ([], 7) else (storeT l, 0)
noncomputable def hasA (m : List R.Rl) (z : List UInt8) (r : R.Rl) : Bool × Int := if R.rvalid r ≠ 0 then (false, R.rvalid r) else if z ≠ [] then (false, 10) else (hasT m r, 0)
noncomputable def mergeA (m : List R.Rl) (z : List UInt8) (m' : List R.Rl) (z' : List UInt8) : List UInt8 × Int :=
  if z ≠ [] then ([], 10) else if z' ≠ [] then ([], 10) else if 40 < (mergeT sm m m').length then ([], 3) else (storeT (mergeT sm m m'), 0)

theorem badT_iff : ∀ l : List R.Rl, badT l = 0 ↔ ∀ r ∈ l, R.rvalid r = 0 := by
  intro l
  induction l with
  | nil => simp [badT]
  | cons r l ih =>
    rw [badT]
    split
    · rename_i h
      exact ⟨fun e => absurd e h, fun e => e r (by simp)⟩
    · rename_i h
      rw [ih]
      simp only [List.mem_cons, forall_eq_or_imp]
      exact ⟨fun e => ⟨by omega, e⟩, fun e => e.2⟩
theorem smallT_iff (l : List R.Rl) : smallT l = true ↔ l.length ≤ 40 ∧ ∀ r ∈ l, (textW r).length ≤ 200 := by simp [smallT]
theorem freeT_iff : ∀ (l acc : List R.Rl), acc.Pairwise (fun q r => sm q r = false) → (freeT acc l = true ↔ (acc ++ l).Pairwise fun q r => sm q r = false) := by
  intro l
  induction l with
  | nil => intro acc h; simp [freeT, h]
  | cons r l ih =>
    intro acc h
    rw [freeT, Bool.and_eq_true]
    have e : acc ++ r :: l = (acc ++ [r]) ++ l := by simp
    constructor
    · rintro ⟨h1, h2⟩
      have h3 : (acc ++ [r]).Pairwise fun q r => sm q r = false := by
        rw [List.pairwise_append]
        refine ⟨h, List.pairwise_singleton _ _, fun q hq b hb => ?_⟩
        rw [List.mem_singleton] at hb
        subst hb
        unfold hasT at h1
        simp only [Bool.not_eq_true', List.any_eq_false] at h1
        simpa using h1 q hq
      rw [e]
      exact (ih _ h3).1 h2
    · intro h2
      rw [e] at h2
      have h3 := (List.pairwise_append.1 h2).1
      refine ⟨?_, (ih _ h3).2 h2⟩
      unfold hasT
      simp only [Bool.not_eq_true', List.any_eq_false]
      intro q hq
      have := (List.pairwise_append.1 h3).2.2 q hq r (by simp)
      simp [this]
theorem writeT_good {l : List R.Rl} (h : Good sm l) : writeT l = (storeT l, 0) := by
  unfold writeT
  rw [(badT_iff l).2 h.valid, if_neg (by simp), (smallT_iff l).2 ⟨h.len, h.short⟩, if_neg (by simp), (freeT_iff l [] .nil).2 (by simpa using h.apart), if_neg (by simp)]
theorem writeT_ok {l : List R.Rl} (hs : ∀ r ∈ l, R.rvalid r = 0 → RlS r) (h : (writeT l).2 = 0) : Good sm l ∧ (writeT l).1 = storeT l := by
  unfold writeT at h ⊢
  split at h
  · rename_i hb; exact absurd h hb
  · rename_i hb
    split at h
    · cases h
    · rename_i hc
      split at h
      · cases h
      · rename_i hd
        rw [if_neg hb, if_neg hc, if_neg hd]
        have h1 := (badT_iff l).1 (by omega)
        obtain ⟨h2, h3⟩ := (smallT_iff l).1 (by simpa using hc)
        have h4 := (freeT_iff l [] .nil).1 (by simpa using hd)
        exact ⟨⟨h1, fun r hr => hs r hr (h1 r hr), by simpa using h4, h2, h3⟩, rfl⟩
/-- the law on beginnings of stores -/
theorem tear_law {l : List R.Rl} {at_ : Nat} {m : List R.Rl} {z : List UInt8} (hl : Good sm l) (hat : at_ ≤ (storeT l).length) (hr : Reads sm 0 [] ((storeT l).take at_) m z) :
    m = l.take m.length ∧ m.length ≤ l.length ∧ z.length ≤ at_ ∧ (storeT l).take (at_ - z.length) = storeT m ∧ mergeA m [] l [] = (storeT l, 0) := by
  obtain ⟨hg, hs⟩ := hr.is_store
  have h1 : storeFrom 0 m ++ (z ++ (storeT l).drop at_) = storeFrom 0 l := by
    have : storeT l = (storeT l).take at_ ++ (storeT l).drop at_ := (List.take_append_drop _ _).symm
    rw [← hs] at this
    rw [← List.append_assoc]
    exact this.symm
  obtain ⟨h2, h3⟩ := storeFrom_pre m l 0 _ hg.small hl.small h1
  have h4 : (storeT m ++ z).length = at_ := by rw [hs, List.length_take]; omega
  rw [List.length_append] at h4
  refine ⟨h2, h3, by omega, ?_, ?_⟩
  · have : (storeT l).take (at_ - z.length) = ((storeT l).take at_).take (at_ - z.length) := by rw [List.take_take]; congr 1; omega
    rw [this, ← hs, List.take_left' (by omega)]
  · have h5 := mergeT_take (sm := sm) sm_refl hl m.length
    rw [← h2] at h5
    unfold mergeA
    rw [h5, if_neg (by simp), if_neg (by simp), if_neg (by have := hl.len; omega)]
end KT
end Go.Proofs.YtbiopedpceddeaaGreatDoor
end
section
namespace Go.Proofs.YtbiopedpceddeaaGreatDoor
open Go.RowKit Go.Maps Go.Lib
set_option linter.unusedVariables false
set_option linter.unusedSimpArgs false
namespace KT
theorem rl_at {W : World} {A : Option Addr} {n : Nat} {rs : List R.Rl} (h : StAt 3 RlR W A n rs) {j : Nat} (hj : j < n) :
    ∃ (r : R.Rl) (b off nl cl nr cr np cp : Nat) (AL AR AP : Option Addr), rs[j]? = some r ∧ A = some ⟨b, off, none⟩ ∧ b < W.heap.size ∧ W.cell? ⟨b, off + j * 3, none⟩ = some (.slice AL nl cl) ∧ W.cell? ⟨b, off + j * 3 + 1, none⟩ = some (.slice AR nr cr) ∧ W.cell? ⟨b, off + j * 3 + 2, none⟩ = some (.slice AP np cp) ∧ RlAt W r nl nr np AL AR AP := by
  obtain ⟨r, b, off, us, hx, hA, hb, hl, hc, nl, cl, nr, cr, np, cp, AL, AR, AP, rfl, hr⟩ := h.at_ hj
  exact ⟨r, b, off, nl, cl, nr, cr, np, cp, AL, AR, AP, hx, hA, hb, hc 0 _ rfl, hc 1 _ rfl, hc 2 _ rfl, hr⟩

end KT
end Go.Proofs.YtbiopedpceddeaaGreatDoor
end
