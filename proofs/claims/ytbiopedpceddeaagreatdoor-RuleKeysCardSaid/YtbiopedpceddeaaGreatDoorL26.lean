/- Rules: match (the program): the left side of a rule and a term. -/
import Derived.Test.YtbiopedpceddeaaGreatDoorL25
import Derived.Test.YtbiopedpceddeaaGreatDoorL13
set_option linter.unusedVariables false
set_option linter.unusedSimpArgs false
namespace Go.Proofs.YtbiopedpceddeaaGreatDoor
open Go.RowKit
set_option linter.unusedVariables false
set_option linter.unusedSimpArgs false

namespace R
theorem TOk.tw {t : List T.Nd} (h : TOk t) : TWf t := by
  refine ⟨h.ord, fun x hx => ?_, fun x hx => (h.at_ hx).2.2.2.2.1⟩
  have := h.at_ hx
  exact ⟨⟨by omega, by omega⟩, ⟨by omega, by omega⟩, ⟨by omega, by omega⟩⟩
theorem isW_zero {w : Int} (h : B.isWd w = true) : B.isW w 0 = true := by
  have := B.isWd_iff.1 h
  refine B.isW_iff.2 ⟨this.1, this.2, ?_⟩
  unfold B.pw
  exact Int.pow_pos (by omega)
end R

/-- numbers that lie in a binding -/
theorem BdAt.hs {W : World} {gb : Nat} {w : Int} {L Tm : Value} {s : R.St} (h : BdAt W gb w L Tm s) : SlAt (IntR .u32) W (some ⟨gb, 7, none⟩) 2 s.hs := by
  have hlt := h.lt
  obtain ⟨v0, v1, z0, z1, f0, f1, hrow, r0, r1, r2, r3⟩ := h
  obtain ⟨c0, c1, c2, c3, c4, c7, c8, c9, c10, cf⟩ := bd_cells hrow
  have e0 : (s.h 0).getD 0 = z0 := by
    cases hs : s.h 0 with
    | none => rw [hs] at r2; exact r2.2.symm
    | some n => rw [hs] at r2; exact r2.2.symm
  have e1 : (s.h 1).getD 0 = z1 := by
    cases hs : s.h 1 with
    | none => rw [hs] at r3; exact r3.2.symm
    | some n => rw [hs] at r3; exact r3.2.symm
  refine ⟨rfl, by omega, fun k x hx => ?_⟩
  unfold R.St.hs at hx
  rw [e0, e1] at hx
  match k, hx with
  | 0, hx => cases hx; exact ⟨gb, 7, _, rfl, hlt, c7, rfl⟩
  | 1, hx => cases hx; exact ⟨gb, 7, _, rfl, hlt, c8, rfl⟩

/-- the numbers of a binding are words -/
theorem R.hs_ok {w : Int} {s : R.St} (hw : B.isWd w = true) (hs : s.Ok w) : R.HsOk w s.hs := by
  refine ⟨rfl, fun n hn => ?_⟩
  have key : ∀ i, 0 ≤ (s.h i).getD 0 ∧ B.isW w ((s.h i).getD 0) = true := fun i => by
    cases hi : s.h i with
    | none => exact ⟨by simp, R.isW_zero hw⟩
    | some m => exact hs i m hi
  unfold R.St.hs at hn
  simp only [List.mem_cons, List.not_mem_nil, or_false] at hn
  rcases hn with rfl | rfl
  · exact key 0
  · exact key 1

/-- what match answers -/
def MatchPost (W : World) (w : Int) (L Tm : Value) (m : Option R.St) (e : Ending) (W' : World) : Prop :=
  ∃ gb : Nat, e = .returned (.tuple #[.pointer (some ⟨gb, 0, none⟩), .bool m.isSome]) ∧ Below W.heap.size W W' ∧ W.heap.size ≤ gb ∧ ∀ s, m = some s → BdAt W' gb w L Tm s

theorem matchPost_none {W W' : World} {w : Int} {L Tm : Value} {m : Option R.St} {gb : Nat} (hm : m = none) (hb : Below W.heap.size W W') (hg : W.heap.size ≤ gb) : MatchPost W w L Tm m (.returned (.tuple #[.pointer (some ⟨gb, 0, none⟩), .bool false])) W' := by
  subst hm
  exact ⟨gb, rfl, hb, hg, fun s h => by cases h⟩
theorem matchPost_some {W W' : World} {w : Int} {L Tm : Value} {m : Option R.St} {gb : Nat} {s : R.St} (hm : m = some s) (hb : Below W.heap.size W W') (hg : W.heap.size ≤ gb) (hB : BdAt W' gb w L Tm s) : MatchPost W w L Tm m (.returned (.tuple #[.pointer (some ⟨gb, 0, none⟩), .bool true])) W' := by
  subst hm
  exact ⟨gb, rfl, hb, hg, fun s h => by cases h; exact hB⟩

set_option maxRecDepth 100000 in
set_option maxHeartbeats 4000000 in
theorem gmatch_any {r : R.Rl} {t : List T.Nd} {nl cl nr cr np cp nt ct : Nat} {AL AR AP At : Option Addr} {W : World} (hr : R.ROk r) (ht : R.TOk t) (hL : StAt 5 NdR W AL nl r.left) (hP : StAt 3 CdR W AP np r.pre) (hT : StAt 5 NdR W At nt t)
    (fp ft : T.F) (hfp : T.Rep r.left [((r.left.length : Int) - 1)] fp) (hft : T.Rep t [((t.length : Int) - 1)] ft) :
    Calls Tryz.prog 90 #[.agg #[.slice AL nl cl, .slice AR nr cr, .slice AP np cp], .slice At nt ct] W (MatchPost W (R.mtw r t fp ft) (.slice AL nl cl) (.slice At nt ct) (R.mtch r R.cond t fp ft)) := by
  have hlL := hL.len
  have hlT := hT.len
  obtain ⟨ml, rfl⟩ : ∃ m, nl = m + 1 := ⟨nl - 1, by have := hr.lpos; omega⟩
  obtain ⟨mt, rfl⟩ : ∃ m, nt = m + 1 := ⟨nt - 1, by have := ht.pos; omega⟩
  rw [hlL] at hfp
  rw [hlT] at hft
  have e1 : ((ml + 1 : Nat) : Int) - 1 = (ml : Int) := by omega
  have e2 : ((mt + 1 : Nat) : Int) - 1 = (mt : Int) := by omega
  rw [e1] at hfp
  rw [e2] at hft
  obtain ⟨W1, hW1⟩ : ∃ W1, W1 = W.alloc (.cells #[.slice AL (ml + 1) cl, .slice AR nr cr, .slice AP np cp] 33) := ⟨_, rfl⟩
  have hb1 : Below W.heap.size W W1 := by rw [hW1]; exact (Below.refl _ _).alloc (Nat.le_refl _) _
  have hrow1 : W1.heap[W.heap.size]? = some (.cells #[.slice AL (ml + 1) cl, .slice AR nr cr, .slice AP np cp] 33 (0, 0)) := by rw [hW1]; exact heap_alloc_new W _
  have Hrow1 := Lib.hid hrow1
  have HL := Lib.hid (hL.below monoNd hb1)
  have HP := Lib.hid (hP.below monoCd hb1)
  have HT := Lib.hid (hT.below monoNd hb1)
  have Hb1 := Lib.hid hb1
  have Hr := Lib.hid hr
  have Ht := Lib.hid ht
  have Hfp := Lib.hid hfp
  have Hft := Lib.hid hft
  have c0 : W1.cell? ⟨W.heap.size, 0, none⟩ = some (.slice AL (ml + 1) cl) := by rw [cell_of_row _ _ _ _ _ (0, 0) hrow1]; rfl
  have C0 := Lib.hid c0
  obtain ⟨x, b, off, Ax, cx, ex, rfl, hb, h0, h1, h2, h3, h4, hs, i0, i1⟩ := nd_cells HL.out (j := ml) (by omega)
  obtain ⟨y, b', off', Ay, cy, ey, rfl, hb', h0', h1', h2', h3', h4', hs', i0', i1'⟩ := nd_cells HT.out (j := mt) (by omega)
  have hrl : R.rootW r.left = x.w := by unfold R.rootW; rw [hlL, List.getD_eq_getElem?_getD, show ml + 1 - 1 = ml by omega, ex]; rfl
  have hrt : R.rootW t = y.w := by unfold R.rootW; rw [hlT, List.getD_eq_getElem?_getD, show mt + 1 - 1 = mt by omega, ey]; rfl
  have Hwy := Lib.hid (ht.at_ (List.mem_of_getElem? ey)).2.1
  obtain ⟨m, hm⟩ : ∃ m, R.mtw r t fp ft = m := ⟨_, rfl⟩
  have Hm := Lib.hid (show m = if x.w = 1 then R.wd1 fp ft else y.w from by rw [← hm]; unfold R.mtw; rw [hrl, hrt])
  have Hmt := Lib.hid (show R.mtch r R.cond t fp ft = (if 0 < m then R.fit m fp ft R.St.none else none).bind fun s => if (r.pre.all (R.cond m s.hs)) = true then some s else none from by unfold R.mtch R.mfit; rw [hm])
  have hle : ml ≤ 20 := by have := hr.llen; omega
  have hle2 : mt ≤ 900 := by have := ht.len; omega
  have Him := Lib.hid (nd_imm HT.out)
  have Hwide := Lib.hid (show ∀ z ∈ t, 0 < z.w from fun z hz => by have := (ht.at_ hz).2.1; omega)
  have HlL := Lib.hid hlL
  have HlT := Lib.hid hlT
  rw [hm]
  clear hrow1 hL hP hT hb1 hr ht hfp hft hlL hlT e1 e2 h0 h2 h3 h4 h0' h2' h3' h4' hs hs' i0 i1 i0' i1' hb hb' ex ey hrl hrt hm
  have e1 : (ml : Int) + 1 - 1 = (ml : Int) := by omega
  have e2 : (mt : Int) + 1 - 1 = (mt : Int) := by omega
  have HW1 := Lib.hid hW1
  clear hW1
  rw [HW1.out] at h1 h1' c0
  go_enter Tryz.func90, Tryz.ntmps90
  go_upto_if 28 with (fail)
  rw [← HW1.out]
  rw [← HW1.out] at h1 h1' c0
  go_cut [8] (fun s8 wx => s8 = .int .i64 m ∧ Hid (Below W1.heap.size W1 wx))
  case first =>
    by_cases hx1 : x.w = 1
    · have q : (x.w == 1) = true := by simpa using hx1
      have He := Lib.hid (show R.wd1 fp ft = m from by have := Hm.out; rw [if_pos hx1] at this; exact this.symm)
      have Hcall := Lib.hid (gwidth_any (cp := cl) (ct := ct) (R.pnode_ord Hr.out.lp) Ht.out.ord Hwide.out ml (by omega) mt (by omega) W1 HL.out HT.out fp ft Hfp.out Hft.out)
      clear hx1
      go_wp2_with fail
      (with_reducible refine Hcall.out.mono ?_)
      rintro e w3 ⟨rfl, hb3⟩
      have Hb3 := Lib.hid hb3
      rw [He.out]
      clear hb3 h1 h1' c0
      go_wp2
      go_meet
      exact ⟨rfl, Hb3⟩
    · have q : (x.w == 1) = false := by simpa using hx1
      have e := Hm.out
      rw [if_neg hx1] at e
      subst e
      clear hx1
      go_wp2
      go_meet
      exact ⟨rfl, Lib.hid (Below.refl _ _)⟩
  case rest =>
  obtain ⟨rfl, Hb2⟩ := hcut
  obtain ⟨W2, hW2⟩ : ∃ W2, W2 = wc := ⟨_, rfl⟩
  rw [← hW2] at Hb2 ⊢
  clear hW2 h1 h1' c0
  have c0 := (Hb2.out.cell (p := ⟨W.heap.size, 0, none⟩) (cell_below C0.out)).trans C0.out
  obtain ⟨W3, hW3⟩ : ∃ W3, W3 = W2.alloc (.cells #[.int .i64 m, .slice (some ⟨b, off, none⟩) (ml + 1) cl, .slice (some ⟨b', off', none⟩) (mt + 1) ct, .slice none 0 0, .slice none 0 0, .slice none 0 0, .slice none 0 0, .int .u32 0, .int .u32 0, .bool false, .bool false] 144) := ⟨_, rfl⟩
  have HW3 := Lib.hid hW3
  have hb3 : Below W2.heap.size W2 W3 := by rw [hW3]; exact (Below.refl _ _).alloc (Nat.le_refl _) _
  have Hb3 := Lib.hid (Hb2.out.trans (hb3.mono Hb2.out.size))
  have hrow3 : W3.heap[W2.heap.size]? = some (bdRow m (.slice (some ⟨b, off, none⟩) (ml + 1) cl) (.slice (some ⟨b', off', none⟩) (mt + 1) ct) (.slice none 0 0) (.slice none 0 0) 0 0 false false) := by rw [hW3]; exact heap_alloc_new W2 _
  have Hbd3 := Lib.hid (show BdAt W3 W2.heap.size m (.slice (some ⟨b, off, none⟩) (ml + 1) cl) (.slice (some ⟨b', off', none⟩) (mt + 1) ct) R.St.none from ⟨_, _, _, _, _, _, hrow3, rfl, rfl, ⟨rfl, rfl⟩, ⟨rfl, rfl⟩⟩)
  have Hgb := Lib.hid (show W1.heap.size ≤ W2.heap.size ∧ W.heap.size < W1.heap.size from ⟨Hb2.out.size, cell_below C0.out⟩)
  clear hW3 hb3 hrow3
  by_cases hm0 : 0 < m
  · have q : decide (0 < m) = true := by simpa using hm0
    have Hmt2 := Lib.hid (show R.mtch r R.cond t fp ft = (R.fit m fp ft R.St.none).bind fun s => if (r.pre.all (R.cond m s.hs)) = true then some s else none from by rw [Hmt.out, if_pos hm0])
    have Hwd := Lib.hid (show B.isWd m = true from B.isWd_iff.2 ⟨by omega, by
      rw [Hm.out]
      split
      · exact R.wd1_le fp ft (R.rep_w32 (fun z hz => (Ht.out.at_ hz).2.1.2) Hft.out)
      · exact Hwy.out.2⟩)
    have Hside := Lib.hid (show Sides2 r.left t m (ml + 1) (mt + 1) (some ⟨b, off, none⟩) (some ⟨b', off', none⟩) W1 from ⟨HL.out, HT.out, R.pnode_ord Hr.out.lp, Ht.out.ord, Hr.out.lp, Ht.out.tw, fun z hz => (Ht.out.at_ hz).2.2.2.1, by omega, Hwd.out⟩)
    have HF := Lib.hid (gfits_any (cp := cl) (ct := ct) Hside.out ml (by omega) mt (by omega) W3.drew W2.heap.size R.St.none Hb3.out.drew Hgb.out.1 (Hbd3.out.below (Below.refl _ _).drew) fp ft Hfp.out Hft.out)
    have Hb35 := Lib.hid (show ∀ X, Kpm (fun i => i = W2.heap.size) W3.drew X → Below W1.heap.size W1 X from fun X hX => Hb3.out.drew.trans (hX.below Hb3.out.size fun i hi => by rw [hi]; exact Hgb.out.1))
    have Hb13 := Hb3
    have HS := Lib.hid (show ∀ Y, Below W1.heap.size W1 Y → Y.cell? ⟨W.heap.size, 0, none⟩ = some (.slice (some ⟨b, off, none⟩) (ml + 1) cl) ∧ Y.cell? ⟨W.heap.size, 1, none⟩ = some (.slice AR nr cr) ∧ Y.cell? ⟨W.heap.size, 2, none⟩ = some (.slice AP np cp) from fun Y hY => by
      have hrow := (hY.block W.heap.size Hgb.out.2).trans Hrow1.out
      refine ⟨?_, ?_, ?_⟩ <;> (rw [cell_of_row _ _ _ _ _ (0, 0) hrow]; rfl))
    have Hok := Lib.hid (show ∀ s, R.fit m fp ft R.St.none = some s → R.HsOk m s.hs from fun s hs => by
      have hbare := R.rep_bare (fun z hz => by
        obtain ⟨k, hk⟩ := List.mem_iff_getElem?.1 hz
        exact R.pnode_bare (Hr.out.lp k z hk)) Hfp.out
      exact R.hs_ok Hwd.out (R.fit_ok fp ft hbare (R.rep_word (Ht.out.word Him.out) Hft.out) _ _ (R.St.none_ok m) hs))
    clear hm0
    obtain ⟨r1, hr1⟩ : ∃ r1, R.fit m fp ft R.St.none = r1 := ⟨_, rfl⟩
    have Hr1 := Lib.hid hr1
    unfold FitPost at HF
    rw [hr1] at HF Hmt2 Hok
    clear hr1
    cases r1 with
    | none =>
      go_wp2_with fail
      rw [← HW3.out]
      refine wp_region_held_drew (S := fun Y => Y.cell? ⟨W.heap.size, 0, none⟩ = some (.slice (some ⟨b, off, none⟩) (ml + 1) cl) ∧ Y.cell? ⟨W.heap.size, 1, none⟩ = some (.slice AR nr cr) ∧ Y.cell? ⟨W.heap.size, 2, none⟩ = some (.slice AP np cp)) (by kernel_rfl) (HS.out W3.drew Hb13.out.drew) (fun hHeld => ?_)
      refine wpAnyH_take (i := 0) (oi := _) (v := ?_) rfl (by kernel_rfl) (by kernel_rfl) (by kernel_rfl) (fun _ _ _ h => h) (Or.inl ⟨by rfl, fun Y hY => ?_⟩) hHeld ?_
      rotate_left
      · (go_simp) <;> with_reducible rfl
      try simp only [Act.put, List.setIfInBounds_toArray, List.set_cons_zero, List.set_cons_succ, List.getElem_toArray, List.getElem_cons_succ, List.getElem_cons_zero]
      refine wpAnyH_take (i := 1) (oi := _) (v := ?_) rfl (by kernel_rfl) (by kernel_rfl) (by kernel_rfl) (fun _ _ _ h => h) (Or.inl ⟨by rfl, fun Y hY => ?_⟩) hHeld ?_
      rotate_left
      · (go_simp) <;> with_reducible rfl
      try simp only [Act.put, List.setIfInBounds_toArray, List.set_cons_zero, List.set_cons_succ, List.getElem_toArray, List.getElem_cons_succ, List.getElem_cons_zero]
      refine wpAnyH_take (i := 2) (oi := _) (v := ?_) rfl (by kernel_rfl) (by kernel_rfl) (by kernel_rfl) (fun _ _ _ h => h) (Or.inl ⟨by rfl, fun Y hY => ?_⟩) hHeld ?_
      rotate_left
      · (go_simp) <;> with_reducible rfl
      try simp only [Act.put, List.setIfInBounds_toArray, List.set_cons_zero, List.set_cons_succ, List.getElem_toArray, List.getElem_cons_succ, List.getElem_cons_zero]
      refine wpAnyH_take (i := 3) (oi := _) (v := ?_) rfl (by kernel_rfl) (by kernel_rfl) (by kernel_rfl) (fun _ _ _ h => h) (Or.inl ⟨by rfl, fun Y hY => ?_⟩) hHeld ?_
      rotate_left
      · (go_simp) <;> with_reducible rfl
      try simp only [Act.put, List.setIfInBounds_toArray, List.set_cons_zero, List.set_cons_succ, List.getElem_toArray, List.getElem_cons_succ, List.getElem_cons_zero]
      refine wpAnyH_take (i := 4) (oi := _) (v := ?_) rfl (by kernel_rfl) (by kernel_rfl) (by kernel_rfl) (fun _ _ _ h => h) (Or.inl ⟨by rfl, fun Y hY => ?_⟩) hHeld ?_
      rotate_left
      · (go_simp) <;> with_reducible rfl
      try simp only [Act.put, List.setIfInBounds_toArray, List.set_cons_zero, List.set_cons_succ, List.getElem_toArray, List.getElem_cons_succ, List.getElem_cons_zero]
      refine wpAnyH_take (i := 5) (oi := _) (v := ?_) rfl (by kernel_rfl) (by kernel_rfl) (by kernel_rfl) (fun _ _ _ h => h) (Or.inl ⟨by rfl, fun Y hY => ?_⟩) hHeld ?_
      rotate_left
      · (go_simp) <;> with_reducible rfl
      try simp only [Act.put, List.setIfInBounds_toArray, List.set_cons_zero, List.set_cons_succ, List.getElem_toArray, List.getElem_cons_succ, List.getElem_cons_zero]
      refine wpAnyH_take (i := 6) (oi := _) (v := ?_) rfl (by kernel_rfl) (by kernel_rfl) (by kernel_rfl) (fun _ _ _ h => h) (Or.inl ⟨by rfl, fun Y hY => ?_⟩) hHeld ?_
      rotate_left
      · (go_simp) <;> with_reducible rfl
      try simp only [Act.put, List.setIfInBounds_toArray, List.set_cons_zero, List.set_cons_succ, List.getElem_toArray, List.getElem_cons_succ, List.getElem_cons_zero]
      refine wpAnyH_ready (rs := [7]) (by kernel_rfl) (by simp) ?_
      refine AllReadyH.cons (o := _) rfl (fun KK hKK => ?_) AllReadyH.nil
      clear hHeld
      go_simp
      (with_reducible refine HF.out.mono ?_)
      rintro e w5 ⟨rfl, hk5, hbd5⟩
      have Hk5 := Lib.hid hk5
      have Hb5 := Lib.hid (Hb35.out _ hk5)
      have Hbd5 := Lib.hid hbd5
      clear hk5 hbd5
      refine hKK.out _ _ (HS.out _ Hb5.out) (fun hHeld => ?_)
      clear hKK KK
      try simp only [Act.put, List.setIfInBounds_toArray, List.set_cons_zero, List.set_cons_succ, List.getElem_toArray, List.getElem_cons_succ, List.getElem_cons_zero]
      refine wpAnyH_take (i := 8) (oi := _) (v := ?_) rfl (by kernel_rfl) (by kernel_rfl) (by kernel_rfl) (fun _ _ _ h => h) (Or.inl ⟨by rfl, fun Y hY => ?_⟩) hHeld ?_
      rotate_left
      · (go_simp) <;> with_reducible rfl
      try simp only [Act.put, List.setIfInBounds_toArray, List.set_cons_zero, List.set_cons_succ, List.getElem_toArray, List.getElem_cons_succ, List.getElem_cons_zero]
      refine wpAnyH_take (i := 9) (oi := _) (v := ?_) rfl (by kernel_rfl) (by kernel_rfl) (by kernel_rfl) (fun _ _ _ h => h) (Or.inl ⟨by rfl, fun Y hY => ?_⟩) hHeld ?_
      rotate_left
      · (go_simp) <;> with_reducible rfl
      try simp only [Act.put, List.setIfInBounds_toArray, List.set_cons_zero, List.set_cons_succ, List.getElem_toArray, List.getElem_cons_succ, List.getElem_cons_zero]
      refine wpAnyH_take (i := 10) (oi := _) (v := undef) rfl (by kernel_rfl) (by kernel_rfl) (by kernel_rfl) (fun _ _ _ h => h) (Or.inr ⟨by rfl, rfl⟩) hHeld ?_
      try simp only [Act.put, List.setIfInBounds_toArray, List.set_cons_zero, List.set_cons_succ, List.getElem_toArray, List.getElem_cons_succ, List.getElem_cons_zero]
      refine wpAnyH_take (i := 11) (oi := _) (v := undef) rfl (by kernel_rfl) (by kernel_rfl) (by kernel_rfl) (fun _ _ _ h => h) (Or.inr ⟨by rfl, rfl⟩) hHeld ?_
      try simp only [Act.put, List.setIfInBounds_toArray, List.set_cons_zero, List.set_cons_succ, List.getElem_toArray, List.getElem_cons_succ, List.getElem_cons_zero]
      refine wpAnyH_take (i := 12) (oi := _) (v := undef) rfl (by kernel_rfl) (by kernel_rfl) (by kernel_rfl) (fun _ _ _ h => h) (Or.inr ⟨by rfl, rfl⟩) hHeld ?_
      try simp only [Act.put, List.setIfInBounds_toArray, List.set_cons_zero, List.set_cons_succ, List.getElem_toArray, List.getElem_cons_succ, List.getElem_cons_zero]
      refine wpAnyH_take (i := 13) (oi := _) (v := undef) rfl (by kernel_rfl) (by kernel_rfl) (by kernel_rfl) (fun _ _ _ h => h) (Or.inr ⟨by rfl, rfl⟩) hHeld ?_
      try simp only [Act.put, List.setIfInBounds_toArray, List.set_cons_zero, List.set_cons_succ, List.getElem_toArray, List.getElem_cons_succ, List.getElem_cons_zero]
      refine wpAnyH_take (i := 14) (oi := _) (v := undef) rfl (by kernel_rfl) (by kernel_rfl) (by kernel_rfl) (fun _ _ _ h => h) (Or.inr ⟨by rfl, rfl⟩) hHeld ?_
      try simp only [Act.put, List.setIfInBounds_toArray, List.set_cons_zero, List.set_cons_succ, List.getElem_toArray, List.getElem_cons_succ, List.getElem_cons_zero]
      refine wpAnyH_take (i := 15) (oi := _) (v := undef) rfl (by kernel_rfl) (by kernel_rfl) (by kernel_rfl) (fun _ _ _ h => h) (Or.inr ⟨by rfl, rfl⟩) hHeld ?_
      try simp only [Act.put, List.setIfInBounds_toArray, List.set_cons_zero, List.set_cons_succ, List.getElem_toArray, List.getElem_cons_succ, List.getElem_cons_zero]
      refine wpAnyH_take (i := 16) (oi := _) (v := undef) rfl (by kernel_rfl) (by kernel_rfl) (by kernel_rfl) (fun _ _ _ h => h) (Or.inr ⟨by rfl, rfl⟩) hHeld ?_
      try simp only [Act.put, List.setIfInBounds_toArray, List.set_cons_zero, List.set_cons_succ, List.getElem_toArray, List.getElem_cons_succ, List.getElem_cons_zero]
      refine wpAnyH_take (i := 17) (oi := _) (v := ?_) rfl (by kernel_rfl) (by kernel_rfl) (by kernel_rfl) (fun _ _ _ h => h) (Or.inl ⟨by rfl, fun Y hY => ?_⟩) hHeld ?_
      rotate_left
      · (go_simp) <;> with_reducible rfl
      try simp only [Act.put, List.setIfInBounds_toArray, List.set_cons_zero, List.set_cons_succ, List.getElem_toArray, List.getElem_cons_succ, List.getElem_cons_zero]
      refine wpAnyH_take (i := 18) (oi := _) (v := ?_) rfl (by kernel_rfl) (by kernel_rfl) (by kernel_rfl) (fun _ _ _ h => h) (Or.inl ⟨by rfl, fun Y hY => ?_⟩) hHeld ?_
      rotate_left
      · (go_simp) <;> with_reducible rfl
      try simp only [Act.put, List.setIfInBounds_toArray, List.set_cons_zero, List.set_cons_succ, List.getElem_toArray, List.getElem_cons_succ, List.getElem_cons_zero]
      refine wpAnyH_take (i := 19) (oi := _) (v := ?_) rfl (by kernel_rfl) (by kernel_rfl) (by kernel_rfl) (fun _ _ _ h => h) (Or.inl ⟨by rfl, fun Y hY => ?_⟩) hHeld ?_
      rotate_left
      · (go_simp) <;> with_reducible rfl
      try simp only [Act.put, List.setIfInBounds_toArray, List.set_cons_zero, List.set_cons_succ, List.getElem_toArray, List.getElem_cons_succ, List.getElem_cons_zero]
      refine wpAnyH_done (by kernel_rfl) ?_ _
      have Hb15 := Lib.hid (Hb1.out.trans (Hb5.out.mono Hb1.out.size))
      go_wp2
      go_ret2
      exact matchPost_none (by rw [Hmt2.out]; rfl) Hb15.out (Nat.le_trans Hb1.out.size Hgb.out.1)
    | some s =>
      have HM := Lib.hid (show ∀ X, Below W1.heap.size W1 X → BdAt X W2.heap.size m (.slice (some ⟨b, off, none⟩) (ml + 1) cl) (.slice (some ⟨b', off', none⟩) (mt + 1) ct) s → Calls Tryz.prog 150 #[.agg #[.slice (some ⟨b, off, none⟩) (ml + 1) cl, .slice AR nr cr, .slice AP np cp], .int .i64 m, .slice (some ⟨W2.heap.size, 7, none⟩) 2 2] X fun e W' => e = .returned (.bool (r.pre.all (R.cond m s.hs))) ∧ Below X.heap.size X W' from fun X hX hB => gmeets_any (HP.out.below monoCd hX) hB.hs Hr.out.cd Hwd.out (Hok.out s rfl))
      obtain ⟨r2, hr2⟩ : ∃ r2, r.pre.all (R.cond m s.hs) = r2 := ⟨_, rfl⟩
      have Hr2 := Lib.hid hr2
      rw [hr2] at HM
      clear hr2
      go_wp2_with fail
      rw [← HW3.out]
      refine wp_region_held_drew (S := fun Y => Y.cell? ⟨W.heap.size, 0, none⟩ = some (.slice (some ⟨b, off, none⟩) (ml + 1) cl) ∧ Y.cell? ⟨W.heap.size, 1, none⟩ = some (.slice AR nr cr) ∧ Y.cell? ⟨W.heap.size, 2, none⟩ = some (.slice AP np cp)) (by kernel_rfl) (HS.out W3.drew Hb13.out.drew) (fun hHeld => ?_)
      refine wpAnyH_take (i := 0) (oi := _) (v := ?_) rfl (by kernel_rfl) (by kernel_rfl) (by kernel_rfl) (fun _ _ _ h => h) (Or.inl ⟨by rfl, fun Y hY => ?_⟩) hHeld ?_
      rotate_left
      · (go_simp) <;> with_reducible rfl
      try simp only [Act.put, List.setIfInBounds_toArray, List.set_cons_zero, List.set_cons_succ, List.getElem_toArray, List.getElem_cons_succ, List.getElem_cons_zero]
      refine wpAnyH_take (i := 1) (oi := _) (v := ?_) rfl (by kernel_rfl) (by kernel_rfl) (by kernel_rfl) (fun _ _ _ h => h) (Or.inl ⟨by rfl, fun Y hY => ?_⟩) hHeld ?_
      rotate_left
      · (go_simp) <;> with_reducible rfl
      try simp only [Act.put, List.setIfInBounds_toArray, List.set_cons_zero, List.set_cons_succ, List.getElem_toArray, List.getElem_cons_succ, List.getElem_cons_zero]
      refine wpAnyH_take (i := 2) (oi := _) (v := ?_) rfl (by kernel_rfl) (by kernel_rfl) (by kernel_rfl) (fun _ _ _ h => h) (Or.inl ⟨by rfl, fun Y hY => ?_⟩) hHeld ?_
      rotate_left
      · (go_simp) <;> with_reducible rfl
      try simp only [Act.put, List.setIfInBounds_toArray, List.set_cons_zero, List.set_cons_succ, List.getElem_toArray, List.getElem_cons_succ, List.getElem_cons_zero]
      refine wpAnyH_take (i := 3) (oi := _) (v := ?_) rfl (by kernel_rfl) (by kernel_rfl) (by kernel_rfl) (fun _ _ _ h => h) (Or.inl ⟨by rfl, fun Y hY => ?_⟩) hHeld ?_
      rotate_left
      · (go_simp) <;> with_reducible rfl
      try simp only [Act.put, List.setIfInBounds_toArray, List.set_cons_zero, List.set_cons_succ, List.getElem_toArray, List.getElem_cons_succ, List.getElem_cons_zero]
      refine wpAnyH_take (i := 4) (oi := _) (v := ?_) rfl (by kernel_rfl) (by kernel_rfl) (by kernel_rfl) (fun _ _ _ h => h) (Or.inl ⟨by rfl, fun Y hY => ?_⟩) hHeld ?_
      rotate_left
      · (go_simp) <;> with_reducible rfl
      try simp only [Act.put, List.setIfInBounds_toArray, List.set_cons_zero, List.set_cons_succ, List.getElem_toArray, List.getElem_cons_succ, List.getElem_cons_zero]
      refine wpAnyH_take (i := 5) (oi := _) (v := ?_) rfl (by kernel_rfl) (by kernel_rfl) (by kernel_rfl) (fun _ _ _ h => h) (Or.inl ⟨by rfl, fun Y hY => ?_⟩) hHeld ?_
      rotate_left
      · (go_simp) <;> with_reducible rfl
      try simp only [Act.put, List.setIfInBounds_toArray, List.set_cons_zero, List.set_cons_succ, List.getElem_toArray, List.getElem_cons_succ, List.getElem_cons_zero]
      refine wpAnyH_take (i := 6) (oi := _) (v := ?_) rfl (by kernel_rfl) (by kernel_rfl) (by kernel_rfl) (fun _ _ _ h => h) (Or.inl ⟨by rfl, fun Y hY => ?_⟩) hHeld ?_
      rotate_left
      · (go_simp) <;> with_reducible rfl
      try simp only [Act.put, List.setIfInBounds_toArray, List.set_cons_zero, List.set_cons_succ, List.getElem_toArray, List.getElem_cons_succ, List.getElem_cons_zero]
      refine wpAnyH_ready (rs := [7]) (by kernel_rfl) (by simp) ?_
      refine AllReadyH.cons (o := _) rfl (fun KK hKK => ?_) AllReadyH.nil
      clear hHeld
      go_simp
      (with_reducible refine HF.out.mono ?_)
      rintro e w5 ⟨rfl, hk5, hbd5⟩
      have Hk5 := Lib.hid hk5
      have Hb5 := Lib.hid (Hb35.out _ hk5)
      have Hbd5 := Lib.hid hbd5
      clear hk5 hbd5
      refine hKK.out _ _ (HS.out _ Hb5.out) (fun hHeld => ?_)
      clear hKK KK
      try simp only [Act.put, List.setIfInBounds_toArray, List.set_cons_zero, List.set_cons_succ, List.getElem_toArray, List.getElem_cons_succ, List.getElem_cons_zero]
      refine wpAnyH_take (i := 8) (oi := _) (v := ?_) rfl (by kernel_rfl) (by kernel_rfl) (by kernel_rfl) (fun _ _ _ h => h) (Or.inl ⟨by rfl, fun Y hY => ?_⟩) hHeld ?_
      rotate_left
      · (go_simp) <;> with_reducible rfl
      try simp only [Act.put, List.setIfInBounds_toArray, List.set_cons_zero, List.set_cons_succ, List.getElem_toArray, List.getElem_cons_succ, List.getElem_cons_zero]
      refine wpAnyH_take (i := 9) (oi := _) (v := ?_) rfl (by kernel_rfl) (by kernel_rfl) (by kernel_rfl) (fun _ _ _ h => h) (Or.inl ⟨by rfl, fun Y hY => ?_⟩) hHeld ?_
      rotate_left
      · (go_simp) <;> with_reducible rfl
      try simp only [Act.put, List.setIfInBounds_toArray, List.set_cons_zero, List.set_cons_succ, List.getElem_toArray, List.getElem_cons_succ, List.getElem_cons_zero]
      refine wpAnyH_take (i := 10) (oi := _) (v := ?_) rfl (by kernel_rfl) (by kernel_rfl) (by kernel_rfl) (fun _ _ _ h => h) (Or.inl ⟨by rfl, fun Y hY => ?_⟩) hHeld ?_
      rotate_left
      · obtain ⟨y0, y1, y2⟩ := hY
        (go_simp) <;> with_reducible rfl
      try simp only [Act.put, List.setIfInBounds_toArray, List.set_cons_zero, List.set_cons_succ, List.getElem_toArray, List.getElem_cons_succ, List.getElem_cons_zero]
      refine wpAnyH_take (i := 11) (oi := _) (v := ?_) rfl (by kernel_rfl) (by kernel_rfl) (by kernel_rfl) (fun _ _ _ h => h) (Or.inl ⟨by rfl, fun Y hY => ?_⟩) hHeld ?_
      rotate_left
      · (go_simp) <;> with_reducible rfl
      try simp only [Act.put, List.setIfInBounds_toArray, List.set_cons_zero, List.set_cons_succ, List.getElem_toArray, List.getElem_cons_succ, List.getElem_cons_zero]
      refine wpAnyH_take (i := 12) (oi := _) (v := ?_) rfl (by kernel_rfl) (by kernel_rfl) (by kernel_rfl) (fun _ _ _ h => h) (Or.inl ⟨by rfl, fun Y hY => ?_⟩) hHeld ?_
      rotate_left
      · (go_simp) <;> with_reducible rfl
      try simp only [Act.put, List.setIfInBounds_toArray, List.set_cons_zero, List.set_cons_succ, List.getElem_toArray, List.getElem_cons_succ, List.getElem_cons_zero]
      refine wpAnyH_take (i := 13) (oi := _) (v := ?_) rfl (by kernel_rfl) (by kernel_rfl) (by kernel_rfl) (fun _ _ _ h => h) (Or.inl ⟨by rfl, fun Y hY => ?_⟩) hHeld ?_
      rotate_left
      · (go_simp) <;> with_reducible rfl
      try simp only [Act.put, List.setIfInBounds_toArray, List.set_cons_zero, List.set_cons_succ, List.getElem_toArray, List.getElem_cons_succ, List.getElem_cons_zero]
      refine wpAnyH_take (i := 14) (oi := _) (v := ?_) rfl (by kernel_rfl) (by kernel_rfl) (by kernel_rfl) (fun _ _ _ h => h) (Or.inl ⟨by rfl, fun Y hY => ?_⟩) hHeld ?_
      rotate_left
      · (go_simp) <;> with_reducible rfl
      try simp only [Act.put, List.setIfInBounds_toArray, List.set_cons_zero, List.set_cons_succ, List.getElem_toArray, List.getElem_cons_succ, List.getElem_cons_zero]
      refine wpAnyH_take (i := 15) (oi := _) (v := ?_) rfl (by kernel_rfl) (by kernel_rfl) (by kernel_rfl) (fun _ _ _ h => h) (Or.inl ⟨by rfl, fun Y hY => ?_⟩) hHeld ?_
      rotate_left
      · (go_simp) <;> with_reducible rfl
      try simp only [Act.put, List.setIfInBounds_toArray, List.set_cons_zero, List.set_cons_succ, List.getElem_toArray, List.getElem_cons_succ, List.getElem_cons_zero]
      refine wpAnyH_ready (rs := [16]) (by kernel_rfl) (by simp) ?_
      refine AllReadyH.cons (o := _) rfl (fun KK hKK => ?_) AllReadyH.nil
      clear hHeld
      go_simp
      (with_reducible refine (HM.out _ Hb5.out (Hbd5.out s rfl)).mono ?_)
      rintro e w6 ⟨rfl, hb6⟩
      have Hb6 := Lib.hid hb6
      clear hb6
      refine hKK.out _ _ (HS.out _ (Hb5.out.trans (Hb6.out.mono Hb5.out.size))) (fun hHeld => ?_)
      clear hKK KK
      try simp only [Act.put, List.setIfInBounds_toArray, List.set_cons_zero, List.set_cons_succ, List.getElem_toArray, List.getElem_cons_succ, List.getElem_cons_zero]
      refine wpAnyH_take (i := 17) (oi := _) (v := ?_) rfl (by kernel_rfl) (by kernel_rfl) (by kernel_rfl) (fun _ _ _ h => h) (Or.inl ⟨by rfl, fun Y hY => ?_⟩) hHeld ?_
      rotate_left
      · (go_simp) <;> with_reducible rfl
      try simp only [Act.put, List.setIfInBounds_toArray, List.set_cons_zero, List.set_cons_succ, List.getElem_toArray, List.getElem_cons_succ, List.getElem_cons_zero]
      refine wpAnyH_take (i := 18) (oi := _) (v := ?_) rfl (by kernel_rfl) (by kernel_rfl) (by kernel_rfl) (fun _ _ _ h => h) (Or.inl ⟨by rfl, fun Y hY => ?_⟩) hHeld ?_
      rotate_left
      · (go_simp) <;> with_reducible rfl
      try simp only [Act.put, List.setIfInBounds_toArray, List.set_cons_zero, List.set_cons_succ, List.getElem_toArray, List.getElem_cons_succ, List.getElem_cons_zero]
      refine wpAnyH_take (i := 19) (oi := _) (v := ?_) rfl (by kernel_rfl) (by kernel_rfl) (by kernel_rfl) (fun _ _ _ h => h) (Or.inl ⟨by rfl, fun Y hY => ?_⟩) hHeld ?_
      rotate_left
      · (go_simp) <;> with_reducible rfl
      try simp only [Act.put, List.setIfInBounds_toArray, List.set_cons_zero, List.set_cons_succ, List.getElem_toArray, List.getElem_cons_succ, List.getElem_cons_zero]
      refine wpAnyH_done (by kernel_rfl) ?_ _
      have Hb16 := Lib.hid (Hb1.out.trans ((Hb5.out.trans (Hb6.out.mono Hb5.out.size)).mono Hb1.out.size))
      have Hbd6 := Lib.hid ((Hbd5.out s rfl).below Hb6.out)
      go_wp2
      go_ret2
      have hmm : R.mtch r R.cond t fp ft = if r2 = true then some s else none := by rw [Hmt2.out, ← Hr2.out]; rfl
      cases r2 with
      | true => exact matchPost_some (by rw [hmm]; rfl) Hb16.out (Nat.le_trans Hb1.out.size Hgb.out.1) Hbd6.out
      | false => exact matchPost_none (by rw [hmm]; rfl) Hb16.out (Nat.le_trans Hb1.out.size Hgb.out.1)
  · have q : decide (0 < m) = false := by simpa using hm0
    have Hmt2 := Lib.hid (show R.mtch r R.cond t fp ft = none from by rw [Hmt.out, if_neg hm0]; rfl)
    clear hm0
    go_wp2_with fail
    rw [← HW3.out]
    go_quiet (fail)
    go_wp2
    go_ret2
    exact matchPost_none Hmt2.out (Hb1.out.trans ((Hb3.out.dr ⟨_, rfl⟩).mono Hb1.out.size)) (Nat.le_trans Hb1.out.size Hgb.out.1)
end Go.Proofs.YtbiopedpceddeaaGreatDoor
