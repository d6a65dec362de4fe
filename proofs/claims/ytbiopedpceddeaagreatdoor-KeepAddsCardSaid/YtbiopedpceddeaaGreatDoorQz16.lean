/- Part. -/
import Derived.Test.YtbiopedpceddeaaGreatDoorQz14
import Derived.Deep.DeepCutAuto
set_option linter.unusedVariables false
set_option linter.unusedSimpArgs false
set_option maxRecDepth 100000
set_option maxHeartbeats 16000000
namespace Go.Proofs.YtbiopedpceddeaaGreatDoor
section
open Go.RowKit Go.Maps
namespace KT
theorem cells2 {w : World} {g : Nat} {T : TypeId} {a0 a1 : Value} (h : w.heap[g]? = some (.cells #[a0, a1] T (0, 0))) : w.cell? ⟨g, 0, none⟩ = some a0 ∧ w.cell? ⟨g, 1, none⟩ = some a1 := by
 constructor
 all_goals rw [cell_of_row _ _ _ _ _ (0, 0) h]; rfl
theorem kCompact_none (A : Option Addr) (c : Nat) (v : Value) (W : World) : Calls Tryz.prog 63 #[.slice A 0 c, v] W fun e w' => e = .returned (.slice A 0 c) ∧ W = w' := by
 go_enter Tryz.func63, Tryz.ntmps63
 go_wp2
 go_ret
 exact ⟨rfl, rfl⟩
theorem infoSl : (Tryz.prog.info? 60).map (fun i => (i.zero, i.size, i.bytes)) = some (some (.slice none 0 0), 1, 24) := by kernel_rfl
theorem cell_one_row {w : World} {g : Nat} {T : TypeId} {u0 : Value} (h : w.heap[g]? = some (.cells #[u0] T (0, 0))) : ∀ (j : Nat) (u : Value), [u0][j]? = some u → w.cell? ((⟨g, 0, none⟩ : Addr).add j) = some u := by
 intro j u hu
 rcases j with _ | j
 · simp at hu
   subst hu
   rw [addr_add_zero, cell_of_row _ _ _ _ _ (0, 0) h]
   rfl
 · simp at hu
theorem cd_rng {W : World} {A : Option Addr} {n : Nat} {l : List R.Cd} (h : StAt 3 CdR W A n l) : ∀ c ∈ l, 0 ≤ c.imm ∧ c.imm < 4294967296 := fun c hc => by
 obtain ⟨k, hk⟩ := List.getElem?_of_mem hc
 have hlt := (List.getElem?_eq_some_iff.1 hk).1
 rw [h.len] at hlt
 obtain ⟨y, b, off, hy, _, _, _, _, _, i0, i1⟩ := cd_cells h hlt
 rw [hk] at hy
 cases hy
 exact ⟨i0, i1⟩
theorem preT_snoc (xs : List (List Int)) (l : List Int) : preT (xs ++ [l]) = preT xs ++ 32 :: 105 :: 102 :: 32 :: nums l := by
 induction xs with
 | nil => simp [preT]
 | cons x xs ih => rw [List.cons_append, preT, preT, ih]; simp
theorem preT_len {xs : List (List Int)} (h : ∀ x ∈ xs, x.length = 3 ∧ ∀ y ∈ x, I64 y) : (preT xs).length ≤ xs.length * 67 := by
 induction xs with
 | nil => simp [preT]
 | cons x xs ih =>
  have h1 := ih fun y hy => h y (List.mem_cons_of_mem _ hy)
  obtain ⟨h2, h3⟩ := h x (by simp)
  have h4 := nums_len h3
  rw [preT]
  simp only [List.length_append, List.length_cons, List.length_nil]
  omega
def KeyPost (W : World) (r : R.Rl) (e : Ending) (w' : World) : Prop :=
 ∃ k : List UInt8, e = .returned (.tuple #[.string ⟨k.toArray⟩, .int .i64 (R.rvalid r)]) ∧ (R.rvalid r = 0 → IsKey r k) ∧ (R.rvalid r ≠ 0 → k = []) ∧ Below W.heap.size W w' ∧ k.length ≤ 1000000
theorem kKey_any {r : R.Rl} {nl cl nr cr np cp : Nat} {AL AR AP : Option Addr} {W : World} (hR : RlAt W r nl nr np AL AR AP) (hT : Tens W) :
 Calls Tryz.prog 18 #[.agg #[.slice AL nl cl, .slice AR nr cr, .slice AP np cp]] W (KeyPost W r) := by
 obtain ⟨W1, hW1⟩ : ∃ W1, W1 = W.alloc (.cells #[.slice AL nl cl, .slice AR nr cr, .slice AP np cp] 33) := ⟨_, rfl⟩
 have hb1 : Below W.heap.size W W1 := by rw [hW1]; exact al0
 have hrow : W1.heap[W.heap.size]? = some (.cells #[.slice AL nl cl, .slice AR nr cr, .slice AP np cp] 33 (0, 0)) := by rw [hW1]; exact heap_alloc_new W _
 obtain ⟨c0, c1, c2, _⟩ := rl_cells hrow
 have Hrow := kH hrow
 have Hb1 := kH hb1
 have HR := kH hR
 have HR1 := kH (hR.below hb1)
 have HV := kH (gValidate_any r nl cl nr cr np cp AL AR AP W1 HR1.out.sl HR1.out.sr HR1.out.sp HR1.out.fl HR1.out.fr)
 have HT1 := kH (hT.below hb1)
 have HW1 := kH hW1
 have hlp := hR.sp.le
 have Hlp := kH hR.sp.len
 have Hll := kH hR.sl.len
 have Hlr := kH hR.sr.len
 rw [hW1] at c0 c1 c2
 clear hR hT hb1 hrow hW1
 by_cases hv : R.rvalid r = 0
 rotate_left
 · obtain ⟨z, hz⟩ : ∃ z, R.rvalid r = z := ⟨_, rfl⟩
   have Hz := kH hz
   rw [hz] at hv HV
   have q : (z != 0) = true := by simpa using hv
   have Hv := kH hv
   clear hv hz
   go_enter Tryz.func18, Tryz.ntmps18
   go_wp2_with fail
   rw [← HW1.out]
   (with_reducible refine HV.out.mono ?_)
   rintro e w2 ⟨rfl, hb2⟩
   have Hb2 := kH (Hb1.out.trans (hb2.mono Hb1.out.size))
   clear hb2 c0 c1 c2
   go_wp2
   go_ret2
   exact ⟨[], by rw [Hz.out]; rfl, fun h => absurd (by rw [← Hz.out]; exact h) Hv.out, fun _ => rfl, Hb2.out, by simp⟩
 rw [hv] at HV
 have Hv := kH hv
 have hok := R.rok_of hv
 have Hok := kH hok
 clear hv
 obtain ⟨f, hf⟩ := T.Rep.one (R.pnode_ord hok.lp) (k := nl - 1) (by rw [Hll.out]; have := hok.lpos; rw [Hll.out] at this; omega)
 obtain ⟨g, hg⟩ := T.Rep.one (R.pnode_ord hok.rp) (k := nr - 1) (by rw [Hlr.out]; have := hok.rpos; rw [Hlr.out] at this; omega)
 obtain ⟨L, hL⟩ : ∃ L, L = T.canon f := ⟨_, rfl⟩
 obtain ⟨Q, hQ⟩ : ∃ Q, Q = T.canon g := ⟨_, rfl⟩
 have hl1 : 1 ≤ nl := by have := hok.lpos; rw [Hll.out] at this; exact this
 have hl2 : nl ≤ 12 := by have := hok.llen; rw [Hll.out] at this; exact this
 have hr1 : 1 ≤ nr := by have := hok.rpos; rw [Hlr.out] at this; exact this
 have hr2 : nr ≤ 12 := by have := hok.rlen; rw [Hlr.out] at this; exact this
 have hp4 : np ≤ 4 := by have := hok.plen; rw [Hlp.out] at this; exact this
 have HSd := kH (show Sides r L Q from ⟨⟨f, by rw [Hll.out, show (nl : Int) - 1 = ((nl - 1 : Nat) : Int) by omega]; exact hf, hL⟩, ⟨g, by rw [Hlr.out, show (nr : Int) - 1 = ((nr - 1 : Nat) : Int) by omega]; exact hg, hQ⟩⟩)
 obtain ⟨hLi, hLl⟩ := canon_ndI hok.lp (nd_rng HR.out.sl) hok.llen hf
 obtain ⟨hQi, hQl⟩ := canon_ndI hok.rp (nd_rng HR.out.sr) hok.rlen hg
 rw [← hL] at hLi hLl
 rw [← hQ] at hQi hQl
 obtain ⟨V, hV⟩ : ∃ V, V = seen 33 [] L := ⟨_, rfl⟩
 obtain ⟨H, hH⟩ : ∃ H, H = seen 34 [] L := ⟨_, rfl⟩
 have hVl : V.length ≤ 12 := by rw [hV]; have := seen_len 33 L []; simp at this; omega
 have hHl : H.length ≤ 12 := by rw [hH]; have := seen_len 34 L []; simp at this; omega
 have HV2 := kH (show seen 33 V Q = V from seen_still 33 Q V (by rw [hV]; exact HSd.out.right_in hok (.inl rfl)))
 have HH2 := kH (show seen 34 H Q = H from seen_still 34 Q H (by rw [hH]; exact HSd.out.right_in hok (.inr rfl)))
 have Hpre := kH (show ∀ c ∈ r.pre, c.hole ∈ H from by rw [hH]; exact HSd.out.pre_in hok)
 have Hvl := kH hVl
 have Hhl := kH hHl
 have HtL := kH (show ∀ (X : World) (bv bh : Nat), StAt 5 NdR X AL nl r.left → Tens X → NumSt [] [] bv bh X → Calls Tryz.prog 59 #[.agg #[.map (some bv), .map (some bh)], .slice AL nl cl] X fun e W' => e = .returned (.string ⟨(sideT (renL [] [] L)).toArray⟩) ∧ NumSt V H bv bh W' ∧ Kpm (Two bv bh) X W' from fun X bv bh h1 h2 h3 => by
  have := ktext_any (cn := cl) h2 h1 (pnode_twf hok.lp) (by omega) hl1 f hf (by rw [← hL]; exact hLi) (by rw [← hL]; omega) (by rw [← hL]; exact HSd.out.ne.1) h3 (by simp) (by simp)
  rw [← hL, ← hV, ← hH] at this
  exact this)
 have HtQ := kH (show ∀ (X : World) (bv bh : Nat), StAt 5 NdR X AR nr r.right → Tens X → NumSt V H bv bh X → Calls Tryz.prog 59 #[.agg #[.map (some bv), .map (some bh)], .slice AR nr cr] X fun e W' => e = .returned (.string ⟨(sideT (renL V H Q)).toArray⟩) ∧ NumSt V H bv bh W' ∧ Kpm (Two bv bh) X W' from fun X bv bh h1 h2 h3 => by
  have := ktext_any (cn := cr) h2 h1 (pnode_twf hok.rp) (by omega) hr1 g hg (by rw [← hQ]; exact hQi) (by rw [← hQ]; omega) (by rw [← hQ]; exact HSd.out.ne.2) h3 (by omega) (by omega)
  rw [← hQ, HV2.out, HH2.out] at this
  exact this)
 have HmkK := kH (show ∀ (qs : List (List Int)), qs.Pairwise (fun a b => ¬ ltL b a) → (∀ p, p ∈ qs ↔ ∃ c ∈ r.pre, p = cdL H c) → IsKey r (keyT (renL [] [] L) (renL V H Q) (compT qs)) from fun qs h1 h2 => by
  rw [hV, hH]
  refine IsKey.mk' hok HSd.out h1 (fun p => ?_)
  rw [h2 p, hH]
  rfl)
 have Hlens := kH (show (sideT (renL [] [] L)).length ≤ 12 * 148 ∧ (sideT (renL V H Q)).length ≤ 12 * 148 from by
  constructor
  · rw [renL_eq]
    have := sideT_len (V := seen 33 [] L) (H := seen 34 [] L) (by rw [← hV]; omega) (by rw [← hH]; omega) hLi
    unfold sideT
    omega
  · rw [renL_eq]
    have := sideT_len (V := seen 33 V Q) (H := seen 34 H Q) (by rw [HV2.out]; omega) (by rw [HH2.out]; omega) hQi
    unfold sideT
    omega)
 obtain ⟨tl, htl⟩ : ∃ tl, tl = sideT (renL [] [] L) := ⟨_, rfl⟩
 obtain ⟨tq, htq⟩ : ∃ tq, tq = sideT (renL V H Q) := ⟨_, rfl⟩
 rw [← htl] at HtL
 rw [← htq] at HtQ
 have Htl := kH htl
 have Htq := kH htq
 clear hok hf hg hL hQ hl1 hl2 hr1 hr2 hLi hLl hQi hQl hV hH hVl hHl htl htq HSd HV2 HH2
 have hmk := fun W => run_makeMap_any (P := Tryz.prog) Tryz.underlying82 W
 go_enter Tryz.func18, Tryz.ntmps18
 go_wp2_with fail
 rw [← HW1.out]
 (with_reducible refine HV.out.mono ?_)
 rintro e w2 ⟨rfl, hb2⟩
 have Hb2 := kH hb2
 clear hb2 c0 c1 c2 HV
 obtain ⟨W3, hW3⟩ : ∃ W3, W3 = ((w2.alloc (.map #[] 0)).alloc (.map #[] 0)).alloc (.cells #[.map (some w2.heap.size), .map (some (w2.heap.size + 1))] 84) := ⟨_, rfl⟩
 have Hs3 := kH (show W3.heap.size = w2.heap.size + 3 from by rw [hW3]; simp)
 have hb3 : Below w2.heap.size w2 W3 := by rw [hW3]; exact ((al0).alloc (by simp) _).alloc (by simp; omega) _
 have Hb3 := kH (show Below W1.heap.size W1 W3 from Hb2.out.trans (hb3.mono Hb2.out.size))
 have hN3 : NumSt [] [] w2.heap.size (w2.heap.size + 1) W3 := by
  refine ⟨⟨.nil, ?_⟩, ⟨.nil, ?_⟩, by omega⟩
  · have h := MapAt.made (P := Tryz.prog) (kt := 26) (ek := ekU) (R := IntI) w2
    rw [hW3]
    exact MapAt.keep (R' := IntI) (MapAt.keep (R' := IntI) h (Below.heap_alloc _ _ _ (by simp)) fun _ _ _ h => h) (Below.heap_alloc _ _ _ (by simp; omega)) fun _ _ _ h => h
  · have h := MapAt.made (P := Tryz.prog) (kt := 26) (ek := ekU) (R := IntI) (w2.alloc (.map #[] 0))
    rw [World.size_alloc] at h
    rw [hW3]
    exact h.keep (Below.heap_alloc _ _ _ (by simp)) fun _ _ _ h => h
 have HN3 := kH hN3
 have hr3 : W3.heap[w2.heap.size + 2]? = some (.cells #[.map (some w2.heap.size), .map (some (w2.heap.size + 1))] 84 (0, 0)) := by
  rw [hW3]
  have h := heap_alloc_new ((w2.alloc (.map #[] 0)).alloc (.map #[] 0)) (.cells #[.map (some w2.heap.size), .map (some (w2.heap.size + 1))] 84)
  simpa using h
 have Hr3 := kH hr3
 have Hrow3 := kH ((Hb3.out.block _ (gA Hrow.out).1).trans Hrow.out)
 have HT3 := kH (HT1.out.below Hb3.out)
 have Hwb := kH (show W.heap.size < w2.heap.size from Nat.lt_of_lt_of_le (gA Hrow.out).1 Hb2.out.size)
 clear hb3 hN3 hr3
 go_upto_region 5 with (fail)
 rw [← hW3]
 clear hW3 hmk
 obtain ⟨bv, hbv⟩ : ∃ bv, bv = w2.heap.size := ⟨_, rfl⟩
 obtain ⟨bh, hbh⟩ : ∃ bh, bh = w2.heap.size + 1 := ⟨_, rfl⟩
 obtain ⟨tb, htb⟩ : ∃ tb, tb = w2.heap.size + 2 := ⟨_, rfl⟩
 have Hnum := kH (show W.heap.size < bv ∧ bv < bh ∧ bh < tb ∧ tb < W3.heap.size from by have := Hwb.out; have := Hs3.out; omega)
 rw [← hbh, ← hbv] at HN3
 rw [← htb, ← hbh, ← hbv] at Hr3
 rw [← htb]
 clear hbv hbh htb Hs3 Hwb
 have HS := kH (show ∀ Y : World, Kpm (Two bv bh) W3 Y → Y.cell? ⟨tb, 0, none⟩ = some (.map (some bv)) ∧ Y.cell? ⟨tb, 1, none⟩ = some (.map (some bh)) ∧ Y.cell? ⟨W.heap.size, 0, none⟩ = some (.slice AL nl cl) ∧ Y.cell? ⟨W.heap.size, 1, none⟩ = some (.slice AR nr cr) ∧ Y.cell? ⟨W.heap.size, 2, none⟩ = some (.slice AP np cp) from fun Y hY => by
  obtain ⟨n1, n2, n3, n4⟩ := Hnum.out
  have hr := (hY.block tb n4 (fun h => by rcases h with h | h <;> omega)).trans Hr3.out
  have hr' := (hY.block W.heap.size (by omega) (fun h => by rcases h with h | h <;> omega)).trans Hrow3.out
  obtain ⟨a1, a2⟩ := cells2 hr
  obtain ⟨b1, b2, b3, _⟩ := rl_cells hr'
  exact ⟨a1, a2, b1, b2, b3⟩)
 have Hk0 := kH (show Kpm (Two bv bh) W3 W3.drew from (Kpm.refl _ _).drew)
 have HBw := kH (show ∀ Y : World, Kpm (Two bv bh) W3 Y → Below W.heap.size W Y from fun Y hY => by
  obtain ⟨n1, n2, n3, n4⟩ := Hnum.out
  exact (Hb1.out.trans (Hb3.out.mono Hb1.out.size)).trans (hY.below (B := W.heap.size) (by omega) (fun i hi => by rcases hi with hi | hi <;> omega)))
 have hl1 : tl.length ≤ 1776 := by rw [Htl.out]; exact Hlens.out.1
 have hl2 : tq.length ≤ 1776 := by rw [Htq.out]; exact Hlens.out.2
 have hn1 : ¬ 9223372036854775807 < tl.length + 4 := by omega
 have hn2 : ¬ 9223372036854775807 < tl.length + 4 + tq.length := by omega
 have hm1 := ByteArray.mk_append_mk tl [32, 61, 62, 32]
 have hm2 := ByteArray.mk_append_mk (tl ++ [32, 61, 62, 32]) tq
 have Htx1 := kH (HtL.out W3.drew bv bh (HR.out.below (HBw.out _ Hk0.out)).sl (HT3.out.two HN3.out Hk0.out) (HN3.out.keep rfl rfl))
 refine wp_region_held_drew (S := fun Y : World => Y.cell? ⟨tb, 0, none⟩ = some (.map (some bv)) ∧ Y.cell? ⟨tb, 1, none⟩ = some (.map (some bh)) ∧ Y.cell? ⟨W.heap.size, 0, none⟩ = some (.slice AL nl cl) ∧ Y.cell? ⟨W.heap.size, 1, none⟩ = some (.slice AR nr cr) ∧ Y.cell? ⟨W.heap.size, 2, none⟩ = some (.slice AP np cp)) (by kernel_rfl) (HS.out _ Hk0.out) (fun hHeld => ?_)
 refine tk 0 ?_ hHeld (fun Y hY => ?_) ?_
 rotate_left
 · obtain ⟨y0, y1, y2, y3, y4⟩ := hY
   (go_simp) <;> with_reducible rfl
 try simp only [Act.put, yL]
 refine tk 1 ?_ hHeld (fun Y hY => ?_) ?_
 rotate_left
 · (go_simp) <;> with_reducible rfl
 try simp only [Act.put, yL]
 refine tk 2 ?_ hHeld (fun Y hY => ?_) ?_
 rotate_left
 · obtain ⟨y0, y1, y2, y3, y4⟩ := hY
   (go_simp) <;> with_reducible rfl
 try simp only [Act.put, yL]
 refine tk 5 ?_ hHeld (fun Y hY => ?_) ?_
 rotate_left
 · obtain ⟨y0, y1, y2, y3, y4⟩ := hY
   (go_simp) <;> with_reducible rfl
 try simp only [Act.put, yL]
 refine tk 6 ?_ hHeld (fun Y hY => ?_) ?_
 rotate_left
 · (go_simp) <;> with_reducible rfl
 try simp only [Act.put, yL]
 refine tk 7 ?_ hHeld (fun Y hY => ?_) ?_
 rotate_left
 · obtain ⟨y0, y1, y2, y3, y4⟩ := hY
   (go_simp) <;> with_reducible rfl
 try simp only [Act.put, yL]
 refine rd 3 (fun KK hKK => ?_)
 clear hHeld
 go_simp
 (with_reducible refine Htx1.out.mono ?_)
 rintro e w4 ⟨rfl, hN4, hk4⟩
 have Hk4 := kH (Hk0.out.trans hk4 (fun _ _ h => h))
 have HN4 := kH hN4
 have Htx2 := kH (HtQ.out w4 bv bh (HR.out.below (HBw.out _ Hk4.out)).sr (HT3.out.two HN3.out Hk4.out) HN4.out)
 clear hN4 hk4
 refine hKK.out _ _ (HS.out _ Hk4.out) (fun hHeld => ?_)
 clear hKK KK
 try simp only [Act.put, yL]
 refine tk 4 ?_ hHeld (fun Y hY => ?_) ?_
 rotate_left
 · (go_simp) <;> with_reducible rfl
 try simp only [Act.put, yL]
 refine rd 8 (fun KK hKK => ?_)
 clear hHeld
 go_simp
 (with_reducible refine Htx2.out.mono ?_)
 rintro e w5 ⟨rfl, hN5, hk5⟩
 have Hk5 := kH (Hk4.out.trans hk5 (fun _ _ h => h))
 have HN5 := kH hN5
 clear hN5 hk5
 refine hKK.out _ _ (HS.out _ Hk5.out) (fun hHeld => ?_)
 clear hKK KK
 try simp only [Act.put, yL]
 refine tk 9 ?_ hHeld (fun Y hY => ?_) ?_
 rotate_left
 · (go_simp) <;> with_reducible rfl
 try simp only [Act.put, yL]
 refine tk 10 ?_ hHeld (fun Y hY => ?_) ?_
 rotate_left
 · (go_simp) <;> with_reducible rfl
 try simp only [Act.put, yL]
 refine wpAnyH_done (by kernel_rfl) ?_ _
 obtain ⟨_, _, _, _, d2⟩ := HS.out w5 Hk5.out
 obtain ⟨bt, hbt⟩ : ∃ bt, bt = tl ++ 32 :: 61 :: 62 :: 32 :: tq := ⟨_, rfl⟩
 have Hbt := kH hbt
 have Hbl := kH (show bt.length ≤ 4000 from by rw [hbt, List.length_append]; simp; omega)
 rw [← hbt]
 clear hbt hl1 hl2 hn1 hn2 hm1 hm2
 go_wp2
 go_loopg [7, 33] (np + 1) (fun gg s7 s33 wr => ∃ (j : Nat) (v : Value) (es : List (Value × List Int)), j ≤ np ∧ s7 = v ∧ s33 = .int .i64 (j : Int) ∧ gg + j = np + 1 ∧ Hid (es.map Prod.snd = (r.pre.take j).map (cdL H)) ∧ Hid (OwnAt wr 60 1 v j (es.map Prod.fst)) ∧
  Hid (∀ e ∈ es, RowX wr v W3.heap.size e) ∧ Hid (Kpm (Two bv bh) W3 wr) ∧ Hid (NumSt V H bv bh wr) ∧ Hid (∀ i, v.ownBlock = some i → W3.heap.size ≤ i))
 case atStart => exact ⟨0, .slice none 0 0, [], Nat.zero_le _, rfl, rfl, rfl, kH rfl, kH (OwnAt.nil_ _ _ _), kH (fun e h => (by cases h)), Hk5, HN5, kH (fun i e => by simp [Value.ownBlock] at e)⟩
 case round =>
  obtain ⟨j, v, es, hj, rfl, rfl, hgk, Hes, Ho, Hrx, Hk, HNr, Hnw⟩ := hrel
  have Hgk := kH hgk
  clear hgk
  obtain ⟨Av, cv, hv⟩ := Ho.out.form
  subst hv
  by_cases hjn : j < np
  · obtain ⟨x, b, off, hx, hA, hb, x0, x1, x2, i0, i1⟩ := cd_cells (HR.out.below (HBw.out _ Hk.out)).sp hjn
    subst hA
    have hxm := List.mem_of_getElem? hx
    have hcd := List.all_eq_true.1 Hok.out.cd x hxm
    have hho : 0 ≤ x.hole ∧ x.hole < 2 := by
     unfold R.cdOk at hcd
     simp only [Bool.and_eq_true, decide_eq_true_eq] at hcd
     omega
    have Hin := kH (Hpre.out x hxm)
    have Hx := kH hx
    have hwh : IntKind.u32.wrap x.hole = x.hole := by rw [IntKind.wrap_u32]; omega
    have hwi2 : wrap64 x.imm = x.imm := by unfold wrap64; omega
    have hwi : IntKind.i64.wrap x.imm = x.imm := by rw [IntKind.wrap_i64]; omega
    have Hho := kH (show 0 ≤ x.hole ∧ x.hole < 4294967296 from ⟨hho.1, by omega⟩)
    obtain ⟨hn1, hn2, hn3, hn4⟩ := Hnum.out
    have hks := Hk.out.size
    obtain ⟨w8, hw8⟩ : ∃ w8, w8 = wr.alloc (.cells #[.int .i64 x.kind, .int .i64 x.hole, .int .u32 x.imm] 88) := ⟨_, rfl⟩
    have hb8 : Below wr.heap.size wr w8 := by rw [hw8]; exact al0
    have Hb8 := kH hb8
    have hr8 : w8.heap[wr.heap.size]? = some (.cells #[.int .i64 x.kind, .int .i64 x.hole, .int .u32 x.imm] 88 (0, 0)) := by rw [hw8]; exact heap_alloc_new wr _
    have Hs8 := kH (show w8.heap.size = wr.heap.size + 1 from by rw [hw8]; simp)
    have hrt : wr.heap[tb]? = some (.cells #[.map (some bv), .map (some bh)] 84 (0, 0)) := (Hk.out.block tb hn4 (fun h => by rcases h with h | h <;> omega)).trans Hr3.out
    have hrt8 := (hb8.block _ (gA hrt).1).trans hrt
    have HSc := kH (show ∀ Y : World, Below w8.heap.size w8 Y → Y.cell? ⟨tb, 1, none⟩ = some (.map (some bh)) ∧ Y.cell? ⟨wr.heap.size, 0, none⟩ = some (.int .i64 x.kind) ∧ Y.cell? ⟨wr.heap.size, 1, none⟩ = some (.int .i64 x.hole) ∧ Y.cell? ⟨wr.heap.size, 2, none⟩ = some (.int .u32 x.imm) from fun Y hY => by
     obtain ⟨_, a2⟩ := cells2 ((hY.block _ (gA hrt8).1).trans hrt8)
     obtain ⟨b1, b2, b3, _⟩ := rl_cells ((hY.block _ (gA hr8).1).trans hr8)
     exact ⟨a2, b1, b2, b3⟩)
    have HN8 := kH (HNr.out.below hb8)
    have Hd8 := kH (show Below w8.heap.size w8 w8.drew from (Below.refl _ _).drew)
    have Hof := kH (kof_in bh H x.hole w8.drew (HN8.out.h.keep rfl) Hho.out Hin.out)
    obtain ⟨ix, hix⟩ : ∃ ix : Int, ix = ((H.idxOf x.hole : Nat) : Int) := ⟨_, rfl⟩
    rw [← hix] at Hof
    have Hix := kH hix
    obtain ⟨w9, hw9⟩ : ∃ w9, w9 = (w8.alloc (.cells #[.int .i64 x.kind, .int .i64 ix, .int .i64 x.imm] 3)).drew := ⟨_, rfl⟩
    have hb9 : Below w8.heap.size w8 w9 := by rw [hw9]; exact (al0).drew
    have Hr9 := kH (show w9.heap[w8.heap.size]? = some (.cells #[.int .i64 x.kind, .int .i64 ix, .int .i64 x.imm] 3 (0, 0)) from by rw [hw9]; exact heap_alloc_new w8 _)
    have Hs9 := kH (show w9.heap.size = w8.heap.size + 1 from by rw [hw9]; simp)
    obtain ⟨wa, hwa⟩ : ∃ wa, wa = w9.alloc (.cells #[.slice (some ⟨w8.heap.size, 0, none⟩) 3 3] 60) := ⟨_, rfl⟩
    have hba : Below w9.heap.size w9 wa := by rw [hwa]; exact al0
    have hra : wa.heap[w9.heap.size]? = some (.cells #[.slice (some ⟨w8.heap.size, 0, none⟩) 3 3] 60 (0, 0)) := by rw [hwa]; exact heap_alloc_new w9 _
    have Hra := kH hra
    have Hsa := kH (show wa.heap.size = w9.heap.size + 1 from by rw [hwa]; simp)
    have Hb9 := kH hb9
    have Hba := kH (hb9.trans (hba.mono (by have := Hs9.out; omega)))
    have Hw9 := kH hw9
    have Hwa := kH hwa
    have HBA := kH (show Below wr.heap.size wr wa from hb8.trans (Hba.out.mono hb8.size))
    have HoA := kH (show OwnAt wa 60 1 (.slice Av j cv) j (es.map Prod.fst) from Ho.out.below HBA.out (fun i hi => Ho.out.lt i hi))
    obtain ⟨ii, hi1, hz1, hsz1, hby1⟩ := info_parts infoSl
    have HSw := fun (w' : World) (hg : wa.grownBy w' (Value.slice Av j cv).ownBlock) => (show w'.cell? ⟨tb, 1, none⟩ = some (.map (some bh)) ∧ w'.cell? ⟨wr.heap.size, 0, none⟩ = some (.int .i64 x.kind) ∧ w'.cell? ⟨wr.heap.size, 1, none⟩ = some (.int .i64 x.hole) ∧ w'.cell? ⟨wr.heap.size, 2, none⟩ = some (.int .u32 x.imm) from by
     have hs8 := Hs8.out
     have hs9 := Hs9.out
     have hsa := Hsa.out
     obtain ⟨_, a2⟩ := cells2 ((hg.block tb (by omega) (fun e => by have := Hnw.out _ e.symm; omega)).trans ((Hba.out.block _ (gA hrt8).1).trans hrt8))
     obtain ⟨b1, b2, b3, _⟩ := rl_cells ((hg.block wr.heap.size (by omega) (fun e => by have := Ho.out.lt _ e.symm; omega)).trans ((Hba.out.block _ (gA hr8).1).trans hr8))
     exact ⟨a2, b1, b2, b3⟩)
    have HSw := kH HSw
    have Hinf := kH (And.intro hi1 (And.intro hz1 (And.intro hsz1 hby1)))
    clear hx hxm hcd hho hb8 hr8 hrt hrt8 hix hb9 hba hra hw9 hwa hi1 hz1 hsz1 hby1 i0 i1 hb
    go_upto_region 10 with (fail)
    rw [← hw8]
    clear hw8 x0 x1 x2
    refine wp_region_held_drew (S := fun Y : World => Y.cell? ⟨tb, 1, none⟩ = some (.map (some bh)) ∧ Y.cell? ⟨wr.heap.size, 0, none⟩ = some (.int .i64 x.kind) ∧ Y.cell? ⟨wr.heap.size, 1, none⟩ = some (.int .i64 x.hole) ∧ Y.cell? ⟨wr.heap.size, 2, none⟩ = some (.int .u32 x.imm)) (by kernel_rfl) (HSc.out _ Hd8.out) (fun hHeld => ?_)
    refine tk 0 ?_ hHeld (fun Y hY => ?_) ?_
    rotate_left
    · (go_simp) <;> with_reducible rfl
    try simp only [Act.put, yL]
    refine tk 1 ?_ hHeld (fun Y hY => ?_) ?_
    rotate_left
    · (go_simp) <;> with_reducible rfl
    try simp only [Act.put, yL]
    refine tk 2 ?_ hHeld (fun Y hY => ?_) ?_
    rotate_left
    · obtain ⟨y0, y1, y2, y3⟩ := hY
      (go_simp) <;> with_reducible rfl
    try simp only [Act.put, yL]
    refine tk 3 ?_ hHeld (fun Y hY => ?_) ?_
    rotate_left
    · (go_simp) <;> with_reducible rfl
    try simp only [Act.put, yL]
    refine tk 4 ?_ hHeld (fun Y hY => ?_) ?_
    rotate_left
    · obtain ⟨y0, y1, y2, y3⟩ := hY
      (go_simp) <;> with_reducible rfl
    try simp only [Act.put, yL]
    refine tk 5 ?_ hHeld (fun Y hY => ?_) ?_
    rotate_left
    · (go_simp) <;> with_reducible rfl
    try simp only [Act.put, yL]
    refine tk 6 ?_ hHeld (fun Y hY => ?_) ?_
    rotate_left
    · obtain ⟨y0, y1, y2, y3⟩ := hY
      (go_simp) <;> with_reducible rfl
    try simp only [Act.put, yL]
    refine tk 7 ?_ hHeld (fun Y hY => ?_) ?_
    rotate_left
    · (go_simp) <;> with_reducible rfl
    try simp only [Act.put, yL]
    refine tk 9 ?_ hHeld (fun Y hY => ?_) ?_
    rotate_left
    · (go_simp) <;> with_reducible rfl
    try simp only [Act.put, yL]
    refine tk 10 ?_ hHeld (fun Y hY => ?_) ?_
    rotate_left
    · obtain ⟨y0, y1, y2, y3⟩ := hY
      (go_simp) <;> with_reducible rfl
    try simp only [Act.put, yL]
    refine tk 11 ?_ hHeld (fun Y hY => ?_) ?_
    rotate_left
    · (go_simp) <;> with_reducible rfl
    try simp only [Act.put, yL]
    refine rd 8 (fun KK hKK => ?_)
    clear hHeld
    go_simp
    (with_reducible refine Hof.out.mono ?_)
    rintro e wz ⟨rfl, rfl⟩
    refine hKK.out _ _ (HSc.out _ Hd8.out) (fun hHeld => ?_)
    clear hKK KK
    try simp only [Act.put, yL]
    refine rd 12 (fun KK hKK => ?_)
    clear hHeld
    go_simp
    rw [← Hw9.out]
    refine hKK.out _ _ (HSc.out _ Hb9.out) (fun hHeld => ?_)
    clear hKK KK
    try simp only [Act.put, yL]
    refine rd 13 (fun KK hKK => ?_)
    clear hHeld
    go_simp
    rw [← Hwa.out]
    refine hKK.out _ _ (HSc.out _ Hba.out) (fun hHeld => ?_)
    clear hKK KK
    try simp only [Act.put, yL]
    refine rd 14 (fun KK hKK => ?_)
    clear hHeld
    refine wp_append_at wa (.tmp 37) (.tmp 50) 86 rfl 60 ii (.slice none 0 0) 1 24 Tryz.underlying86 Hinf.out.1 Hinf.out.2.1 Hinf.out.2.2.1 Hinf.out.2.2.2 rfl (.slice Av j cv) j (es.map Prod.fst) rfl HoA.out ⟨w9.heap.size, 0, none⟩ 1 1 [.slice (some ⟨w8.heap.size, 0, none⟩) 3 3] rfl rfl (cell_one_row Hra.out) (by simp [Value.oneCell']) (by simp only [maxLen]; omega) (by omega) ?_
    intro v' w' hown hgr hat
    have Hown := kH hown
    have Hgr := kH hgr
    have Hat := kH hat
    clear hown hgr hat
    refine hKK.out _ _ (HSw.out w' Hgr.out) (fun hHeld => ?_)
    clear hKK KK
    try simp only [Act.put, yL]
    refine tk 15 ?_ hHeld (fun Y hY => ?_) ?_
    rotate_left
    · (go_simp) <;> with_reducible rfl
    try simp only [Act.put, yL]
    refine wpAnyH_done (by kernel_rfl) ?_ _
    go_wp2
    go_roundg (gk - 1)
    case measure => have := Hgk.out; omega
    case rel =>
     have := Hgk.out
     have hs8 := Hs8.out
     have hs9 := Hs9.out
     have hsa := Hsa.out
     have hvlt := fun i hi => Ho.out.lt i hi
     refine ⟨j + 1, v', es ++ [(.slice (some ⟨w8.heap.size, 0, none⟩) 3 3, cdL H x)], by omega, rfl, by go_num, by omega, kH ?_, kH ?_, kH ?_, kH ?_, kH ?_, kH ?_⟩
     · rw [List.map_append, Hes.out, List.take_add_one, Hx.out]
       simp
     · rw [List.map_append]
       exact Hown.out
     · intro e he
       rcases List.mem_append.1 he with he | he
       · refine (Hrx.out e he).keep fun q hq1 hq2 hq3 => ⟨?_, ?_⟩
         · exact (Hgr.out.block q (by omega) (fun e => hq3 e.symm)).trans (HBA.out.block q hq2)
         · rcases Hat.out with h | h
           · rw [h]; exact hq3
           · rw [h]; intro e; injection e with e; omega
       · rw [List.mem_singleton] at he
         subst he
         refine ⟨w8.heap.size, rfl, by omega, ?_, rfl, ?_⟩
         · rcases Hat.out with h | h
           · rw [h]; intro e; have := hvlt _ e; omega
           · rw [h]; intro e; injection e with e; omega
         · have h1 := (Hgr.out.block w8.heap.size (by omega) (fun e => by have := hvlt _ e.symm; omega))
           rw [h1, Hwa.out, Below.heap_alloc _ _ _ (by omega), Hr9.out, cdL, ← Hix.out]
           rfl
     · refine Kpm.trans (Hk.out.trans (Kpm.of_below HBA.out (fun _ => False)) (fun _ _ h => h.elim)) (Kpm.grown (M := fun i => W3.heap.size ≤ i) Hgr.out (fun q hq => Hnw.out q hq)) (fun i hi h => absurd h (by omega))
     · have hbl : ∀ i, i < wr.heap.size → Two bv bh i → w'.heap[i]? = wr.heap[i]? := fun i hi h2 => (Hgr.out.block i (by omega) (fun e => by have := Hnw.out i e.symm; rcases h2 with h2 | h2 <;> omega)).trans (HBA.out.block i hi)
       exact HNr.out.keep (hbl bv HNr.out.v.lt (.inl rfl)) (hbl bh HNr.out.h.lt (.inr rfl))
     · intro i hi
       rcases Hat.out with h | h
       · exact Hnw.out i (h ▸ hi)
       · rw [h] at hi; injection hi with hi; omega
  · obtain rfl : j = np := by omega
    have hes := Hes.out
    rw [List.take_of_length_le (by rw [Hlp.out]; exact Nat.le_refl _)] at hes
    have hesl : es.length = j := by have h := Ho.out.1; simpa using h
    have Hel := kH (show ∀ e ∈ es, e.2.length = 3 ∧ ∀ y ∈ e.2, I64 y from fun e he => by
     have h1 : e.2 ∈ es.map Prod.snd := List.mem_map.2 ⟨e, he, rfl⟩
     rw [hes] at h1
     obtain ⟨c, hc, e1⟩ := List.mem_map.1 h1
     have hcd := List.all_eq_true.1 Hok.out.cd c hc
     unfold R.cdOk at hcd
     simp only [Bool.and_eq_true, decide_eq_true_eq] at hcd
     have hr := cd_rng HR.out.sp c hc
     have hi := List.idxOf_le_length (a := c.hole) (l := H)
     have hh := Hhl.out
     rw [← e1]
     refine ⟨rfl, fun y hy => ?_⟩
     unfold cdL at hy
     simp only [List.mem_cons, List.not_mem_nil, or_false] at hy
     rcases hy with rfl | rfl | rfl
     · exact ⟨by omega, by omega⟩
     · exact ⟨by omega, by omega⟩
     · exact ⟨by omega, by omega⟩)
    by_cases h0 : j = 0
    · subst h0
      have hpre : r.pre = [] := List.length_eq_zero_iff.1 Hlp.out
      obtain ⟨cs, hcs⟩ : ∃ cs : List (Value × List Int), cs = [] := ⟨_, rfl⟩
      have HKey := kH (show IsKey r (keyT (renL [] [] L) (renL V H Q) (cs.map Prod.snd)) from by
       rw [hcs]
       exact HmkK.out [] .nil (fun p => by rw [hpre]; simp))
      obtain ⟨m, hm⟩ : ∃ m, m = cs.length := ⟨_, rfl⟩
      have Hm := kH hm
      have hm0 : m = 0 := by rw [hm, hcs]; rfl
      have Hce := kH (show ∀ e ∈ cs, e.2.length = 3 ∧ ∀ y ∈ e.2, I64 y from fun e he => by rw [hcs] at he; cases he)
      have HC := kH (show ∀ (k : Nat) e, cs[k]? = some e → ∃ g off, Av = some ⟨g, off, none⟩ ∧ wr.cell? ⟨g, off + k, none⟩ = some e.1 ∧ RowAt wr g e from fun k e he => by rw [hcs] at he; simp at he)
      have HTw := kH (HT3.out.two HN3.out Hk.out)
      have HBW := kH (HBw.out _ Hk.out)
      have Hs := kH (kSort_none Av cv (.func (.func 62) #[] #[]) wr)
      have Hc := kH (kCompact_none Av cv (.func (.func 64) #[] #[]) wr)
      have hcz : ((0 : Nat) : Int) = 0 := rfl
      clear hes hesl hpre hcs Hrx Hel hm
      go_wp2_with fail
      (with_reducible refine Hs.out.mono ?_)
      rintro e w6 ⟨rfl, rfl⟩
      go_wp2_with fail
      (with_reducible refine Hc.out.mono ?_)
      rintro e w7 ⟨rfl, rfl⟩
      rw [← hm0]
      have hml : m ≤ 4 := by omega
      clear hm0 hcz
      go_wp2
      go_loopg [6, 58] (m + 1) (fun gg s6 s58 wz => ∃ k : Nat, k ≤ m ∧ s6 = .string ⟨(bt ++ preT ((cs.take k).map Prod.snd)).toArray⟩ ∧ s58 = .int .i64 (k : Int) ∧ gg + k = m + 1 ∧ Hid (Below w6.heap.size w6 wz))
      case atStart => exact ⟨0, Nat.zero_le _, by simp [preT], rfl, rfl, kH (Below.refl _ _)⟩
      case round =>
       obtain ⟨k, hk, rfl, rfl, hgk, Hbz⟩ := hrel
       have Hgk := kH hgk
       clear hgk
       obtain ⟨ot, hot⟩ : ∃ ot, ot = bt ++ preT ((cs.take k).map Prod.snd) := ⟨_, rfl⟩
       rw [← hot]
       have Hot := kH hot
       have hol : ot.length ≤ 5000 := by
        rw [hot, List.length_append]
        have h1 := preT_len (xs := (cs.take k).map Prod.snd) (fun x hx => by
         obtain ⟨e, he, rfl⟩ := List.mem_map.1 hx
         exact Hce.out e (List.mem_of_mem_take he))
        rw [List.length_map, List.length_take] at h1
        have := Hbl.out
        omega
       clear hot
       by_cases hkm : k < m
       · have hml2 := Hm.out
         have he : cs[k]? = some (cs[k]'(by omega)) := List.getElem?_eq_getElem (by omega)
         obtain ⟨e, hee⟩ : ∃ e, e = cs[k]'(by omega) := ⟨_, rfl⟩
         rw [← hee] at he
         have He := kH he
         obtain ⟨g2, o2, hA2, hc2, hrow2⟩ := HC.out k e he
         obtain ⟨A, n, c, he1, hn, hs, _⟩ := hrow2.below Hbz.out
         have hgl2 : g2 < w6.heap.size := cell_below hc2
         have hcz := (Hbz.out.cell (p := ⟨g2, o2 + k, none⟩) hgl2).trans hc2
         rw [he1] at hcz
         subst hA2
         obtain ⟨l3, lI⟩ := Hce.out e (List.mem_of_getElem? he)
         have hne : e.2 ≠ [] := by intro h; rw [h] at l3; cases l3
         have Hnm := kH (knumbers_any (cn := c) (HTw.out.below Hbz.out) hs lI hne hn)
         obtain ⟨nu, hnu⟩ : ∃ nu, nu = nums e.2 := ⟨_, rfl⟩
         have hnl : nu.length ≤ 63 := by rw [hnu]; have := nums_len lI; omega
         rw [← hnu] at Hnm
         have Hnu := kH hnu
         have hm1 := ByteArray.mk_append_mk [32, 105, 102, 32] nu
         have hm2 := ByteArray.mk_append_mk ot ([32, 105, 102, 32] ++ nu)
         have hn1 : ¬ 9223372036854775807 < 4 + nu.length := by omega
         have hn2 : ¬ 9223372036854775807 < ot.length + (nu.length + 4) := by omega
         have hn3 : ¬ 9223372036854775807 < ot.length + (4 + nu.length) := by omega
         have hn4 : ¬ 9223372036854775807 < ot.length + (nu.length + 1 + 1 + 1 + 1) := by omega
         clear he hc2 hrow2 hee hs lI hne hn l3 hml2 he1 hnu hgl2
         go_wp2_with fail
         (with_reducible refine Hnm.out.mono ?_)
         rintro e2 wy ⟨rfl, hby⟩
         have Hby := kH (Hbz.out.trans (hby.mono Hbz.out.size))
         clear hby
         go_wp2
         go_roundg (gk - 1)
         case measure => have := Hgk.out; omega
         case rel =>
          have := Hgk.out
          refine ⟨k + 1, by omega, ?_, by go_num, by omega, Hby⟩
          have e5 : bt ++ preT ((cs.take (k + 1)).map Prod.snd) = ot ++ 32 :: 105 :: 102 :: 32 :: nu := by
           rw [List.take_add_one, He.out, Option.toList_some, List.map_append, List.map_cons, List.map_nil, preT_snoc, Hot.out, Hnu.out, List.append_assoc]
          rw [e5]
          first | rfl | rw [ByteArray.mk_append_mk]
       · obtain rfl : k = m := by omega
         have HF := kH (show IsKey r ot from by
          have h := HKey.out
          unfold keyT at h
          rw [Hot.out, Hbt.out, Htl.out, Htq.out, List.take_of_length_le (by rw [Hm.out]; exact Nat.le_refl _)]
          simpa using h)
         go_wp2
         go_ret2
         exact ⟨ot, by rw [Hv.out]; rfl, fun _ => HF.out, fun h => absurd Hv.out h, HBW.out.trans (Hbz.out.mono HBW.out.size), by omega⟩
    · rcases Ho.out.2 with ⟨e, hz⟩ | ⟨gs, offs, cap, cur, e, hcur, _, _, _, _⟩
      · exact absurd hz h0
      injection e with e1 e2 e3
      subst e1
      have Hga := kH (show W3.heap.size ≤ gs from Hnw.out gs rfl)
      have Hrow := kH (show ∀ e ∈ es, RowAt wr gs e from fun e he => (Hrx.out e he).at_ rfl)
      have Hs := kH (kSort_any hesl (by omega) (by omega) Ho.out Hrow.out)
      have Hesl := kH hesl
      have Hes2 := kH hes
      have hgl : gs < wr.heap.size := (gA hcur).1
      have Hgl := kH hgl
      clear hes hesl Hrx hcur e2 e3 hgl
      go_wp2_with fail
      (with_reducible refine Hs.out.mono ?_)
      rintro e w6 ⟨rfl, fs, hperm, hpw, hown6, hg6⟩
      have hr6 : ∀ e ∈ fs, RowAt w6 gs e := fun e he => (Hrow.out e (hperm.mem_iff.1 he)).grown hg6
      have Hc := kH (kCompact_any (by rw [hperm.length_eq]; exact Hesl.out) (by omega) hown6 hr6)
      have Hg6 := kH hg6
      have Hr6 := kH hr6
      have Hperm := kH hperm
      have Hpw := kH hpw
      clear hperm hpw hown6 hg6 hr6
      go_wp2_with fail
      (with_reducible refine Hc.out.mono ?_)
      rintro e w7 ⟨c', rfl, hown7, hg7⟩
      obtain ⟨cs, hcs⟩ : ∃ cs, cs = compE fs := ⟨_, rfl⟩
      rw [← hcs] at hown7 ⊢
      have HKey := kH (show IsKey r (keyT (renL [] [] L) (renL V H Q) (cs.map Prod.snd)) from by
       rw [hcs, compE_snd]
       refine HmkK.out _ Hpw.out (fun p => ?_)
       rw [(Hperm.out.map Prod.snd).mem_iff, Hes2.out, List.mem_map]
       exact ⟨fun ⟨c, hc, e⟩ => ⟨c, hc, e.symm⟩, fun ⟨c, hc, e⟩ => ⟨c, hc, e.symm⟩⟩)
      have hsub : ∀ e ∈ cs, e ∈ fs := fun e he => compE_sub fs e (hcs ▸ he)
      have Hce := kH (show ∀ e ∈ cs, e.2.length = 3 ∧ ∀ y ∈ e.2, I64 y from fun e he => Hel.out e (Hperm.out.mem_iff.1 (hsub e he)))
      have HC := kH (show ∀ (k : Nat) e, cs[k]? = some e → ∃ g off, (some ⟨gs, offs, none⟩ : Option Addr) = some ⟨g, off, none⟩ ∧ w7.cell? ⟨g, off + k, none⟩ = some e.1 ∧ RowAt w7 g e from fun k e he => by
       refine ⟨gs, offs, rfl, ?_, (Hr6.out e (hsub e (List.mem_of_getElem? he))).grown hg7⟩
       have hk := (List.getElem?_eq_some_iff.1 he).1
       rcases hown7.2 with ⟨e2, hz⟩ | ⟨g2, o2, cap2, cur2, e2, hcur2, _, _, _, hc2⟩
       · omega
       · injection e2 with e3 _ _
         injection e3 with e3
         injection e3 with e3 e4
         subst e3 e4
         rw [cell_of_row _ _ _ _ _ (0, 0) hcur2]
         exact hc2 k e.1 (by rw [List.getElem?_map, he]; rfl))
      obtain ⟨m, hm⟩ : ∃ m, m = cs.length := ⟨_, rfl⟩
      have Hm := kH hm
      have hml : m ≤ 4 := by
       have h1 := compE_le fs
       rw [hm, hcs]
       have h2 := Hperm.out.length_eq
       have h3 := Hesl.out
       omega
      have hk7 : Kpm (Two bv bh) W3 w7 := Kpm.trans (Kpm.trans Hk.out (Kpm.grown (M := fun i => W3.heap.size ≤ i) Hg6.out (fun q hq => by cases hq; exact Hga.out)) (fun i hi h => absurd h (by omega))) (Kpm.grown (M := fun i => W3.heap.size ≤ i) hg7 (fun q hq => by cases hq; exact Hga.out)) (fun i hi h => absurd h (by omega))
      have HTw := kH (HT3.out.two HN3.out hk7)
      have HBW := kH (HBw.out _ hk7)
      rw [← hm] at ⊢
      clear hown7 hg7 hcs hsub hm hk7
      go_wp2
      go_loopg [6, 58] (m + 1) (fun gg s6 s58 wz => ∃ k : Nat, k ≤ m ∧ s6 = .string ⟨(bt ++ preT ((cs.take k).map Prod.snd)).toArray⟩ ∧ s58 = .int .i64 (k : Int) ∧ gg + k = m + 1 ∧ Hid (Below w7.heap.size w7 wz))
      case atStart => exact ⟨0, Nat.zero_le _, by simp [preT], rfl, rfl, kH (Below.refl _ _)⟩
      case round =>
       obtain ⟨k, hk, rfl, rfl, hgk, Hbz⟩ := hrel
       have Hgk := kH hgk
       clear hgk
       obtain ⟨ot, hot⟩ : ∃ ot, ot = bt ++ preT ((cs.take k).map Prod.snd) := ⟨_, rfl⟩
       rw [← hot]
       have Hot := kH hot
       have hol : ot.length ≤ 5000 := by
        rw [hot, List.length_append]
        have h1 := preT_len (xs := (cs.take k).map Prod.snd) (fun x hx => by
         obtain ⟨e, he, rfl⟩ := List.mem_map.1 hx
         exact Hce.out e (List.mem_of_mem_take he))
        rw [List.length_map, List.length_take] at h1
        have := Hbl.out
        omega
       clear hot
       by_cases hkm : k < m
       · have hml2 := Hm.out
         have he : cs[k]? = some (cs[k]'(by omega)) := List.getElem?_eq_getElem (by omega)
         obtain ⟨e, hee⟩ : ∃ e, e = cs[k]'(by omega) := ⟨_, rfl⟩
         rw [← hee] at he
         have He := kH he
         obtain ⟨g2, o2, hA2, hc2, hrow2⟩ := HC.out k e he
         obtain ⟨A, n, c, he1, hn, hs, _⟩ := hrow2.below Hbz.out
         have hgl2 : g2 < w7.heap.size := cell_below hc2
         have hcz := (Hbz.out.cell (p := ⟨g2, o2 + k, none⟩) hgl2).trans hc2
         rw [he1] at hcz
         cases hA2
         obtain ⟨l3, lI⟩ := Hce.out e (List.mem_of_getElem? he)
         have hne : e.2 ≠ [] := by intro h; rw [h] at l3; cases l3
         have Hnm := kH (knumbers_any (cn := c) (HTw.out.below Hbz.out) hs lI hne hn)
         obtain ⟨nu, hnu⟩ : ∃ nu, nu = nums e.2 := ⟨_, rfl⟩
         have hnl : nu.length ≤ 63 := by rw [hnu]; have := nums_len lI; omega
         rw [← hnu] at Hnm
         have Hnu := kH hnu
         have hm1 := ByteArray.mk_append_mk [32, 105, 102, 32] nu
         have hm2 := ByteArray.mk_append_mk ot ([32, 105, 102, 32] ++ nu)
         have hn1 : ¬ 9223372036854775807 < 4 + nu.length := by omega
         have hn2 : ¬ 9223372036854775807 < ot.length + (nu.length + 4) := by omega
         have hn3 : ¬ 9223372036854775807 < ot.length + (4 + nu.length) := by omega
         have hn4 : ¬ 9223372036854775807 < ot.length + (nu.length + 1 + 1 + 1 + 1) := by omega
         clear he hc2 hrow2 hee hs lI hne hn l3 hml2 he1 hnu hgl2
         go_wp2_with fail
         (with_reducible refine Hnm.out.mono ?_)
         rintro e2 wy ⟨rfl, hby⟩
         have Hby := kH (Hbz.out.trans (hby.mono Hbz.out.size))
         clear hby
         go_wp2
         go_roundg (gk - 1)
         case measure => have := Hgk.out; omega
         case rel =>
          have := Hgk.out
          refine ⟨k + 1, by omega, ?_, by go_num, by omega, Hby⟩
          have e5 : bt ++ preT ((cs.take (k + 1)).map Prod.snd) = ot ++ 32 :: 105 :: 102 :: 32 :: nu := by
           rw [List.take_add_one, He.out, Option.toList_some, List.map_append, List.map_cons, List.map_nil, preT_snoc, Hot.out, Hnu.out, List.append_assoc]
          rw [e5]
          first | rfl | rw [ByteArray.mk_append_mk]
       · obtain rfl : k = m := by omega
         have HF := kH (show IsKey r ot from by
          have h := HKey.out
          unfold keyT at h
          rw [Hot.out, Hbt.out, Htl.out, Htq.out, List.take_of_length_le (by rw [Hm.out]; exact Nat.le_refl _)]
          simpa using h)
         go_wp2
         go_ret2
         exact ⟨ot, by rw [Hv.out]; rfl, fun _ => HF.out, fun h => absurd Hv.out h, HBW.out.trans (Hbz.out.mono HBW.out.size), by omega⟩
end KT
end
end Go.Proofs.YtbiopedpceddeaaGreatDoor
