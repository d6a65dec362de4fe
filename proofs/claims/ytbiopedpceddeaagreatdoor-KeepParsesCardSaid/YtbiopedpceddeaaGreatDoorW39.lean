/- Merged: C4KFC. -/
import Derived.Test.YtbiopedpceddeaaGreatDoorW37
import Derived.Test.YtbiopedpceddeaaGreatDoorW38
set_option linter.unusedVariables false
set_option linter.unusedSimpArgs false
namespace Go.Proofs.YtbiopedpceddeaaGreatDoor
open Go.RowKit Go.Maps Go.Lib
set_option linter.unusedVariables false
set_option linter.unusedSimpArgs false
namespace KT
theorem step_append_at {P : Program} {w : World} {ops : Array Oper} {o : Oper} {a : Act} {K : Act → World → Prop} {Q : Exit → Act → World → Prop} {E : Prop} (hgd : o.guard = none) (sx x : Operand) (t : TypeId)
    (ho : o.op = .call { callee := .builtin .append, args := #[sx, x], argTypes := #[t, t] })
    (e : TypeId) (i : TypeInfo) (z : Value) (s bytes : Nat) (ht : P.underlying t = some (.slice e)) (hi : P.info? e = some i) (hz : i.zero = some z)
    (hsize : i.size = s) (hby : i.bytes = bytes) (hzs : z.cells.size = s)
    (v : Value) (n : Nat) (xs : List Value) (hs : a.eval sx = v) (hown : OwnAt w e s v n xs)
    (ad : Addr) (m c : Nat) (news : List Value) (hx : a.eval x = .slice (some ad) m c) (hl : news.length = m * s) (hnews : ∀ j u, news[j]? = some u → w.cell? (ad.add j) = some u) (h1 : ∀ u ∈ news, u.oneCell' = true)
    (h63 : n + m ≤ maxLen) (hbytes : (n + m) * bytes ≤ 140737488355328)
    (h : ∀ v' w', OwnAt w' e s v' (n + m) (xs ++ news) → w.grownBy w' v.ownBlock → (v'.ownBlock = v.ownBlock ∨ v'.ownBlock = some w.heap.size) → K (a.put o.dst v') w') :
    if Region.wanted o (yielded ops a.tmps) = true then Oper.wp P o a w K Q else E := by
  rw [if_pos (by simp [Region.wanted, hgd])]
  exact wp_append_at w sx x t ho e i z s bytes ht hi hz hsize hby hzs v n xs hs hown ad m c news hx hl hnews h1 h63 hbytes h
/-- one more rule in an own list -/
theorem ownL_snoc {F : Nat → Prop} {w wa w' : World} {v v' : Value} {rs : List R.Rl} {cells us : List Value} {r : R.Rl} (h1 : OwnAt w 33 3 v rs.length cells) (h2 : ∀ (k : Nat) (r : R.Rl), rs[k]? = some r → RlX (fun i => F i ∨ v.ownBlock = some i) w ((cells.drop (k * 3)).take 3) r) (hr : RlX (fun i => F i ∨ v.ownBlock = some i) w us r) (hba : Below w.heap.size w wa)
    (hown' : OwnAt w' 33 3 v' (rs.length + 1) (cells ++ us)) (hgr : wa.grownBy w' v.ownBlock) (hat : v'.ownBlock = v.ownBlock ∨ ∃ n, v'.ownBlock = some n ∧ w.heap.size ≤ n) : OwnL F w' v' (rs ++ [r]) := by
  have hl := hr.len
  have hcl := h1.1
  have hk : Kpm (fun i => F i ∨ v.ownBlock = some i) w w' := (Kpm.of_below hba _).trans (Kpm.grown hgr fun g e => Or.inr e) fun i _ h => h
  have hN : ∀ i, i < w.heap.size → (F i ∨ v'.ownBlock = some i) → (F i ∨ v.ownBlock = some i) := fun i hi h => by
    rcases h with h | h
    · exact .inl h
    · rcases hat with e | ⟨n, e, hn⟩
      · exact .inr (e ▸ h)
      · rw [e] at h
        injection h with h
        omega
  refine ⟨cells ++ us, by rw [List.length_append]; exact hown', fun k y hy => ?_⟩
  rcases Nat.lt_or_ge k rs.length with hk2 | hk2
  · rw [List.getElem?_append_left hk2] at hy
    have e : ((cells ++ us).drop (k * 3)).take 3 = (cells.drop (k * 3)).take 3 := by
      rw [List.drop_append_of_le_length (by omega), List.take_append_of_le_length (by rw [List.length_drop]; omega)]
    rw [e]
    exact (h2 k y hy).step hk hN
  · rw [List.getElem?_append_right hk2] at hy
    have hk0 : k = rs.length := by
      rcases Nat.eq_zero_or_pos (k - rs.length) with e | e
      · omega
      · rw [List.getElem?_eq_none (by simp; omega)] at hy; cases hy
    subst hk0
    simp at hy
    subst hy
    have e : ((cells ++ us).drop (rs.length * 3)).take 3 = us := by
      rw [← hcl, List.drop_left, List.take_of_length_le (by omega)]
    rw [e]
    exact hr.step hk hN
/-- what add answers -/
noncomputable def addC (rs : List R.Rl) (r : R.Rl) : Int := if hasT rs r = true then 7 else if 40 ≤ rs.length ∨ 200 < (textW r).length then 3 else 0
noncomputable def addR (rs : List R.Rl) (r : R.Rl) : List R.Rl := if addC rs r = 0 then rs ++ [r] else rs
def AddPost (B : Nat) (W : World) (g mb : Nat) (v : Value) (rs : List R.Rl) (r : R.Rl) (e : Ending) (w' : World) : Prop :=
  ∃ v' ks', e = .returned (.int .i64 (addC rs r)) ∧ StoreAt B w' g v' mb (addR rs r) ks' ∧ Kpm (Nst g mb v) W w' ∧ ∀ b, v'.ownBlock = some b → v.ownBlock = some b ∨ W.heap.size ≤ b
/-- nothing of the store has turned -/
theorem addPost_same {B : Nat} {W w' : World} {g mb : Nat} {v : Value} {rs : List R.Rl} {ks : List (List UInt8)} {r : R.Rl} {c : Int} (h : StoreAt B W g v mb rs ks) (hb : Below W.heap.size W w') (hc : addC rs r = c) (h0 : c ≠ 0) : AddPost B W g mb v rs r (.returned (.int .i64 c)) w' := by
  refine ⟨v, ks, by rw [hc], ?_, Kpm.of_below hb _, fun b e => .inl e⟩
  unfold addR
  rw [hc, if_neg h0]
  exact h.below hb

set_option maxRecDepth 100000 in
set_option maxHeartbeats 8000000 in
theorem add_any {B g mb : Nat} {v : Value} {rs : List R.Rl} {ks : List (List UInt8)} {r : R.Rl} {nl cl nr cr np cp : Nat} {AL AR AP : Option Addr} {W : World} (h : StoreAt B W g v mb rs ks) (hr : ∀ w', Kpm (fun i => i < B ∨ Nst g mb v i) W w' → RlAt w' r nl nr np AL AR AP) (hv : R.rvalid r = 0) (hT : ∀ w', Kpm (Nst g mb v) W w' → Tens w') (hn : rs.length ≤ 1000) :
    Calls Tryz.prog 80 #[.pointer (some ⟨g, 0, none⟩), .agg #[.slice AL nl cl, .slice AR nr cr, .slice AP np cp]] W (AddPost B W g mb v rs r) := by
  obtain ⟨W1, hW1⟩ : ∃ W1, W1 = W.alloc (.cells #[.slice AL nl cl, .slice AR nr cr, .slice AP np cp] 33) := ⟨_, rfl⟩
  have hb1 : Below W.heap.size W W1 := by rw [hW1]; exact (Below.refl _ _).alloc (Nat.le_refl _) _
  have hrow : W1.heap[W.heap.size]? = some (.cells #[.slice AL nl cl, .slice AR nr cr, .slice AP np cp] 33 (0, 0)) := by rw [hW1]; exact heap_alloc_new W _
  have HK := Lib.hid (kKey_any (cl := cl) (cr := cr) (cp := cp) (hr _ (Kpm.of_below hb1 _)) (hT _ (Kpm.of_below hb1 _)))
  unfold KeyPost at HK
  rw [hv] at HK
  have Hv := Lib.hid hv
  have H := Lib.hid h
  have Hr := Lib.hid hr
  have HT := Lib.hid hT
  have HB1 := Lib.hid hb1
  have Hrow := Lib.hid hrow
  have HW1 := Lib.hid hW1
  obtain ⟨n, hnn⟩ : ∃ n, n = rs.length := ⟨_, rfl⟩
  obtain ⟨A, c, hvf⟩ := h.own.form
  rw [← hnn] at hvf hn
  subst hvf
  have Hn := Lib.hid hnn
  have Hlg := Lib.hid h.lt
  obtain ⟨c0, c1, c2, _⟩ := rl_cells hrow
  clear h hr hv hT hb1 hrow hW1 hnn
  go_enter Tryz.func80, Tryz.ntmps80
  go_upto_region 1 with (fail)
  rw [← HW1.out]
  go_wp2_with fail
  (refine HK.out.mono ?_)
  rintro e w2 ⟨k, rfl, hk1, _, hb2, hkl⟩
  have HKey := Lib.hid (show IsKey r k from by first | exact hk1 trivial | exact hk1 rfl)
  have Hb2 := Lib.hid (HB1.out.trans (hb2.mono HB1.out.size))
  have H2 := Lib.hid (H.out.below Hb2.out)
  have Hrow2 := Lib.hid ((hb2.block _ (Array.getElem?_eq_some_iff.1 Hrow.out).1).trans Hrow.out)
  have hg0 : w2.cell? ⟨g, 0, none⟩ = some (.slice A n c) := by rw [cell_of_row _ _ _ _ _ (0, 0) H2.out.row]; rfl
  have hg1 : w2.cell? ⟨g, 1, none⟩ = some (.map (some mb)) := by rw [cell_of_row _ _ _ _ _ (0, 0) H2.out.row]; rfl
  have hz : ∀ w, (zeroValue 3).run Tryz.prog w = .ok (.int .i64 0) w := fun w => by go_simp
  obtain ⟨u, _, hlook, _⟩ := H2.out.map_.lookup (k := k) strKeyed ekS_inj Tryz.underlying126 (hz w2) (keyOf_str (by omega))
  rw [entS_get H2.out.nd] at hlook
  have Hhas := Lib.hid (H2.out.has Hv.out HKey.out)
  unfold ekS at hlook
  have Hkl := Lib.hid hkl
  clear hk1 hb2 hkl hz c0 c1 c2 HK
  by_cases hm : k ∈ ks
  · rw [if_pos hm] at hlook
    simp only [Option.isSome_some] at hlook
    have Hc := Lib.hid (show addC rs r = 7 from by
      have h := Hhas.out
      rw [decide_eq_true hm] at h
      unfold addC
      rw [if_pos h.symm])
    clear hm hn
    go_wp2_with fail
    go_ret
    exact addPost_same H.out Hb2.out Hc.out (by decide)
  rw [if_neg hm] at hlook
  simp only [Option.isSome_none] at hlook
  have Hno := Lib.hid (show hasT rs r = false from by
    have h := Hhas.out
    rw [decide_eq_false hm] at h
    exact h.symm)
  have Hm := Lib.hid hm
  clear hm Hhas
  by_cases h40 : 40 ≤ n
  · have Hc := Lib.hid (show addC rs r = 3 from by
      unfold addC
      rw [Hno.out, if_neg (by decide), if_pos (.inl (by rw [← Hn.out]; exact h40))])
    have q : decide ((40 : Int) ≤ (n : Int)) = true := decide_eq_true (by omega)
    have q' : (40 : Int) ≤ (n : Int) := by omega
    go_wp2_with fail
    go_ret
    exact addPost_same H.out Hb2.out Hc.out (by decide)
  have q : decide ((40 : Int) ≤ (n : Int)) = false := decide_eq_false (by omega)
  have q' : ¬ (40 : Int) ≤ (n : Int) := by omega
  have hkp := Kpm.of_below Hb2.out (Nst g mb (.slice A n c))
  have hkq := Kpm.of_below Hb2.out (fun i => i < B ∨ Nst g mb (.slice A n c) i)
  have hwr := wrt_of_valid (us := [.slice AL nl cl, .slice AR nr cr, .slice AP np cp]) ⟨nl, cl, nr, cr, np, cp, AL, AR, AP, rfl, Hr.out _ hkq⟩ Hv.out
  have h1 := hwr.nl
  have h2 := hwr.nr
  have h3 := hwr.np
  have hR2 := Hr.out _ hkq
  have HC := Lib.hid (written_any (cl := cl) (cr := cr) (cp := cp) hR2 (HT.out _ hkp) (by rw [← hR2.sl.len]; exact h1) (by rw [← hR2.sr.len]; exact h2) (by rw [← hR2.sp.len]; exact h3) hwr.l hwr.q hwr.p)
  obtain ⟨t, ht⟩ : ∃ t, t = textW r := ⟨_, rfl⟩
  have Ht := Lib.hid ht
  rw [← ht] at HC
  obtain ⟨d0, d1, d2, _⟩ := rl_cells Hrow2.out
  have H40 := Lib.hid h40
  clear hkp hkq hwr h1 h2 h3 hR2 ht h40
  go_wp2_with fail
  (with_reducible refine HC.out.mono ?_)
  rintro e w3 ⟨rfl, hb3⟩
  have Hb3 := Lib.hid (Hb2.out.trans (hb3.mono Hb2.out.size))
  have H3 := Lib.hid (H2.out.below hb3)
  have Hrow3 := Lib.hid ((hb3.block _ (Array.getElem?_eq_some_iff.1 Hrow2.out).1).trans Hrow2.out)
  clear hb3 HC d0 d1 d2 hg0 hg1 hlook
  have hg0 : w3.cell? ⟨g, 0, none⟩ = some (.slice A n c) := by rw [cell_of_row _ _ _ _ _ (0, 0) H3.out.row]; rfl
  have hg1 : w3.cell? ⟨g, 1, none⟩ = some (.map (some mb)) := by rw [cell_of_row _ _ _ _ _ (0, 0) H3.out.row]; rfl
  by_cases h200 : 200 < t.length
  · have Hc := Lib.hid (show addC rs r = 3 from by
      unfold addC
      rw [Hno.out, if_neg (by decide), if_pos (.inr (by rw [← Ht.out]; exact h200))])
    go_wp2_with fail
    go_ret
    exact addPost_same H.out Hb3.out Hc.out (by decide)
  have Hc := Lib.hid (show addC rs r = 0 from by
    unfold addC
    rw [Hno.out, if_neg (by decide), if_neg (by rw [← Ht.out, ← Hn.out]; have := H40.out; omega)])
  go_upto_region 7 with (fail)
  refine wp_region_rd 10 ?af1 (by kernel_rfl) (by kernel_rfl) (by kernel_rfl) (by kernel_rfl) (by kernel_rfl) (by kernel_rfl) ?_ ?_
  rotate_left
  · intro X hX ov
    have e0 := ov.cell ((hX.cell (p := ⟨g, 0, none⟩) (cell_below hg0)).trans hg0)
    have e1 := ov.cell ((hX.cell (p := ⟨g, 1, none⟩) (cell_below hg1)).trans hg1)
    simp only [List.take_succ_cons, List.take_zero]
    repeat (go_big_quiet_step (fail))
    refine wpQuiet_nil ?_
    rfl
  intro w4 hb4
  have Hb4 := Lib.hid (Hb3.out.trans (hb4.mono Hb3.out.size))
  have H4 := Lib.hid (H3.out.below hb4)
  have Hrow4 := Lib.hid ((hb4.block _ (Array.getElem?_eq_some_iff.1 Hrow3.out).1).trans Hrow3.out)
  clear hb4 hg0 hg1
  simp only [List.drop_succ_cons, List.drop_zero]
  have Hkey := Lib.hid (keyOf_str (k := k) (by have := Hkl.out; omega))
  refine wpList_mapUpdate_at rfl _ _ _ rfl H4.out.map_ strKeyed ekS_inj Tryz.underlying126 k (.int .i64 (n : Int)) Hkey.out rfl rfl rfl ?_
  intro w5 hg5 hs5 hmap
  have Hmap := Lib.hid (show MapAt Tryz.prog 9 ekS IntK w5 mb (entS (ks ++ [k])) from by
    have h := hmap IntK (n : Int) (fun _ _ _ _ h => h) rfl
    rw [show (n : Int) = (ks.length : Int) from by rw [H4.out.len, ← Hn.out], entS_put Hm.out] at h
    exact h)
  have hgm : g ≠ mb := fun e => by
    obtain ⟨es, clock, hb, _⟩ := H4.out.map_
    have := H4.out.row
    rw [e, hb] at this
    injection this with this
    cases this
  have hgb : W.heap.size ≠ mb := fun e => by
    obtain ⟨es, clock, hb, _⟩ := H4.out.map_
    have := Hrow4.out
    rw [e, hb] at this
    injection this with this
    cases this
  have hvm : ∀ b, (Value.slice A n c).ownBlock = some b → b ≠ mb := fun b e1 e2 => by
    obtain ⟨cells, h1, _⟩ := H4.out.own
    obtain ⟨es, clock, hb, _⟩ := H4.out.map_
    rcases h1.2 with ⟨e, _⟩ | ⟨g', off, cap, cur, e, hc, _⟩
    · rw [e] at e1; simp [Value.ownBlock] at e1
    · rw [e] at e1
      simp [Value.ownBlock] at e1
      subst e1
      rw [e2, hb] at hc
      injection hc with hc
      cases hc
  have Hvm := Lib.hid hvm
  have Hrg := Lib.hid (show w5.heap[g]? = some (.cells #[.slice A n c, .map (some mb)] 128 (0, 0)) from (hg5.block g H4.out.lt (fun e => hgm (by injection e with e))).trans H4.out.row)
  have Hrb := Lib.hid (show w5.heap[W.heap.size]? = some (.cells #[.slice AL nl cl, .slice AR nr cr, .slice AP np cp] 33 (0, 0)) from (hg5.block _ (Array.getElem?_eq_some_iff.1 Hrow4.out).1 (fun e => hgb (by injection e with e))).trans Hrow4.out)
  have Hk5 := Lib.hid (show Kpm (Nst g mb (.slice A n c)) W w5 from (Kpm.of_below Hb4.out _).trans (Kpm.grown (M := fun i => i = mb) hg5 (fun g e => by injection e with e; exact e.symm)) (fun i _ e => .inr (.inl e)))
  have Hown5 := Lib.hid (show OwnL (fun i => i < B ∨ i = g ∨ i = mb) w5 (.slice A n c) rs from H4.out.own.step (N := fun i => i = mb) (Kpm.grown hg5 (fun g e => by injection e with e; exact e.symm)) (fun i _ e => .inr (.inr e)) (fun b e1 e2 => hvm b e1 e2) (fun _ _ h => h))
  clear hg5 hs5 hmap hgm hgb hvm
  go_upto_region 8 with (fail)
  obtain ⟨cells, hown, hrlx⟩ := Hown5.out
  rw [← Hn.out] at hown
  have Hown := Lib.hid hown
  have Hrlx := Lib.hid hrlx
  have Hrr := Lib.hid (show RlX (fun i => (i < B ∨ i = g ∨ i = mb) ∨ (Value.slice A n c).ownBlock = some i) w5 [.slice AL nl cl, .slice AR nr cr, .slice AP np cp] r from ⟨nl, cl, nr, cr, np, cp, AL, AR, AP, rfl, fun w' h => Hr.out w' ((Hk5.out.weak (N := fun i => i < B ∨ Nst g mb (.slice A n c) i) (fun i _ e => .inr e)).trans h (fun i _ e => by
    rcases e with (e | e | e) | e
    · exact .inl e
    · exact .inr (.inl e)
    · exact .inr (.inr (.inl e))
    · exact .inr (.inr (.inr e))))⟩)
  have Hsz5 := Lib.hid Hk5.out.size
  have Hne := Lib.hid (show g ≠ W.heap.size from by have := Hlg.out; omega)
  have Hvg := Lib.hid (show ∀ b, (Value.slice A n c).ownBlock = some b → b ≠ g ∧ b < W.heap.size from fun b e => by
    obtain ⟨cells, h1, _⟩ := H.out.own
    refine ⟨fun e2 => ?_, h1.lt b e⟩
    rcases h1.2 with ⟨e3, _⟩ | ⟨g', off, cap, cur, e3, hc, _⟩
    · rw [e3] at e; simp [Value.ownBlock] at e
    · rw [e3] at e
      simp [Value.ownBlock] at e
      subst e
      exact RF.row_ne hc H.out.row (by decide) e2)
  have HS := Lib.hid (show ∀ Y : World, Y.heap[g]? = w5.heap[g]? → Y.heap[W.heap.size]? = w5.heap[W.heap.size]? → Y.cell? ⟨g, 0, none⟩ = some (.slice A n c) ∧ Y.cell? ⟨W.heap.size, 0, none⟩ = some (.slice AL nl cl) ∧ Y.cell? ⟨W.heap.size, 1, none⟩ = some (.slice AR nr cr) ∧ Y.cell? ⟨W.heap.size, 2, none⟩ = some (.slice AP np cp) from fun Y h1 h2 => by
    obtain ⟨n0, n1, n2, _⟩ := rl_cells (h2.trans Hrb.out)
    exact ⟨by rw [cell_of_row _ _ _ _ _ (0, 0) (h1.trans Hrg.out)]; rfl, n0, n1, n2⟩)
  obtain ⟨ii, hi1, hi2, hi3, hi4⟩ := info_parts infoRule
  have Hi := Lib.hid (And.intro hi1 (And.intro hi2 (And.intro hi3 hi4)))
  clear hown hrlx hi1 hi2 hi3 hi4 q q'
  refine wp_region_split 10 (by kernel_rfl) (by kernel_rfl) ?_
  simp only [List.take_succ_cons, List.take_zero]
  refine wpAny_of_held (S := fun Y => Y.cell? ⟨g, 0, none⟩ = some (.slice A n c) ∧ Y.cell? ⟨W.heap.size, 0, none⟩ = some (.slice AL nl cl) ∧ Y.cell? ⟨W.heap.size, 1, none⟩ = some (.slice AR nr cr) ∧ Y.cell? ⟨W.heap.size, 2, none⟩ = some (.slice AP np cp)) _ _ _ _ ?_
  have hHeld := HS.out w5.drew rfl rfl
  refine wpAnyH_take (i := 0) (oi := _) (v := ?_) rfl (by kernel_rfl) (by kernel_rfl) (by kernel_rfl) (fun _ _ _ h => h) (Or.inl ⟨by rfl, fun Y hY => ?_⟩) hHeld ?_
  rotate_left
  · (go_simp) <;> with_reducible rfl
  try simp only [Act.put, List.setIfInBounds_toArray, List.set_cons_zero, List.set_cons_succ, List.getElem_toArray, List.getElem_cons_succ, List.getElem_cons_zero]
  refine wpAnyH_take (i := 1) (oi := _) (v := ?_) rfl (by kernel_rfl) (by kernel_rfl) (by kernel_rfl) (fun _ _ _ h => h) (Or.inl ⟨by rfl, fun Y hY => ?_⟩) hHeld ?_
  rotate_left
  · (go_simp) <;> with_reducible rfl
  try simp only [Act.put, List.setIfInBounds_toArray, List.set_cons_zero, List.set_cons_succ, List.getElem_toArray, List.getElem_cons_succ, List.getElem_cons_zero]
  refine wpAnyH_take (i := 2) (oi := _) (v := ?_) rfl (by kernel_rfl) (by kernel_rfl) (by kernel_rfl) (fun _ _ _ h => h) (Or.inl ⟨by rfl, fun Y hY => ?_⟩) hHeld ?_
  rotate_left
  · (go_simp) <;> with_reducible rfl
  try simp only [Act.put, List.setIfInBounds_toArray, List.set_cons_zero, List.set_cons_succ, List.getElem_toArray, List.getElem_cons_succ, List.getElem_cons_zero]
  refine wpAnyH_take (i := 3) (oi := _) (v := ?_) rfl (by kernel_rfl) (by kernel_rfl) (by kernel_rfl) (fun _ _ _ h => h) (Or.inl ⟨by rfl, fun Y hY => ?_⟩) hHeld ?_
  rotate_left
  · (go_simp) <;> with_reducible rfl
  try simp only [Act.put, List.setIfInBounds_toArray, List.set_cons_zero, List.set_cons_succ, List.getElem_toArray, List.getElem_cons_succ, List.getElem_cons_zero]
  refine wpAnyH_take (i := 4) (oi := _) (v := ?_) rfl (by kernel_rfl) (by kernel_rfl) (by kernel_rfl) (fun _ _ _ h => h) (Or.inl ⟨by rfl, fun Y hY => ?_⟩) hHeld ?_
  rotate_left
  · obtain ⟨y0, y1, y2, y3⟩ := hY
    (go_simp) <;> with_reducible rfl
  try simp only [Act.put, List.setIfInBounds_toArray, List.set_cons_zero, List.set_cons_succ, List.getElem_toArray, List.getElem_cons_succ, List.getElem_cons_zero]
  refine wpAnyH_take (i := 5) (oi := _) (v := ?_) rfl (by kernel_rfl) (by kernel_rfl) (by kernel_rfl) (fun _ _ _ h => h) (Or.inl ⟨by rfl, fun Y hY => ?_⟩) hHeld ?_
  rotate_left
  · obtain ⟨y0, y1, y2, y3⟩ := hY
    (go_simp) <;> with_reducible rfl
  try simp only [Act.put, List.setIfInBounds_toArray, List.set_cons_zero, List.set_cons_succ, List.getElem_toArray, List.getElem_cons_succ, List.getElem_cons_zero]
  refine wpAnyH_ready (rs := [6]) (by kernel_rfl) (by simp) ?_
  refine AllReadyH.cons (o := _) rfl (fun KK hKK => ?_) AllReadyH.nil
  clear hHeld
  go_simp
  obtain ⟨x2, hx2⟩ : ∃ x2, x2 = (w5.alloc (.cells #[.slice AL nl cl, .slice AR nr cr, .slice AP np cp] 33)).drew := ⟨_, rfl⟩
  first | rw [← hx2] | (simp only [← hx2])
  have Hx2 := Lib.hid (show Below w5.heap.size w5 x2 from by rw [hx2]; exact ((Below.refl _ _).alloc (Nat.le_refl _) _).drew)
  have Hsrc := Lib.hid (show ∀ q u, [Value.slice AL nl cl, .slice AR nr cr, .slice AP np cp][q]? = some u → x2.cell? ((⟨w5.heap.size, 0, none⟩ : Addr).add q) = some u from by
    rw [hx2]
    intro q u hq
    obtain ⟨ad, e, h⟩ := src_new w5 [.slice AL nl cl, .slice AR nr cr, .slice AP np cp] 33 q u hq
    cases e
    exact h)
  clear hx2
  refine hKK.out _ _ (HS.out _ (Hx2.out.block _ (Array.getElem?_eq_some_iff.1 Hrg.out).1) (Hx2.out.block _ (Array.getElem?_eq_some_iff.1 Hrb.out).1)) (fun hHeld => ?_)
  clear hKK KK
  try simp only [Act.put, List.setIfInBounds_toArray, List.set_cons_zero, List.set_cons_succ, List.getElem_toArray, List.getElem_cons_succ, List.getElem_cons_zero]
  refine wpAnyH_ready (rs := [7]) (by kernel_rfl) (by simp) ?_
  refine AllReadyH.cons (o := _) rfl (fun KK hKK => ?_) AllReadyH.nil
  clear hHeld
  refine step_append_at rfl (.tmp 50) (.tmp 52) 40 rfl 33 ii _ 3 72 Tryz.underlying40 Hi.out.1 Hi.out.2.1 Hi.out.2.2.1 Hi.out.2.2.2 rfl (.slice A n c) n cells rfl (Hown.out.below Hx2.out Hown.out.lt) ⟨w5.heap.size, 0, none⟩ 1 1 [.slice AL nl cl, .slice AR nr cr, .slice AP np cp] rfl rfl Hsrc.out (by simp [Value.oneCell']) (by simp only [maxLen]; omega) (by omega) ?_
  intro v6 w6 hown6 hgr6 hat6
  have hkg : w6.heap[g]? = w5.heap[g]? := (hgr6.block g (Nat.lt_of_lt_of_le (Array.getElem?_eq_some_iff.1 Hrg.out).1 Hx2.out.size) (fun e => (Hvg.out g e.symm).1 rfl)).trans (Hx2.out.block _ (Array.getElem?_eq_some_iff.1 Hrg.out).1)
  have hkb : w6.heap[W.heap.size]? = w5.heap[W.heap.size]? := (hgr6.block _ (Nat.lt_of_lt_of_le (Array.getElem?_eq_some_iff.1 Hrb.out).1 Hx2.out.size) (fun e => by have := (Hvg.out _ e.symm).2; omega)).trans (Hx2.out.block _ (Array.getElem?_eq_some_iff.1 Hrb.out).1)
  refine hKK.out _ _ (HS.out w6 hkg hkb) (fun hHeld => ?_)
  clear hKK KK
  try simp only [Act.put, List.setIfInBounds_toArray, List.set_cons_zero, List.set_cons_succ, List.getElem_toArray, List.getElem_cons_succ, List.getElem_cons_zero]
  obtain ⟨A6, c6, rfl⟩ := hown6.form
  have Hk6 := Lib.hid (show Kpm (Nst g mb (.slice A n c)) W w6 from Hk5.out.trans ((Kpm.of_below Hx2.out (fun i => (Value.slice A n c).ownBlock = some i)).trans (Kpm.grown hgr6 (fun g e => e)) (fun i _ e => e)) (fun i _ e => .inr (.inr e)))
  have Hat6 := Lib.hid (show ∀ b, (Value.slice A6 (n + 1) c6).ownBlock = some b → (Value.slice A n c).ownBlock = some b ∨ W.heap.size ≤ b from fun b e => by
    rcases hat6 with e2 | e2
    · exact .inl (e2 ▸ e)
    · rw [e2] at e
      injection e with e
      have h1 := Hx2.out.size
      have h2 := Hsz5.out
      exact .inr (by omega))
  have Hown6 := Lib.hid (show OwnL (fun i => i < B ∨ i = g ∨ i = mb) w6 (.slice A6 (n + 1) c6) (rs ++ [r]) from ownL_snoc (by rw [← Hn.out]; exact Hown.out) Hrlx.out Hrr.out Hx2.out (by rw [← Hn.out]; exact hown6) hgr6 (by
    rcases hat6 with e2 | e2
    · exact .inl e2
    · exact .inr ⟨_, e2, Hx2.out.size⟩))
  have Hmb := Lib.hid (show w6.heap[mb]? = w5.heap[mb]? from (hgr6.block mb (Nat.lt_of_lt_of_le Hmap.out.lt Hx2.out.size) (fun e => Hvm.out mb e.symm rfl)).trans (Hx2.out.block _ Hmap.out.lt))
  have Hrg6 := Lib.hid (hkg.trans Hrg.out)
  have nf := frozen_row Hrg6.out 0
  have nc : w6.cell? ⟨g, 0, none⟩ = some (.slice A n c) := by rw [cell_of_row _ _ _ _ _ (0, 0) Hrg6.out]; rfl
  clear hown6 hgr6 hat6 hkg hkb
  refine wpAnyH_take (i := 8) (oi := _) (v := ?_) rfl (by kernel_rfl) (by kernel_rfl) (by kernel_rfl) (fun _ _ _ h => h) (Or.inl ⟨by rfl, fun Y hY => ?_⟩) hHeld ?_
  rotate_left
  · (go_simp) <;> with_reducible rfl
  try simp only [Act.put, List.setIfInBounds_toArray, List.set_cons_zero, List.set_cons_succ, List.getElem_toArray, List.getElem_cons_succ, List.getElem_cons_zero]
  refine wpAnyH_take (i := 9) (oi := _) (v := ?_) rfl (by kernel_rfl) (by kernel_rfl) (by kernel_rfl) (fun _ _ _ h => h) (Or.inl ⟨by rfl, fun Y hY => ?_⟩) hHeld ?_
  rotate_left
  · (go_simp) <;> with_reducible rfl
  try simp only [Act.put, List.setIfInBounds_toArray, List.set_cons_zero, List.set_cons_succ, List.getElem_toArray, List.getElem_cons_succ, List.getElem_cons_zero]
  refine wpAnyH_done (by kernel_rfl) ?_ _
  clear hHeld
  go_wp2_with fail
  go_ret
  have hs7 := setCell_grown w6 g 0 (.slice A6 (n + 1) c6)
  refine ⟨.slice A6 (n + 1) c6, ks ++ [k], by rw [Hc.out]; rfl, ?_, Hk6.out.setCell (p := ⟨g, 0, none⟩) (fun _ => .inl rfl) _, Hat6.out⟩
  unfold addR
  rw [Hc.out, if_pos rfl]
  refine ⟨?_, Hown6.out.step (N := fun i => i = g) (Kpm.grown hs7 (fun i e => by injection e with e; exact e.symm)) (fun i _ e => .inr (.inl e)) (fun b e1 e2 => ?_) (fun _ _ h => h), Hmap.out.keep ?_ (fun _ _ _ h => h), ?_, by rw [List.length_append, List.length_append, H.out.len]; rfl, fun i q kq h1 h2 => ?_, fun q hq => ?_⟩
  · have := heap_setCell_same w6 g 0 _ _ (.slice A6 (n + 1) c6) Hrg6.out
    rw [this]
    rfl
  · subst e2
    rcases Hat6.out b e1 with h | h
    · exact (Hvg.out b h).1 rfl
    · have := Hlg.out
      omega
  · refine (RF.set_block (fun e => ?_) ?_).trans Hmb.out
    · obtain ⟨es, clock, hb, _⟩ := Hmap.out
      rw [e, Hrg.out] at hb
      injection hb with hb
      cases hb
    · have h1 := Hmap.out.lt
      have h2 := (Array.getElem?_eq_some_iff.1 (Hmb.out.trans (Array.getElem?_eq_getElem h1))).1
      exact h2
  · rw [List.nodup_append]
    exact ⟨H.out.nd, by simp, fun a ha b hb e => by simp at hb; subst hb e; exact Hm.out ha⟩
  · rcases Nat.lt_or_ge i rs.length with hi | hi
    · rw [List.getElem?_append_left hi] at h1
      rw [List.getElem?_append_left (by rw [H.out.len]; exact hi)] at h2
      exact H.out.key i q kq h1 h2
    · rw [List.getElem?_append_right hi] at h1
      rw [List.getElem?_append_right (by rw [H.out.len]; exact hi)] at h2
      rw [H.out.len] at h2
      rcases hj : i - rs.length with _ | j
      · rw [hj] at h1 h2
        simp at h1 h2
        subst h1 h2
        exact HKey.out
      · rw [hj] at h1
        simp at h1
  · rcases List.mem_append.1 hq with hq | hq
    · exact H.out.val q hq
    · rw [List.mem_singleton] at hq
      subst hq
      exact Hv.out
end KT
end Go.Proofs.YtbiopedpceddeaaGreatDoor
