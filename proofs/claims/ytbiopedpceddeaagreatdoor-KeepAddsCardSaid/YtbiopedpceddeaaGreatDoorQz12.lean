/- Part. -/
import Derived.Test.YtbiopedpceddeaaGreatDoorQz11
set_option linter.unusedVariables false
set_option linter.unusedSimpArgs false
set_option maxRecDepth 100000
set_option maxHeartbeats 16000000
namespace Go.Proofs.YtbiopedpceddeaaGreatDoor
section
open Go.RowKit Go.Maps
namespace KT
structure NumSt (vs hs : List Int) (bv bh : Nat) (W : World) : Prop where
 v : NumAt W bv vs
 h : NumAt W bh hs
 ne : bv ≠ bh
theorem NumSt.keep {vs hs : List Int} {bv bh : Nat} {W W' : World} (h : NumSt vs hs bv bh W) (h1 : W'.heap[bv]? = W.heap[bv]?) (h2 : W'.heap[bh]? = W.heap[bh]?) : NumSt vs hs bv bh W' := ⟨h.v.keep h1, h.h.keep h2, h.ne⟩
theorem NumSt.below {vs hs : List Int} {bv bh : Nat} {W W' : World} (h : NumSt vs hs bv bh W) (hb : Below W.heap.size W W') : NumSt vs hs bv bh W' := h.keep (hb.block _ h.v.lt) (hb.block _ h.h.lt)
def Two (bv bh : Nat) (i : Nat) : Prop := i = bv ∨ i = bh
theorem seen_snoc (op : Int) (s : List Int) (l : List T.Nd) (x : T.Nd) : seen op s (l ++ [x]) = stV op (seen op s l) x := by rw [seen_app]; rfl
theorem seen_len (op : Int) : ∀ (l : List T.Nd) (s : List Int), (seen op s l).length ≤ s.length + l.length := by
 intro l
 induction l with
 | nil => intro s; simp [seen]
 | cons x l ih =>
  intro s
  have := ih (stV op s x)
  rw [seen_cons]
  have h2 : (stV op s x).length ≤ s.length + 1 := by
   unfold stV
   split
   · unfold meet; split
     · omega
     · simp
   · omega
  simp only [List.length_cons]
  omega
def sws (l : List T.Nd) : List Value := (l.map word).map fun l => Value.string ⟨l.toArray⟩
theorem sws_snoc (l : List T.Nd) (x : T.Nd) : sws (l ++ [x]) = sws l ++ [.string ⟨(word x).toArray⟩] := by simp [sws]
theorem renL_snoc (l : List T.Nd) (x : T.Nd) (vs hs : List Int) : renL vs hs (l ++ [x]) = renL vs hs l ++ [ren (seen 33 vs (l ++ [x])) (seen 34 hs (l ++ [x])) x] := by
 rw [renL_app, seen_snoc, seen_snoc]
 rfl
theorem Tens.keep {W W' : World} (h : Tens W) (hk : ∀ (i : Nat) (cs : Array Value) (t : TypeId) (f : Nat × Nat), W.heap[i]? = some (Obj.cells cs t f) → W'.heap[i]? = W.heap[i]?) : Tens W' := by
 unfold Tens Lib.TabIs World.var? at h ⊢
 cases hg : Tryz.prog.globalNamed "internal/strconv.uint64pow10" with
 | none => rw [hg] at h; cases h
 | some g =>
  rw [hg] at h
  simp only [Option.bind_some] at h ⊢
  cases hw : W.heap[g]? with
  | none => rw [hw] at h; cases h
  | some o =>
   cases o with
   | cells cs t f => rw [hk g cs t f hw]; exact h
   | _ => rw [hw] at h; cases h
theorem NumSt.not_cells {vs hs : List Int} {bv bh : Nat} {W : World} (h : NumSt vs hs bv bh W) {i : Nat} {cs : Array Value} {t : TypeId} {f : Nat × Nat} (hi : W.heap[i]? = some (Obj.cells cs t f)) : ¬ Two bv bh i := by
 rintro (rfl | rfl)
 · obtain ⟨es, c, hb, _⟩ := h.v.2
   rw [hi] at hb
   cases hb
 · obtain ⟨es, c, hb, _⟩ := h.h.2
   rw [hi] at hb
   cases hb
theorem Tens.two {vs hs : List Int} {bv bh : Nat} {W W' : World} (h : Tens W) (hN : NumSt vs hs bv bh W) (hk : Kpm (Two bv bh) W W') : Tens W' :=
 h.keep fun i cs t f hi => hk.block i (gA hi).1 (hN.not_cells hi)
theorem cells_of_cell {W : World} {b off : Nat} {u : Value} (h : W.cell? ⟨b, off, none⟩ = some u) : ∃ cs t f, W.heap[b]? = some (Obj.cells cs t f) := by
 unfold World.cell? at h
 cases hw : W.heap[b]? with
 | none => simp [hw] at h
 | some o =>
  cases o with
  | cells cs t f => exact ⟨cs, t, f, rfl⟩
  | _ => simp [hw] at h
theorem slTwo {vs hs : List Int} {bv bh : Nat} {W W' : World} {A : Option Addr} {n : Nat} {xs : List Int} (h : SlAt (IntR .i64) W A n xs) (hN : NumSt vs hs bv bh W) (hk : Kpm (Two bv bh) W W') : SlAt (IntR .i64) W' A n xs := by
 refine h.kpm hk fun hne b off e => ?_
 have hl := h.len
 obtain ⟨_, b', off', u, _, e2, _, hc, _⟩ := h.at_ (k := 0) (by cases xs with | nil => exact absurd rfl hne | cons _ _ => simp at hl; omega)
 rw [e] at e2
 cases e2
 obtain ⟨cs, t, f, hcs⟩ := cells_of_cell hc
 exact hN.not_cells hcs
structure NdI (x : T.Nd) : Prop where
 op : I64 x.op
 w : I64 x.w
 fl : I64 x.fl
 len : x.args.length ≤ 3
 args : ∀ a ∈ x.args, I64 a
 imm : 0 ≤ x.imm ∧ x.imm < 4294967296
theorem ren_word {V H : List Int} (hv : V.length ≤ 1000000) (hh : H.length ≤ 1000000) {x : T.Nd} (h : NdI x) : (∀ a ∈ [x.op, x.w, x.fl, (ren V H x).imm] ++ x.args, I64 a) ∧ word (ren V H x) = nums ([x.op, x.w, x.fl, (ren V H x).imm] ++ x.args) := by
 have him : I64 (ren V H x).imm := by
  unfold ren
  have h1 := List.idxOf_le_length (a := x.imm) (l := V)
  have h2 := List.idxOf_le_length (a := x.imm) (l := H)
  have h3 := h.imm
  split
  · exact ⟨by simp only; omega, by simp only; omega⟩
  · split
    · exact ⟨by simp only; omega, by simp only; omega⟩
    · exact ⟨by omega, by omega⟩
 refine ⟨fun a ha => ?_, ?_⟩
 · rcases List.mem_append.1 ha with ha | ha
   · simp only [List.mem_cons, List.not_mem_nil, or_false] at ha
     rcases ha with rfl | rfl | rfl | rfl
     · exact h.op
     · exact h.w
     · exact h.fl
     · exact him
   · exact h.args a ha
 · unfold word
   have : (ren V H x).op = x.op ∧ (ren V H x).w = x.w ∧ (ren V H x).fl = x.fl ∧ (ren V H x).args = x.args := by
    unfold ren
    split
    · exact ⟨rfl, rfl, rfl, rfl⟩
    · split
      · exact ⟨rfl, rfl, rfl, rfl⟩
      · exact ⟨rfl, rfl, rfl, rfl⟩
   rw [this.1, this.2.1, this.2.2.1, this.2.2.2]
theorem sideT_len {V H : List Int} (hv : V.length ≤ 1000000) (hh : H.length ≤ 1000000) {L : List T.Nd} (h : ∀ x ∈ L, NdI x) : (jn 32 ((L.map (ren V H)).map word)).length ≤ L.length * 148 := by
 have := jn_len_le 32 147 ((L.map (ren V H)).map word) (fun y hy => by
  rw [List.map_map] at hy
  obtain ⟨x, hx, rfl⟩ := List.mem_map.1 hy
  obtain ⟨h1, h2⟩ := ren_word hv hh (h x hx)
  simp only [Function.comp]
  rw [h2]
  have h3 := nums_len h1
  have h4 := (h x hx).len
  simp only [List.length_append, List.length_cons, List.length_nil] at h3
  omega)
 simpa using this
theorem ktext_any {t : List T.Nd} {n cn : Nat} {At : Option Addr} {W : World} (hT : Tens W) (hS : StAt 5 NdR W At n t) (hw : TWf t) (hn : n ≤ 100000) (hn1 : 1 ≤ n) (fr : T.F) (hfr : T.Rep t [((n - 1 : Nat) : Int)] fr)
 (hI : ∀ x ∈ T.canon fr, NdI x) (hL : (T.canon fr).length ≤ 100000) (hL1 : T.canon fr ≠ [])
 {vs hs : List Int} {bv bh : Nat} (hN : NumSt vs hs bv bh W) (hv : vs.length ≤ 100000) (hh : hs.length ≤ 100000) :
 Calls Tryz.prog 59 #[.agg #[.map (some bv), .map (some bh)], .slice At n cn] W fun e W' => e = .returned (.string ⟨(sideT (renL vs hs (T.canon fr))).toArray⟩) ∧
  NumSt (seen 33 vs (T.canon fr)) (seen 34 hs (T.canon fr)) bv bh W' ∧ Kpm (Two bv bh) W W' := by
 obtain ⟨L, hLe⟩ : ∃ L, L = T.canon fr := ⟨_, rfl⟩
 obtain ⟨W0, hW0⟩ : ∃ W0, W0 = W.alloc (.cells #[.map (some bv), .map (some bh)] 84) := ⟨_, rfl⟩
 have hb0 : Below W.heap.size W W0 := by rw [hW0]; exact al0
 have hr0 : W0.heap[W.heap.size]? = some (.cells #[.map (some bv), .map (some bh)] 84 (0, 0)) := by rw [hW0]; exact heap_alloc_new W _
 have hs0 : W0.heap.size = W.heap.size + 1 := by rw [hW0]; simp
 have Hpt := kH (gpart_any (ct := cn) (hS.below monoNd hb0) hw (by omega) (n - 1) (by omega) fr hfr)
 rw [← hLe] at Hpt hI hL hL1 ⊢
 have hsub : (n : Int) - 1 = ((n - 1 : Nat) : Int) := by omega
 have HT := kH (hT.below hb0)
 have HI := kH hI
 have HL := kH hL
 have HL1 := kH hL1
 have HN := kH (hN.below hb0)
 have Hvl := kH hN.v.lt
 have Hhl := kH hN.h.lt
 have Hne := kH hN.ne
 have Hv := kH hv
 have Hh := kH hh
 have Hb0 := kH hb0
 have Hr0 := kH hr0
 have Hs0 := kH hs0
 clear hT hS hw hfr hI hL hL1 hN hv hh hb0 hr0 hs0 hLe
 go_enter Tryz.func59, Tryz.ntmps59
 go_wp2_with fail
 (try rw [hsub])
 rw [← hW0]
 clear hW0
 (with_reducible refine Hpt.out.mono ?_)
 rintro e W1 ⟨A', c', rfl, hst, hb1, hstay⟩
 have Hst := kH hstay
 have Hb1 := kH hb1
 have Hr1 := kH (row_step (kH hb1) Hr0.out)
 have HN1 := kH (HN.out.below hb1)
 have HT1 := kH (HT.out.below hb1)
 clear hst hb1 hstay Hpt HN HT
 go_wp2
 go_loopg [5, 16] (L.length + 1) (fun gg s5 s16 wr => ∃ (j : Nat) (v : Value), j ≤ L.length ∧ s5 = v ∧ s16 = .int .i64 (j : Int) ∧ gg + j = L.length + 1 ∧ Hid (OwnAt wr 9 1 v j (sws (renL vs hs (L.take j)))) ∧
  Hid (Kpm (Two bv bh) W1 wr) ∧ Hid (NumSt (seen 33 vs (L.take j)) (seen 34 hs (L.take j)) bv bh wr) ∧ Hid (∀ i, v.ownBlock = some i → W1.heap.size ≤ i))
 case atStart => exact ⟨0, .slice none 0 0, Nat.zero_le _, rfl, rfl, rfl, kH (OwnAt.nil_ _ _ _), kH (Kpm.refl _ _), HN1, kH (fun i e => by simp [Value.ownBlock] at e)⟩
 case round =>
  obtain ⟨j, v, hj, rfl, rfl, hgk, Ho, Hk, HNr, Hnw⟩ := hrel
  have Hgk := kH hgk
  clear hgk
  obtain ⟨Av, cv, hv⟩ := Ho.out.form
  subst hv
  have h1s := Hb1.out.size
  have h0s := Hs0.out
  have hks := Hk.out.size
  have hvl := Hvl.out
  have hhl := Hhl.out
  have Hbox := kH (show wr.heap[W.heap.size]? = some (.cells #[.map (some bv), .map (some bh)] 84 (0, 0)) from (Hk.out.block _ (by omega) (fun h => by rcases h with h | h <;> omega)).trans Hr1.out)
  have Hstr := kH (Hst.out wr fun i h1 h2 => Hk.out.block i h2 (fun h => by rcases h with h | h <;> omega))
  have HTr := kH (HT1.out.two HN1.out Hk.out)
  by_cases hjl : j < L.length
  · obtain ⟨x, b, off, A, c, hx, hAe, hb, k0, k1, k2, k3, k4, hsl, i0, i1⟩ := nd_cells Hstr.out hjl
    cases hAe
    have hxm := List.mem_of_getElem? hx
    have htk : L.take (j + 1) = L.take j ++ [x] := by rw [List.take_add_one, hx]; rfl
    have Htk := kH htk
    have Hx := kH hx
    have Hxi := kH (HI.out x hxm)
    have Hi := kH (show 0 ≤ x.imm ∧ x.imm < 4294967296 from ⟨i0, i1⟩)
    obtain ⟨kb0, kb1⟩ : wr.cell? ⟨W.heap.size, 0, none⟩ = some (.map (some bv)) ∧ wr.cell? ⟨W.heap.size, 1, none⟩ = some (.map (some bh)) := by
     constructor <;> (rw [cell_of_row _ _ _ _ _ (0, 0) Hbox.out]; rfl)
    have kbl : W.heap.size < wr.heap.size := by omega
    obtain ⟨w1, hw1⟩ : ∃ w1, w1 = wr.alloc (.cells #[.int .i64 x.op, .int .i64 x.w, .int .i64 x.fl, .slice A x.args.length c, .int .u32 x.imm] 62) := ⟨_, rfl⟩
    have hb1 : Below wr.heap.size wr w1 := by rw [hw1]; exact al0
    have Hr1n := kH (show w1.heap[wr.heap.size]? = some (.cells #[.int .i64 x.op, .int .i64 x.w, .int .i64 x.fl, .slice A x.args.length c, .int .u32 x.imm] 62 (0, 0)) from by rw [hw1]; exact heap_alloc_new wr _)
    have Hsz1 := kH (show w1.heap.size = wr.heap.size + 1 from by rw [hw1]; simp)
    have Hb1n := kH hb1
    have Hsl1 := kH (hsl.below (monoInt _) hb1)
    have HN1r := kH (HNr.out.below hb1)
    have Ho1 := kH (Ho.out.below hb1 (fun g hg => Ho.out.lt g hg))
    have Hk1 := kH (Hk.out.trans (Kpm.of_below hb1 (fun _ => False)) (fun _ _ h => h.elim))
    have hlv := seen_len 33 (L.take j) vs
    have hlh := seen_len 34 (L.take j) hs
    rw [List.length_take] at hlv hlh
    have Hlv := kH (show (seen 33 vs (L.take j)).length ≤ 1000000 from by have := Hv.out; have := HL.out; omega)
    have Hlh := kH (show (seen 34 hs (L.take j)).length ≤ 1000000 from by have := Hh.out; have := HL.out; omega)
    have e33 := seen_snoc 33 vs (L.take j) x
    have e34 := seen_snoc 34 hs (L.take j) x
    rw [← htk] at e33 e34
    have E33 := kH e33
    have E34 := kH e34
    clear hx hxm htk i0 i1 hb hsl hb1 hlv hlh e33 e34
    by_cases h33 : x.op = 33
    · have q33 : (x.op == 33) = true := by simp [h33]
      have q34 : (x.op == 34) = false := by simp [h33]
      have e33 : seen 33 vs (L.take (j + 1)) = meet (seen 33 vs (L.take j)) x.imm := by rw [E33.out]; unfold stV; rw [if_pos h33]
      have e34 : seen 34 hs (L.take (j + 1)) = seen 34 hs (L.take j) := by rw [E34.out]; unfold stV; rw [if_neg (by rw [h33]; decide)]
      have E33' := kH e33
      have E34' := kH e34
      have H33 := kH h33
      clear e33 e34 h33
      have Hof := kH (kof_any bv _ x.imm w1 HN1r.out.v Hi.out Hlv.out)
      go_wp2_with fail
      rw [← hw1]
      clear hw1
      (with_reducible refine Hof.out.mono ?_)
      rintro e w2 ⟨rfl, hN2, hg2⟩
      have hk12 : Kpm (Two bv bh) w1 w2 := Kpm.grown hg2 (fun g e => by cases e; exact .inl rfl)
      have Hr2 := kH ((hg2.block wr.heap.size (by have := Hsz1.out; omega) (fun e => by injection e with e; have := Hvl.out; have := Hhl.out; omega)).trans Hr1n.out)
      have HT2 := kH (((HTr.out.below (show Below wr.heap.size wr w1 from Hb1n.out)).two HN1r.out hk12))
      have Hsl2 := kH (slTwo Hsl1.out HN1r.out hk12)
      have Hk2 := kH (Hk1.out.trans hk12 (fun _ _ h => h))
      have Ho2 := kH (Ho1.out.same (fun g hg => hg2.block g (Ho1.out.lt g hg) (fun e => by injection e with e; have := Hnw.out g hg; omega)))
      have HN2 := kH (show NumSt (seen 33 vs (L.take (j + 1))) (seen 34 hs (L.take (j + 1))) bv bh w2 from by
       rw [E33'.out, E34'.out]
       exact ⟨hN2, HN1r.out.h.keep (hg2.block _ HN1r.out.h.lt (fun e => Hne.out (by injection e with e; omega))), Hne.out⟩)
      obtain ⟨im, him⟩ : ∃ im : Int, im = (((meet (seen 33 vs (L.take j)) x.imm).idxOf x.imm : Nat) : Int) := ⟨_, rfl⟩
      have Him := kH (show (ren (seen 33 vs (L.take (j + 1))) (seen 34 hs (L.take (j + 1))) x).imm = im from by
       unfold ren
       rw [if_pos H33.out, him, E33'.out])
      rw [← him]
      clear him hN2 hg2 hk12 Hof
      have hV : (seen 33 vs (L.take (j + 1))).length ≤ 1000000 := by have h := seen_len 33 (L.take (j + 1)) vs; rw [List.length_take] at h; have := Hv.out; have := HL.out; omega
      have hH : (seen 34 hs (L.take (j + 1))).length ≤ 1000000 := by have h := seen_len 34 (L.take (j + 1)) hs; rw [List.length_take] at h; have := Hh.out; have := HL.out; omega
      obtain ⟨hli, hword⟩ := ren_word hV hH Hxi.out
      rw [Him.out] at hli hword
      have Hli := kH hli
      have Hword := kH hword
      have hal := Hxi.out.len
      have hLl := HL.out
      obtain ⟨us, hul, hus, hur⟩ := Hsl2.out.cells
      have hse : us = x.args.map (Value.int .i64) := by
       refine List.ext_getElem? fun q => ?_
       by_cases hq : q < x.args.length
       · have h1 : us[q]? = some us[q] := List.getElem?_eq_getElem (by omega)
         have h2 : x.args[q]? = some x.args[q] := List.getElem?_eq_getElem hq
         have := hur q _ _ h2 h1
         rw [h1, List.getElem?_map, h2]
         exact congrArg some this
       · rw [List.getElem?_eq_none (by omega), List.getElem?_eq_none (by simp; omega)]
      subst hse
      obtain ⟨w3, hw3⟩ : ∃ w3, w3 = w2.alloc (.cells #[.int .i64 x.op, .int .i64 x.w, .int .i64 x.fl, .int .i64 im] 3) := ⟨_, rfl⟩
      have hb3 : Below w2.heap.size w2 w3 := by rw [hw3]; exact al0
      have Hs3 := kH (show w3.heap.size = w2.heap.size + 1 from by rw [hw3]; simp)
      have Hn3 := kH (show OwnAt w3 3 1 (.slice (some ⟨w2.heap.size, 0, none⟩) 4 4) 4 [.int .i64 x.op, .int .i64 x.w, .int .i64 x.fl, .int .i64 im] from by
       rw [hw3]
       exact OwnAt.of_new w2 #[.int .i64 x.op, .int .i64 x.w, .int .i64 x.fl, .int .i64 im] 4 rfl (by decide))
      have Hsrc := kH (show ∀ q u, (x.args.map (Value.int .i64))[q]? = some u → ∃ ad : Addr, A = some ad ∧ w3.cell? (ad.add q) = some u from fun q u hu => by
       obtain ⟨ad, e, hc⟩ := hus q u hu
       obtain ⟨_, b', off', _, _, e2, hb', hc', _⟩ := Hsl2.out.at_ (k := q) (by have := (List.getElem?_eq_some_iff.1 hu).1; simpa using this)
       rw [e] at e2
       cases e2
       rw [addr_add_zero] at hc
       exact ⟨_, e, by rw [addr_add_zero]; exact (hb3.cell (p := ⟨b', off' + q, none⟩) hb').trans hc⟩)
      have Hone := kH (show ∀ u ∈ x.args.map (Value.int .i64), u.oneCell' = true from fun u hu => by obtain ⟨y, _, rfl⟩ := List.mem_map.1 hu; rfl)
      have Hb3 := kH hb3
      clear hul hus hur hb3 hV hH hli hword
      obtain ⟨m0, m1, m2, m3, m4⟩ := nd5_cells Hr2.out
      have hlt2 : wr.heap.size < w2.heap.size := (gA Hr2.out).1
      go_wp2_with (first
       | (at_builtin; (try rw [← hw1]); rw [← hw3]; refine wpList_append_src _ rfl (.tmp 46) (.tmp 48) 60 rfl 3 (.int .i64 0) 1 8 Tryz.underlying60 infoI rfl (by decide) (.slice (some ⟨w2.heap.size, 0, none⟩) 4 4) 4 _ rfl Hn3.out A x.args.length c (x.args.map (Value.int .i64)) rfl (by simp) Hsrc.out Hone.out (by omega) (by decide) ?_; clear hw3; intro v4 w4 hown4 hgr4 hat4; obtain ⟨A4, c4, hv4⟩ := hown4.form; subst hv4; have hb4 := Hb3.out.grown hgr4 (by have := Hs3.out; omega) (fun g hg => by simp [Value.ownBlock] at hg; omega); have Hb4 := kH hb4; have HT4 := kH (HT2.out.below hb4); have Ho4 := kH (Ho2.out.below hb4 (fun g hg => Ho2.out.lt g hg)); have Hs4 := kH (show SlAt (IntR .i64) w4 A4 (4 + x.args.length) ([x.op, x.w, x.fl, im] ++ x.args) from OwnAt.slInts (by have h := hown4; rw [show [Value.int .i64 x.op, .int .i64 x.w, .int .i64 x.fl, .int .i64 im] ++ x.args.map (Value.int .i64) = ([x.op, x.w, x.fl, im] ++ x.args).map (Value.int .i64) by simp] at h; exact h)); clear hown4 hgr4 hat4 hb4)
       | (go_at_call 65; refine (knumbers_any HT4.out Hs4.out Hli.out (by simp) (by omega)).mono ?_; rintro e w5 ⟨rfl, hb5⟩; have Hb5 := kH hb5; have Ho5 := kH (Ho4.out.below hb5 (fun g hg => Ho4.out.lt g hg)); clear hb5)
       | (at_builtin; refine wpList_append_one' rfl (.tmp 50) (.tmp 53) 106 rfl 9 (.string ByteArray.empty) 16 Tryz.underlying106 infoS rfl _ j _ rfl Ho5.out (.string ⟨(nums (x.op :: x.w :: x.fl :: im :: x.args)).toArray⟩) rfl 9 w5.heap.size rfl rfl (by omega) (by omega) ?_; intro v' w6 hown' hgr hat; have Hown' := kH hown'; have Hgr := kH hgr; have Hat := kH hat; clear hown' hgr hat))
      go_roundg (gk - 1)
      case measure => have := Hgk.out; omega
      case rel =>
       have := Hgk.out
       have h4s := Hb4.out.size
       have h5s := Hb5.out.size
       have hk2s := Hk2.out.size
       have hB : Below w2.heap.size w2 (w5.alloc (.cells #[.string ⟨(nums (x.op :: x.w :: x.fl :: im :: x.args)).toArray⟩] 9)) := (Hb4.out.trans (Hb5.out.mono h4s)).alloc (by omega) _
       have hkk : Kpm (Two bv bh) W1 w6 := Kpm.trans (Hk2.out.trans (Kpm.of_below hB (fun _ => False)) (fun _ _ h => h.elim)) (Kpm.grown (M := fun i => W1.heap.size ≤ i) Hgr.out (fun g hg => Hnw.out g hg)) (fun i hi h => absurd h (by omega))
       refine ⟨j + 1, v', by omega, rfl, by go_num, by omega, kH ?_, kH hkk, kH ?_, kH fun i hi => ?_⟩
       · rw [Htk.out, renL_snoc, sws_snoc, ← Htk.out, Hword.out]
         exact Hown'.out
       · have h5 : ∀ i, i < w2.heap.size → (Two bv bh i) → w6.heap[i]? = w2.heap[i]? := fun i hi h2 => (Hgr.out.block i (by have := hB.size; omega) (fun e => by have := Hnw.out i e.symm; rcases h2 with h2 | h2 <;> omega)).trans (hB.block i hi)
         exact HN2.out.keep (h5 bv HN2.out.v.lt (.inl rfl)) (h5 bh HN2.out.h.lt (.inr rfl))
       · rcases Hat.out with e | e
         · exact Hnw.out i (e ▸ hi)
         · rw [e] at hi; injection hi with hi; omega
    by_cases h34 : x.op = 34
    · clear h33; have h33 := h34; clear h34
      have q33 : (x.op == 33) = false := by simp [h33]
      have q34 : (x.op == 34) = true := by simp [h33]
      have e33 : seen 33 vs (L.take (j + 1)) = seen 33 vs (L.take j) := by rw [E33.out]; unfold stV; rw [if_neg (by rw [h33]; decide)]
      have e34 : seen 34 hs (L.take (j + 1)) = meet (seen 34 hs (L.take j)) x.imm := by rw [E34.out]; unfold stV; rw [if_pos h33]
      have E33' := kH e33
      have E34' := kH e34
      have H33 := kH h33
      clear e33 e34 h33
      have Hof := kH (kof_any bh _ x.imm w1 HN1r.out.h Hi.out Hlh.out)
      go_wp2_with fail
      rw [← hw1]
      clear hw1
      (with_reducible refine Hof.out.mono ?_)
      rintro e w2 ⟨rfl, hN2, hg2⟩
      have hk12 : Kpm (Two bv bh) w1 w2 := Kpm.grown hg2 (fun g e => by cases e; exact .inr rfl)
      have Hr2 := kH ((hg2.block wr.heap.size (by have := Hsz1.out; omega) (fun e => by injection e with e; have := Hvl.out; have := Hhl.out; omega)).trans Hr1n.out)
      have HT2 := kH (((HTr.out.below (show Below wr.heap.size wr w1 from Hb1n.out)).two HN1r.out hk12))
      have Hsl2 := kH (slTwo Hsl1.out HN1r.out hk12)
      have Hk2 := kH (Hk1.out.trans hk12 (fun _ _ h => h))
      have Ho2 := kH (Ho1.out.same (fun g hg => hg2.block g (Ho1.out.lt g hg) (fun e => by injection e with e; have := Hnw.out g hg; omega)))
      have HN2 := kH (show NumSt (seen 33 vs (L.take (j + 1))) (seen 34 hs (L.take (j + 1))) bv bh w2 from by
       rw [E33'.out, E34'.out]
       exact ⟨HN1r.out.v.keep (hg2.block _ HN1r.out.v.lt (fun e => Hne.out (by injection e with e))), hN2, Hne.out⟩)
      obtain ⟨im, him⟩ : ∃ im : Int, im = (((meet (seen 34 hs (L.take j)) x.imm).idxOf x.imm : Nat) : Int) := ⟨_, rfl⟩
      have Him := kH (show (ren (seen 33 vs (L.take (j + 1))) (seen 34 hs (L.take (j + 1))) x).imm = im from by
       unfold ren
       rw [if_neg (by rw [H33.out]; decide), if_pos H33.out, him, E34'.out])
      rw [← him]
      clear him hN2 hg2 hk12 Hof
      have hV : (seen 33 vs (L.take (j + 1))).length ≤ 1000000 := by have h := seen_len 33 (L.take (j + 1)) vs; rw [List.length_take] at h; have := Hv.out; have := HL.out; omega
      have hH : (seen 34 hs (L.take (j + 1))).length ≤ 1000000 := by have h := seen_len 34 (L.take (j + 1)) hs; rw [List.length_take] at h; have := Hh.out; have := HL.out; omega
      obtain ⟨hli, hword⟩ := ren_word hV hH Hxi.out
      rw [Him.out] at hli hword
      have Hli := kH hli
      have Hword := kH hword
      have hal := Hxi.out.len
      have hLl := HL.out
      obtain ⟨us, hul, hus, hur⟩ := Hsl2.out.cells
      have hse : us = x.args.map (Value.int .i64) := by
       refine List.ext_getElem? fun q => ?_
       by_cases hq : q < x.args.length
       · have h1 : us[q]? = some us[q] := List.getElem?_eq_getElem (by omega)
         have h2 : x.args[q]? = some x.args[q] := List.getElem?_eq_getElem hq
         have := hur q _ _ h2 h1
         rw [h1, List.getElem?_map, h2]
         exact congrArg some this
       · rw [List.getElem?_eq_none (by omega), List.getElem?_eq_none (by simp; omega)]
      subst hse
      obtain ⟨w3, hw3⟩ : ∃ w3, w3 = w2.alloc (.cells #[.int .i64 x.op, .int .i64 x.w, .int .i64 x.fl, .int .i64 im] 3) := ⟨_, rfl⟩
      have hb3 : Below w2.heap.size w2 w3 := by rw [hw3]; exact al0
      have Hs3 := kH (show w3.heap.size = w2.heap.size + 1 from by rw [hw3]; simp)
      have Hn3 := kH (show OwnAt w3 3 1 (.slice (some ⟨w2.heap.size, 0, none⟩) 4 4) 4 [.int .i64 x.op, .int .i64 x.w, .int .i64 x.fl, .int .i64 im] from by
       rw [hw3]
       exact OwnAt.of_new w2 #[.int .i64 x.op, .int .i64 x.w, .int .i64 x.fl, .int .i64 im] 4 rfl (by decide))
      have Hsrc := kH (show ∀ q u, (x.args.map (Value.int .i64))[q]? = some u → ∃ ad : Addr, A = some ad ∧ w3.cell? (ad.add q) = some u from fun q u hu => by
       obtain ⟨ad, e, hc⟩ := hus q u hu
       obtain ⟨_, b', off', _, _, e2, hb', hc', _⟩ := Hsl2.out.at_ (k := q) (by have := (List.getElem?_eq_some_iff.1 hu).1; simpa using this)
       rw [e] at e2
       cases e2
       rw [addr_add_zero] at hc
       exact ⟨_, e, by rw [addr_add_zero]; exact (hb3.cell (p := ⟨b', off' + q, none⟩) hb').trans hc⟩)
      have Hone := kH (show ∀ u ∈ x.args.map (Value.int .i64), u.oneCell' = true from fun u hu => by obtain ⟨y, _, rfl⟩ := List.mem_map.1 hu; rfl)
      have Hb3 := kH hb3
      clear hul hus hur hb3 hV hH hli hword
      obtain ⟨m0, m1, m2, m3, m4⟩ := nd5_cells Hr2.out
      have hlt2 : wr.heap.size < w2.heap.size := (gA Hr2.out).1
      go_wp2_with (first
       | (at_builtin; (try rw [← hw1]); rw [← hw3]; refine wpList_append_src _ rfl (.tmp 46) (.tmp 48) 60 rfl 3 (.int .i64 0) 1 8 Tryz.underlying60 infoI rfl (by decide) (.slice (some ⟨w2.heap.size, 0, none⟩) 4 4) 4 _ rfl Hn3.out A x.args.length c (x.args.map (Value.int .i64)) rfl (by simp) Hsrc.out Hone.out (by omega) (by decide) ?_; clear hw3; intro v4 w4 hown4 hgr4 hat4; obtain ⟨A4, c4, hv4⟩ := hown4.form; subst hv4; have hb4 := Hb3.out.grown hgr4 (by have := Hs3.out; omega) (fun g hg => by simp [Value.ownBlock] at hg; omega); have Hb4 := kH hb4; have HT4 := kH (HT2.out.below hb4); have Ho4 := kH (Ho2.out.below hb4 (fun g hg => Ho2.out.lt g hg)); have Hs4 := kH (show SlAt (IntR .i64) w4 A4 (4 + x.args.length) ([x.op, x.w, x.fl, im] ++ x.args) from OwnAt.slInts (by have h := hown4; rw [show [Value.int .i64 x.op, .int .i64 x.w, .int .i64 x.fl, .int .i64 im] ++ x.args.map (Value.int .i64) = ([x.op, x.w, x.fl, im] ++ x.args).map (Value.int .i64) by simp] at h; exact h)); clear hown4 hgr4 hat4 hb4)
       | (go_at_call 65; refine (knumbers_any HT4.out Hs4.out Hli.out (by simp) (by omega)).mono ?_; rintro e w5 ⟨rfl, hb5⟩; have Hb5 := kH hb5; have Ho5 := kH (Ho4.out.below hb5 (fun g hg => Ho4.out.lt g hg)); clear hb5)
       | (at_builtin; refine wpList_append_one' rfl (.tmp 50) (.tmp 53) 106 rfl 9 (.string ByteArray.empty) 16 Tryz.underlying106 infoS rfl _ j _ rfl Ho5.out (.string ⟨(nums (x.op :: x.w :: x.fl :: im :: x.args)).toArray⟩) rfl 9 w5.heap.size rfl rfl (by omega) (by omega) ?_; intro v' w6 hown' hgr hat; have Hown' := kH hown'; have Hgr := kH hgr; have Hat := kH hat; clear hown' hgr hat))
      go_roundg (gk - 1)
      case measure => have := Hgk.out; omega
      case rel =>
       have := Hgk.out
       have h4s := Hb4.out.size
       have h5s := Hb5.out.size
       have hk2s := Hk2.out.size
       have hB : Below w2.heap.size w2 (w5.alloc (.cells #[.string ⟨(nums (x.op :: x.w :: x.fl :: im :: x.args)).toArray⟩] 9)) := (Hb4.out.trans (Hb5.out.mono h4s)).alloc (by omega) _
       have hkk : Kpm (Two bv bh) W1 w6 := Kpm.trans (Hk2.out.trans (Kpm.of_below hB (fun _ => False)) (fun _ _ h => h.elim)) (Kpm.grown (M := fun i => W1.heap.size ≤ i) Hgr.out (fun g hg => Hnw.out g hg)) (fun i hi h => absurd h (by omega))
       refine ⟨j + 1, v', by omega, rfl, by go_num, by omega, kH ?_, kH hkk, kH ?_, kH fun i hi => ?_⟩
       · rw [Htk.out, renL_snoc, sws_snoc, ← Htk.out, Hword.out]
         exact Hown'.out
       · have h5 : ∀ i, i < w2.heap.size → (Two bv bh i) → w6.heap[i]? = w2.heap[i]? := fun i hi h2 => (Hgr.out.block i (by have := hB.size; omega) (fun e => by have := Hnw.out i e.symm; rcases h2 with h2 | h2 <;> omega)).trans (hB.block i hi)
         exact HN2.out.keep (h5 bv HN2.out.v.lt (.inl rfl)) (h5 bh HN2.out.h.lt (.inr rfl))
       · rcases Hat.out with e | e
         · exact Hnw.out i (e ▸ hi)
         · rw [e] at hi; injection hi with hi; omega
    have q33 : (x.op == 33) = false := by simp [h33]
    have q34 : (x.op == 34) = false := by simp [h34]
    have e33 : seen 33 vs (L.take (j + 1)) = seen 33 vs (L.take j) := by rw [E33.out]; unfold stV; rw [if_neg h33]
    have e34 : seen 34 hs (L.take (j + 1)) = seen 34 hs (L.take j) := by rw [E34.out]; unfold stV; rw [if_neg h34]
    have HN2 := kH (show NumSt (seen 33 vs (L.take (j + 1))) (seen 34 hs (L.take (j + 1))) bv bh w1 from by rw [e33, e34]; exact HN1r.out)
    have Hr2 := Hr1n
    have HT2 := kH (HTr.out.below (show Below wr.heap.size wr w1 from Hb1n.out))
    have Hsl2 := Hsl1
    have Hk2 := Hk1
    have Ho2 := Ho1
    have hwi : wrap64 x.imm = x.imm := by unfold wrap64; have := Hi.out; omega
    obtain ⟨im, him⟩ : ∃ im : Int, im = x.imm := ⟨_, rfl⟩
    have Him := kH (show (ren (seen 33 vs (L.take (j + 1))) (seen 34 hs (L.take (j + 1))) x).imm = x.imm from by
     unfold ren
     rw [if_neg h33, if_neg h34])
    clear e33 e34 him im
    have hV : (seen 33 vs (L.take (j + 1))).length ≤ 1000000 := by have h := seen_len 33 (L.take (j + 1)) vs; rw [List.length_take] at h; have := Hv.out; have := HL.out; omega
    have hH : (seen 34 hs (L.take (j + 1))).length ≤ 1000000 := by have h := seen_len 34 (L.take (j + 1)) hs; rw [List.length_take] at h; have := Hh.out; have := HL.out; omega
    obtain ⟨hli, hword⟩ := ren_word hV hH Hxi.out
    rw [Him.out] at hli hword
    have Hli := kH hli
    have Hword := kH hword
    have hal := Hxi.out.len
    have hLl := HL.out
    obtain ⟨us, hul, hus, hur⟩ := Hsl2.out.cells
    have hse : us = x.args.map (Value.int .i64) := by
     refine List.ext_getElem? fun q => ?_
     by_cases hq : q < x.args.length
     · have h1 : us[q]? = some us[q] := List.getElem?_eq_getElem (by omega)
       have h2 : x.args[q]? = some x.args[q] := List.getElem?_eq_getElem hq
       have := hur q _ _ h2 h1
       rw [h1, List.getElem?_map, h2]
       exact congrArg some this
     · rw [List.getElem?_eq_none (by omega), List.getElem?_eq_none (by simp; omega)]
    subst hse
    obtain ⟨w3, hw3⟩ : ∃ w3, w3 = w1.alloc (.cells #[.int .i64 x.op, .int .i64 x.w, .int .i64 x.fl, .int .i64 x.imm] 3) := ⟨_, rfl⟩
    have hb3 : Below w1.heap.size w1 w3 := by rw [hw3]; exact al0
    have Hs3 := kH (show w3.heap.size = w1.heap.size + 1 from by rw [hw3]; simp)
    have Hn3 := kH (show OwnAt w3 3 1 (.slice (some ⟨wr.heap.size + 1, 0, none⟩) 4 4) 4 [.int .i64 x.op, .int .i64 x.w, .int .i64 x.fl, .int .i64 x.imm] from by
     rw [hw3, show wr.heap.size + 1 = w1.heap.size from Hsz1.out.symm]
     exact OwnAt.of_new w1 #[.int .i64 x.op, .int .i64 x.w, .int .i64 x.fl, .int .i64 x.imm] 4 rfl (by decide))
    have Hsrc := kH (show ∀ q u, (x.args.map (Value.int .i64))[q]? = some u → ∃ ad : Addr, A = some ad ∧ w3.cell? (ad.add q) = some u from fun q u hu => by
     obtain ⟨ad, e, hc⟩ := hus q u hu
     obtain ⟨_, b', off', _, _, e2, hb', hc', _⟩ := Hsl2.out.at_ (k := q) (by have := (List.getElem?_eq_some_iff.1 hu).1; simpa using this)
     rw [e] at e2
     cases e2
     rw [addr_add_zero] at hc
     exact ⟨_, e, by rw [addr_add_zero]; exact (hb3.cell (p := ⟨b', off' + q, none⟩) hb').trans hc⟩)
    have Hone := kH (show ∀ u ∈ x.args.map (Value.int .i64), u.oneCell' = true from fun u hu => by obtain ⟨y, _, rfl⟩ := List.mem_map.1 hu; rfl)
    have Hb3 := kH hb3
    clear hul hus hur hb3 hV hH hli hword
    obtain ⟨m0, m1, m2, m3, m4⟩ := nd5_cells Hr2.out
    have hlt2 : wr.heap.size < w1.heap.size := (gA Hr2.out).1
    go_wp2_with (first
     | (at_builtin; (try rw [← hw1]); rw [← hw3]; refine wpList_append_src _ rfl (.tmp 46) (.tmp 48) 60 rfl 3 (.int .i64 0) 1 8 Tryz.underlying60 infoI rfl (by decide) (.slice (some ⟨wr.heap.size + 1, 0, none⟩) 4 4) 4 _ rfl Hn3.out A x.args.length c (x.args.map (Value.int .i64)) rfl (by simp) Hsrc.out Hone.out (by omega) (by decide) ?_; clear hw3; intro v4 w4 hown4 hgr4 hat4; obtain ⟨A4, c4, hv4⟩ := hown4.form; subst hv4; have hb4 := Hb3.out.grown hgr4 (by have := Hs3.out; omega) (fun g hg => by simp [Value.ownBlock] at hg; have := Hsz1.out; omega); have Hb4 := kH hb4; have HT4 := kH (HT2.out.below hb4); have Ho4 := kH (Ho2.out.below hb4 (fun g hg => Ho2.out.lt g hg)); have Hs4 := kH (show SlAt (IntR .i64) w4 A4 (4 + x.args.length) ([x.op, x.w, x.fl, x.imm] ++ x.args) from OwnAt.slInts (by have h := hown4; rw [show [Value.int .i64 x.op, .int .i64 x.w, .int .i64 x.fl, .int .i64 x.imm] ++ x.args.map (Value.int .i64) = ([x.op, x.w, x.fl, x.imm] ++ x.args).map (Value.int .i64) by simp] at h; exact h)); clear hown4 hgr4 hat4 hb4)
     | (go_at_call 65; refine (knumbers_any HT4.out Hs4.out Hli.out (by simp) (by omega)).mono ?_; rintro e w5 ⟨rfl, hb5⟩; have Hb5 := kH hb5; have Ho5 := kH (Ho4.out.below hb5 (fun g hg => Ho4.out.lt g hg)); clear hb5)
     | (at_builtin; refine wpList_append_one' rfl (.tmp 50) (.tmp 53) 106 rfl 9 (.string ByteArray.empty) 16 Tryz.underlying106 infoS rfl _ j _ rfl Ho5.out (.string ⟨(nums (x.op :: x.w :: x.fl :: x.imm :: x.args)).toArray⟩) rfl 9 w5.heap.size rfl rfl (by omega) (by omega) ?_; intro v' w6 hown' hgr hat; have Hown' := kH hown'; have Hgr := kH hgr; have Hat := kH hat; clear hown' hgr hat))
    go_roundg (gk - 1)
    case measure => have := Hgk.out; omega
    case rel =>
     have := Hgk.out
     have h4s := Hb4.out.size
     have h5s := Hb5.out.size
     have hk2s := Hk2.out.size
     have hB : Below w1.heap.size w1 (w5.alloc (.cells #[.string ⟨(nums (x.op :: x.w :: x.fl :: x.imm :: x.args)).toArray⟩] 9)) := (Hb4.out.trans (Hb5.out.mono h4s)).alloc (by omega) _
     have hkk : Kpm (Two bv bh) W1 w6 := Kpm.trans (Hk2.out.trans (Kpm.of_below hB (fun _ => False)) (fun _ _ h => h.elim)) (Kpm.grown (M := fun i => W1.heap.size ≤ i) Hgr.out (fun g hg => Hnw.out g hg)) (fun i hi h => absurd h (by omega))
     refine ⟨j + 1, v', by omega, rfl, by go_num, by omega, kH ?_, kH hkk, kH ?_, kH fun i hi => ?_⟩
     · rw [Htk.out, renL_snoc, sws_snoc, ← Htk.out, Hword.out]
       exact Hown'.out
     · have h5 : ∀ i, i < w1.heap.size → (Two bv bh i) → w6.heap[i]? = w1.heap[i]? := fun i hi h2 => (Hgr.out.block i (by have := hB.size; omega) (fun e => by have := Hnw.out i e.symm; rcases h2 with h2 | h2 <;> omega)).trans (hB.block i hi)
       exact HN2.out.keep (h5 bv HN2.out.v.lt (.inl rfl)) (h5 bh HN2.out.h.lt (.inr rfl))
     · rcases Hat.out with e | e
       · exact Hnw.out i (e ▸ hi)
       · rw [e] at hi; injection hi with hi; omega
  · obtain rfl : j = L.length := by omega
    have hV : (seen 33 vs L).length ≤ 1000000 := by have h := seen_len 33 L vs; have := Hv.out; have := HL.out; omega
    have hH : (seen 34 hs L).length ≤ 1000000 := by have h := seen_len 34 L hs; have := Hh.out; have := HL.out; omega
    have Hjl := kH (show (jn 32 ((renL vs hs L).map word)).length ≤ 140737488355328 from by
     rw [renL_eq]
     have := sideT_len hV hH HI.out
     have := HL.out
     omega)
    have Ho' := kH (show OwnAt wr 9 1 (.slice Av L.length cv) L.length (((renL vs hs L).map word).map fun l => Value.string ⟨l.toArray⟩) from by
     have h := Ho.out
     rw [List.take_of_length_le (Nat.le_refl _)] at h
     exact h)
    have Hn2 := kH (show (renL vs hs L).map word ≠ [] from by rw [renL_eq]; simpa using HL1.out)
    have HNe := kH (show NumSt (seen 33 vs L) (seen 34 hs L) bv bh wr from by
     have h := HNr.out
     rw [List.take_of_length_le (Nat.le_refl _)] at h
     exact h)
    have hLl := HL.out
    clear hV hH
    go_wp2_with (go_at_call 127; refine (kJoin_any Hn2.out 32 Ho'.out Hjl.out (by omega)).mono ?_; rintro e w2 ⟨rfl, hb2⟩; have Hb2 := kH hb2; clear hb2)
    go_ret
    refine ⟨rfl, HNe.out.below Hb2.out, ?_⟩
    have h01 : Below W.heap.size W W1 := Hb0.out.trans (Hb1.out.mono (by omega))
    exact ((Kpm.of_below h01 (Two bv bh)).trans Hk.out (fun _ _ h => h)).trans (Kpm.of_below Hb2.out (fun _ => False)) (fun _ _ h => h.elim)
end KT
end
end Go.Proofs.YtbiopedpceddeaaGreatDoor
