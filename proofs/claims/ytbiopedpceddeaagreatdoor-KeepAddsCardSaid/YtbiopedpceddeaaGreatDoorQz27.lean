/- Part. -/
import Derived.Test.YtbiopedpceddeaaGreatDoorQz26
set_option linter.unusedVariables false
set_option linter.unusedSimpArgs false
set_option maxRecDepth 100000
set_option maxHeartbeats 16000000
namespace Go.Proofs.YtbiopedpceddeaaGreatDoor
section
open Go.RowKit Go.Maps Go.Lib
namespace KT
theorem kpm_grownN {N : Nat → Prop} {a b c : World} {ob : Option Nat} (k : Kpm N a b) (g : b.grownBy c ob) (h : ∀ i, i < a.heap.size → ob = some i → N i) : Kpm N a c :=
 k.trans (N := fun i => some i = ob) ⟨g.os, g.tape, g.output, g.size, fun i hi hne => g.block i hi hne⟩ (fun i hi e => h i hi e.symm)
theorem rMerge_any {a b : List UInt8} {rs rs' : List R.Rl} {z z' : List UInt8} (ha : a.length ≤ 700000) (hb : b.length ≤ 700000) (hra : Reads sm 0 [] a rs z) (hrb : Reads sm 0 [] b rs' z') {W : World} (hT : Tens W) :
 Calls Tryz.prog 40 #[.string ⟨a.toArray⟩, .string ⟨b.toArray⟩] W (MergeP W rs z rs' z') := by
 have HA := kH (rwhole_any ha hra hT)
 have HO := kH (fun X (h : Below W.heap.size W X) => rwhole_any hb hrb (hT.below h))
 have HT := kH (fun X (h : Below W.heap.size W X) => hT.below h)
 have HG1 := kH hra.is_store.1
 have HG2 := kH hrb.is_store.1
 clear hT hra hrb
 go_enter Tryz.func40, Tryz.ntmps40
 go_wp2_with fail
 (refine HA.out.mono ?_)
 rintro e w2 ⟨hb2, h2⟩
 have Hb2 := kH hb2
 clear hb2 HA
 rcases h2 with ⟨rfl, A1, c1, rfl, ho, hv⟩ | ⟨hz, rfl⟩
 rotate_left
 · have Hh := kH (show mergeA rs z rs' z' = ([], 10) from by unfold mergeA; rw [if_pos hz])
   clear hz
   go_wp2_with fail
   go_ret2
   exact mergeP_of Hh.out Hb2.out
 have Ho2 := kH ho
 have Hv1 := kH hv
 clear ho hv
 go_wp2_with fail
 (refine (HO.out _ Hb2.out).mono ?_)
 rintro e w3 ⟨hb3, h3⟩
 have Hb23 := kH hb3
 have Hb3 := kH (Hb2.out.trans (hb3.mono Hb2.out.size))
 clear hb3
 rcases h3 with ⟨rfl, A2, c2, rfl, ho3, hv3⟩ | ⟨hz, rfl⟩
 rotate_left
 · have Hh := kH (show mergeA rs [] rs' z' = ([], 10) from by unfold mergeA; rw [if_neg (by simp), if_pos hz])
   clear hz
   go_wp2_with fail
   go_ret2
   exact mergeP_of Hh.out Hb3.out
 obtain ⟨n, hn⟩ : ∃ n, n = rs'.length := ⟨_, rfl⟩
 rw [← hn] at ho3 hv3 ⊢
 have Hn := kH hn
 have hn40 : n ≤ 40 := by have := HG2.out.len; omega
 have Ho3 := kH ho3
 have Hv2 := kH (show ∀ b, (Value.slice A2 n c2).ownBlock = some b → w2.heap.size ≤ b from hv3)
 have Ho1 := kH (show OwnL (fun i => i < 0) w3 (.slice A1 rs.length c1) rs from (Ho2.out.below Hb23.out).step (N := fun _ => False) (Kpm.refl _ _) (fun _ _ h => h.elim) (fun _ _ h => h) (fun i _ h => absurd h (Nat.not_lt_zero _)))
 have Hvo := kH (show ∀ b, (Value.slice A1 rs.length c1).ownBlock = some b → W.heap.size ≤ b ∧ (b < w2.heap.size ∨ w3.heap.size ≤ b) from fun b e => ⟨Hv1.out b e, .inl (Ho2.out.lt b e)⟩)
 have HGl := kH (show (∀ q ∈ rs, R.rvalid q = 0 ∧ (textW q).length ≤ 200) ∧ rs.length ≤ 40 + 0 from ⟨fun q hq => ⟨HG1.out.valid q hq, HG1.out.short q hq⟩, HG1.out.len⟩)
 clear ho3 hv3 hn
 go_wp2_with fail
 go_loopg [6, 9] (n + 1) (fun gg s6 s9 wr => ∃ (j : Nat) (l : List R.Rl) (A : Option Addr) (c : Nat), j ≤ n ∧ s6 = .slice A l.length c ∧ s9 = .int .i64 (j : Int) ∧ gg + j = n + 1 ∧ Hid (l = mergeT sm rs (rs'.take j)) ∧ Hid (OwnL (fun i => i < 0) wr (.slice A l.length c) l) ∧ Hid (∀ b, (Value.slice A l.length c).ownBlock = some b → W.heap.size ≤ b ∧ (b < w2.heap.size ∨ w3.heap.size ≤ b)) ∧ Hid ((∀ q ∈ l, R.rvalid q = 0 ∧ (textW q).length ≤ 200) ∧ l.length ≤ 40 + j) ∧ Hid (Kpm (fun i => i < w2.heap.size) w3 wr) ∧ Hid (Below W.heap.size W wr))
 case atStart => exact ⟨0, rs, A1, c1, Nat.zero_le _, rfl, rfl, rfl, kH rfl, Ho1, Hvo, HGl, kH (Kpm.refl _ _), Hb3⟩
 case round =>
  clear Ho1 Hvo HGl Ho2
  obtain ⟨j, l, A, c, hj, rfl, rfl, hgk, Hl, Hown, Hvo, Hgl, Hk, Hb⟩ := hrel
  obtain ⟨m, hm⟩ : ∃ m, m = l.length := ⟨_, rfl⟩
  have Hm := kH hm
  rw [← hm] at Hown Hvo ⊢
  have Hgk := kH hgk
  clear hgk hm
  by_cases hjn : j < n
  · have HOw := kH (show OwnL (fun i => i < w2.heap.size) wr (.slice A2 n c2) rs' from Ho3.out.step Hk.out (fun i _ h => h) (fun b e1 e2 => by have := Hv2.out b e1; omega) (fun _ _ h => h))
    obtain ⟨r, b, off, nl, cl, nr, cr, np, cp, AL, AR, AP, hx, hA, hb, c0, c1, c2', hR⟩ := rl_at (HOw.out.stAt Hn.out.symm) hjn
    subst hA
    have Hx := kH hx
    have Hmem := kH (List.mem_of_getElem? hx)
    have Hrx := kH (show ∀ w', Kpm (fun i => i < w2.heap.size) w3 w' → RlAt w' r nl nr np AL AR AP from fun w' hk3 => by
     obtain ⟨cells, h1, h2⟩ := HOw.out
     obtain ⟨cells3, h13, h23⟩ := Ho3.out
     obtain ⟨nl', cl', nr', cr', np', cp', AL', AR', AP', e, hall⟩ := h23 j r hx
     have hcell : ∀ (q : Nat) u, ((cells3.drop (j * 3)).take 3)[q]? = some u → wr.cell? ⟨b, off + j * 3 + q, none⟩ = some u := fun q u hu => by
      rcases h13.2 with ⟨e, _⟩ | ⟨gg, oo, cap, cur, e, hg, q1, q2, q3, q4⟩
      · cases e
      · cases e
        have hr3 := (Hk.out.block _ (gA hg).1 (fun h => by have h9 : w2.heap.size ≤ b := Hv2.out _ rfl; omega)).trans hg
        rw [cell_of_row _ _ _ _ _ (0, 0) hr3]
        rw [List.getElem?_take] at hu
        split at hu
        · rw [List.getElem?_drop] at hu
          have := q4 _ u hu
          rwa [← Nat.add_assoc] at this
        · cases hu
     rw [e] at hcell
     have d0 := hcell 0 _ rfl
     have d1 := hcell 1 _ rfl
     have d2 := hcell 2 _ rfl
     rw [Nat.add_zero, c0] at d0
     rw [c1] at d1
     rw [c2'] at d2
     cases d0
     cases d1
     cases d2
     exact hall w' (hk3.weak (fun i _ h => .inl h)))
    have HC := kH (rthere_any (c := c) (dl := cl) (dr := cr) (dp := cp) (Hown.out.stAt Hm.out.symm) (fun q hq => (Hgl.out.1 q hq).1) hR (HG2.out.valid r Hmem.out))
    obtain ⟨y, hy⟩ : ∃ y, y = hasT l r := ⟨_, rfl⟩
    have Hy := kH hy
    rw [← hy] at HC
    clear hx hb hR hy
    go_wp2_with fail
    (with_reducible refine HC.out.mono ?_)
    rintro e w4 ⟨rfl, hb4⟩
    have Hb4 := kH (Hb.out.trans (hb4.mono Hb.out.size))
    have Hk4 := kH (show Kpm (fun i => i < w2.heap.size) w3 w4 from Hk.out.trans (Kpm.of_below hb4 (fun _ => False)) (fun _ _ h => h.elim))
    have Ho4 := kH (Hown.out.below hb4)
    have d0 := (hb4.cell (p := ⟨_, _, none⟩) (cell_below c0)).trans c0
    have d1 := (hb4.cell (p := ⟨_, _, none⟩) (cell_below c1)).trans c1
    have d2 := (hb4.cell (p := ⟨_, _, none⟩) (cell_below c2')).trans c2'
    clear hb4 HC c0 c1 c2'
    cases y with
    | true =>
     have Hl2 := kH (show l = mergeT sm rs (rs'.take (j + 1)) from by
      rw [mergeT_next Hx.out, ← Hl.out]
      unfold addT
      have h7 : (l.any fun q => sm q r) = true := Hy.out.symm
      rw [h7, if_pos rfl])
     go_wp2_with fail
     go_roundg (gk - 1)
     case measure => have := Hgk.out; omega
     case rel =>
      have := Hgk.out
      have hg := Hgl.out
      exact ⟨j + 1, l, A, c, by omega, by rw [Hm.out], by go_num, by omega, Hl2, by rw [← Hm.out]; exact Ho4, by rw [← Hm.out]; exact Hvo, kH ⟨hg.1, by omega⟩, Hk4, Hb4⟩
    | false =>
     have Hl2 := kH (show l ++ [r] = mergeT sm rs (rs'.take (j + 1)) from by
      rw [mergeT_next Hx.out, ← Hl.out]
      unfold addT
      have h7 : (l.any fun q => sm q r) = false := Hy.out.symm
      rw [h7, if_neg (by decide)])
     have Hrr := kH (show RlX (fun i => i < 0 ∨ (Value.slice A m c).ownBlock = some i) w4 [.slice AL nl cl, .slice AR nr cr, .slice AP np cp] r from ⟨nl, cl, nr, cr, np, cp, AL, AR, AP, rfl, fun w' hk => Hrx.out w' (Hk4.out.trans hk (fun i hi h => by
      rcases h with h | h
      · exact absurd h (Nat.not_lt_zero _)
      · rcases (Hvo.out i h).2 with h | h
        · exact h
        · omega))⟩)
     have hll : l.length ≤ 900000 := by have := Hgl.out.2; omega
     go_wp2_with (at_builtin; go_loud (refine wpList_append_rule rfl (.tmp 39) (.tmp 44) rfl (.slice A m c) l rfl Ho4.out [.slice AL nl cl, .slice AR nr cr, .slice AP np cp] r Hrr.out w4.heap.size rfl rfl hll ?_); intro v' w5 hown hgr hat; obtain ⟨A5, c5, e5⟩ := hown.form; have Hown' := kH hown; have Hgr := kH hgr; have Hat := kH hat; clear hown hgr hat)
     rw [List.length_append, List.length_singleton, ← Hm.out] at e5
     subst e5
     clear hll d0 d1 d2
     go_wp2_with fail
     go_roundg (gk - 1)
     case measure => have := Hgk.out; omega
     case rel =>
      have hg1 := Hgk.out
      have hgl := Hgl.out
      have hsz4 := Hb4.out.size
      have hk4 := Hk4.out.size
      have hm4 := Hm.out
      have e11 : (l ++ [r]).length = m + 1 := by rw [List.length_append, List.length_singleton, ← Hm.out]
      refine ⟨j + 1, l ++ [r], A5, c5, by omega, by rw [e11, Hm.out], by go_num, by omega, Hl2, by rw [e11]; exact Hown', kH (fun b hb => ?_), kH ⟨fun q hq => ?_, by rw [e11]; omega⟩, kH ?_, kH ?_⟩
      · rw [e11] at hb
        rcases Hat.out with h | h
        · rw [h] at hb; exact Hvo.out b hb
        · rw [h] at hb; injection hb with hb; omega
      · rcases List.mem_append.1 hq with hq | hq
        · exact hgl.1 q hq
        · rw [List.mem_singleton] at hq
          subst hq
          exact ⟨HG2.out.valid _ Hmem.out, HG2.out.short _ Hmem.out⟩
      · exact kpm_grownN (Hk4.out.trans (Kpm.of_below ((Below.refl w4.heap.size w4).alloc (Nat.le_refl _) _) (fun _ => False)) (fun _ _ h => h.elim)) Hgr.out (fun i hi h => by
         rcases (Hvo.out i h).2 with h | h
         · exact h
         · omega)
      · have h9 : Below W.heap.size w4 (w4.alloc (.cells [.slice AL nl cl, .slice AR nr cr, .slice AP np cp].toArray 33)) := (Below.refl _ _).alloc (by omega) _
        exact ((Hb4.out.trans h9).grown Hgr.out (by simp; omega) (fun g hg => (Hvo.out g hg).1))
  · obtain rfl : n = j := by omega
    have e : rs'.take n = rs' := List.take_of_length_le (by rw [← Hn.out]; exact Nat.le_refl _)
    have Hlm := kH (show l = mergeT sm rs rs' from by have h := Hl.out; rw [e] at h; exact h)
    have hm1 : m ≤ 80 := by have := Hgl.out.2; have := Hm.out; omega
    have Hst := kH (Hown.out.stAt Hm.out.symm)
    have Hwr := kH (show ∀ q ∈ l, Wrt q from fun q hq => by
     obtain ⟨k, hk⟩ := List.mem_iff_getElem?.1 hq
     obtain ⟨cells, _, h2⟩ := Hown.out
     exact wrt_of_valid (h2 k q hk).now (Hgl.out.1 q hq).1)
    have HF := kH (rfits_any (c := c) Hst.out Hwr.out (HT.out _ Hb.out))
    obtain ⟨x, hx⟩ : ∃ x, fitsC l = x := ⟨_, rfl⟩
    have Hx := kH hx
    rw [hx] at HF
    clear e hx
    go_wp2_with fail
    (with_reducible refine HF.out.mono ?_)
    rintro e w5 ⟨rfl, hb5⟩
    have Hb5 := kH (Hb.out.trans (hb5.mono Hb.out.size))
    have Hs5 := kH (Hst.out.below monoRl hb5)
    clear hb5 HF
    by_cases h40 : l.length ≤ 40
    · obtain rfl : 0 = x := by rw [← Hx.out]; unfold fitsC; rw [if_pos ((smallT_iff _).2 ⟨h40, fun q hq => (Hgl.out.1 q hq).2⟩)]
      have Hh := kH (show mergeA rs [] rs' [] = (storeT l, 0) from by
       unfold mergeA
       rw [if_neg (by simp), if_neg (by simp), ← Hlm.out, if_neg (by omega)])
      have HX := kH (rstore_any (c := c) Hs5.out Hwr.out (fun q hq => (Hgl.out.1 q hq).2) (by omega) (HT.out _ Hb5.out))
      clear h40
      go_wp2_with fail
      (with_reducible refine HX.out.mono ?_)
      rintro e w7 ⟨rfl, hb7⟩
      have Hb7 := kH (Hb5.out.trans (hb7.mono Hb5.out.size))
      clear hb7 HX
      go_wp2_with fail
      go_ret2
      exact mergeP_of Hh.out Hb7.out
    · obtain rfl : 3 = x := by rw [← Hx.out]; unfold fitsC; rw [if_neg (fun h => h40 ((smallT_iff _).1 h).1)]
      have Hh := kH (show mergeA rs [] rs' [] = ([], 3) from by
       unfold mergeA
       rw [if_neg (by simp), if_neg (by simp), ← Hlm.out, if_pos (by omega)])
      clear h40
      go_wp2_with fail
      go_ret2
      exact mergeP_of Hh.out Hb5.out
end KT
end
section
open Go.RowKit Go.Maps Go.Lib
namespace KT
def twiceR : R.Rl := ⟨[⟨33, 0, 0, [], 0⟩, ⟨1, 0, 0, [0, 0], 0⟩], [⟨33, 0, 0, [], 0⟩, ⟨0, 0, 0, [], 2⟩, ⟨3, 0, 0, [0, 1], 0⟩], []⟩
def TwicePost (W : World) (e : Ending) (W' : World) : Prop :=
 ∃ A1 A2, e = .returned (.agg #[.slice A1 2 2, .slice A2 3 3, .slice none 0 0]) ∧ RlAt W' twiceR 2 3 0 A1 A2 none ∧ Below W.heap.size W W'
theorem twice_any (W : World) : Calls Tryz.prog 72 #[] W (TwicePost W) := by
 go_enter Tryz.func72, Tryz.ntmps72
 go_wp2
 generalize hw1 : W.alloc _ = w1
 generalize hw2 : w1.alloc _ = w2
 generalize hw3 : w2.alloc _ = w3
 generalize hw4 : w3.alloc _ = w4
 generalize hw5 : w4.alloc _ = w5
 obtain ⟨r1, s1⟩ := alloc_row hw1
 obtain ⟨r2, s2⟩ := alloc_row hw2
 obtain ⟨r3, s3⟩ := alloc_row hw3
 obtain ⟨r4, s4⟩ := alloc_row hw4
 obtain ⟨r5, s5⟩ := alloc_row hw5
 rw [s1] at r2 s2
 rw [s2] at r3 s3
 rw [s3] at r4 s4
 rw [s4] at r5 s5
 have r1 := row_step' hw5 (row_step' hw4 (row_step' hw3 (row_step' hw2 r1)))
 have r2 := row_step' hw5 (row_step' hw4 (row_step' hw3 r2))
 have r3 := row_step' hw5 (row_step' hw4 r3)
 have r4 := row_step' hw5 r4
 have hb : Below W.heap.size W w5 := by
  have b1 : Below W.heap.size W w1 := by rw [← hw1]; exact al0
  have b2 : Below W.heap.size W w2 := by rw [← hw2]; exact b1.alloc (by omega) _
  have b3 : Below W.heap.size W w3 := by rw [← hw3]; exact b2.alloc (by omega) _
  have b4 : Below W.heap.size W w4 := by rw [← hw4]; exact b3.alloc (by omega) _
  rw [← hw5]; exact b4.alloc (by omega) _
 clear hw1 hw2 hw3 hw4 hw5
 refine bodyPost_ret (results_cell_row rfl _ _ W.heap.size _ _ (0, 0) _ rfl r1 Tryz.underlying33 rfl (by kernel_rfl)) rfl ?_
 refine ⟨_, _, rfl, ⟨?_, ?_, ⟨rfl, by omega, fun k x hx => by simp [twiceR] at hx⟩, ?_, ?_⟩, hb⟩
 · refine st_row r3 rfl (by omega) fun k x hx => ?_
   rcases k with _ | _ | k <;> simp [twiceR] at hx <;> subst hx
   · exact ⟨none, 0, fun j u hu => by rcases j with _ | _ | _ | _ | _ | j <;> simp [ndC] at hu ⊢ <;> exact hu, SlAt.nil_ _, by decide, by decide⟩
   · exact ⟨_, 2, fun j u hu => by rcases j with _ | _ | _ | _ | _ | j <;> simp [ndC] at hu ⊢ <;> exact hu, sl_row (xs := [0, 0]) r2 (by decide), by decide, by decide⟩
 · refine st_row r5 rfl (by omega) fun k x hx => ?_
   rcases k with _ | _ | _ | k <;> simp [twiceR] at hx <;> subst hx
   · exact ⟨none, 0, fun j u hu => by rcases j with _ | _ | _ | _ | _ | j <;> simp [ndC] at hu ⊢ <;> exact hu, SlAt.nil_ _, by decide, by decide⟩
   · exact ⟨none, 0, fun j u hu => by rcases j with _ | _ | _ | _ | _ | j <;> simp [ndC] at hu ⊢ <;> exact hu, SlAt.nil_ _, by decide, by decide⟩
   · exact ⟨_, 2, fun j u hu => by rcases j with _ | _ | _ | _ | _ | j <;> simp [ndC] at hu ⊢ <;> exact hu, sl_row (xs := [0, 1]) r4 (by decide), by decide, by decide⟩
 · intro y hy
   simp [twiceR] at hy
   rcases hy with rfl | rfl <;> decide
 · intro y hy
   simp [twiceR] at hy
   rcases hy with rfl | rfl | rfl <;> decide
theorem st_one {w : World} {g : Nat} {ty : TypeId} {a b c : Value} {r : R.Rl} (hr : w.heap[g]? = some (.cells #[a, b, c] ty (0, 0))) (hR : RlR w [a, b, c] r) : StAt 3 RlR w (some ⟨g, 0, none⟩) 1 [r] := by
 refine ⟨rfl, by omega, fun k x hx => ?_⟩
 rcases k with _ | k <;> simp at hx
 subst hx
 refine ⟨g, 0, [a, b, c], rfl, (gA hr).1, rfl, fun j u hu => ?_, hR⟩
 rw [cell_of_row _ _ _ _ _ (0, 0) hr]
 rcases j with _ | _ | _ | j <;> simp at hu ⊢ <;> exact hu
def OneP (W : World) (r : R.Rl) (e : Ending) (W' : World) : Prop :=
 ∃ A, e = .returned (.slice A 1 1) ∧ StAt 3 RlR W' A 1 [r] ∧ Below W.heap.size W W'
theorem one_any {r : R.Rl} {nl cl nr cr np cp : Nat} {AL AR AP : Option Addr} {W : World} (hR : RlAt W r nl nr np AL AR AP) :
 Calls Tryz.prog 22 #[.agg #[.slice AL nl cl, .slice AR nr cr, .slice AP np cp]] W (OneP W r) := by
 obtain ⟨W1, hW1⟩ : ∃ W1, W1 = W.alloc (.cells #[.slice AL nl cl, .slice AR nr cr, .slice AP np cp] 33) := ⟨_, rfl⟩
 have hb1 : Below W.heap.size W W1 := by rw [hW1]; exact al0
 have hrow : W1.heap[W.heap.size]? = some (.cells #[.slice AL nl cl, .slice AR nr cr, .slice AP np cp] 33 (0, 0)) := by rw [hW1]; exact heap_alloc_new W _
 obtain ⟨c0, c1, c2, _⟩ := rl_cells hrow
 have HB1 := kH hb1
 have HW1 := kH hW1
 have HR := kH hR
 clear hb1 hrow hW1 hR
 go_enter Tryz.func22, Tryz.ntmps22
 go_upto_region 1 with (fail)
 rw [← HW1.out]
 go_wp2
 go_ret
 have hb2 : Below W.heap.size W (W1.alloc (.cells #[.slice AL nl cl, .slice AR nr cr, .slice AP np cp] 33)) := HB1.out.alloc HB1.out.size _
 exact ⟨_, rfl, st_one (heap_alloc_new W1 _) ⟨nl, cl, nr, cr, np, cp, AL, AR, AP, rfl, HR.out.below hb2⟩, hb2⟩
def longT (rs : List R.Rl) : Bool := rs.any R.rlong || decide (50 < rs.length)
theorem longT_len {rs : List R.Rl} (h : longT rs = false) : rs.length ≤ 50 := by
 unfold longT at h
 rw [Bool.or_eq_false_iff] at h
 have := of_decide_eq_false h.2
 omega
theorem lLong_any {rs : List R.Rl} {A : Option Addr} {n c : Nat} {W : World} (hS : StAt 3 RlR W A n rs) :
 Calls Tryz.prog 21 #[.slice A n c] W fun e W' => e = .returned (.bool (longT rs)) ∧ Below W.heap.size W W' := by
 have HS := kH hS
 have Hn := kH hS.len
 have hnn := hS.le
 clear hS
 go_enter Tryz.func21, Tryz.ntmps21
 go_wp2_with fail
 go_loopg [3] (n + 1) (fun gg s3 wr => ∃ j : Nat, j ≤ n ∧ s3 = .int .i64 (j : Int) ∧ gg + j = n + 1 ∧ Hid ((rs.take j).any R.rlong = false) ∧ Hid (Below W.heap.size W wr))
 case atStart => exact ⟨0, Nat.zero_le _, rfl, rfl, kH rfl, kH (Below.refl _ _)⟩
 case round =>
  obtain ⟨j, hj, rfl, hgk, Ha, Hb⟩ := hrel
  have Hgk := kH hgk
  clear hgk
  by_cases hjn : j < n
  · obtain ⟨r, b, off, nl, cl, nr, cr, np, cp, AL, AR, AP, hx, hA, hb, c0, c1, c2, hR⟩ := rl_at (HS.out.below monoRl Hb.out) hjn
    subst hA
    have Hx := kH hx
    have HC := kH (rLong_any (cl := cl) (cr := cr) (cp := cp) hR)
    obtain ⟨s, hs⟩ : ∃ s, s = R.rlong r := ⟨_, rfl⟩
    have Hs := kH hs
    rw [← hs] at HC
    clear hx hb hR hs
    go_wp2_with fail
    (with_reducible refine HC.out.mono ?_)
    rintro e w2 ⟨rfl, hb2⟩
    have Hb2 := kH (Hb.out.trans (hb2.mono Hb.out.size))
    clear hb2 HC c0 c1 c2
    cases s with
    | true =>
     have Hh := kH (show longT rs = true from by
      unfold longT
      rw [Bool.or_eq_true, List.any_eq_true]
      exact .inl ⟨r, List.mem_of_getElem? Hx.out, Hs.out.symm⟩)
     go_wp2_with fail
     go_ret
     exact ⟨by rw [Hh.out]; rfl, Hb2.out⟩
    | false =>
     go_wp2_with fail
     go_roundg (gk - 1)
     case measure => have := Hgk.out; omega
     case rel =>
      have := Hgk.out
      refine ⟨j + 1, by omega, by go_num, by omega, kH ?_, Hb2⟩
      rw [List.take_add_one, Hx.out, List.any_append, Ha.out]
      simp [← Hs.out]
  · obtain rfl : n = j := by omega
    have ha : rs.any R.rlong = false := by
     have h := Ha.out
     rw [List.take_of_length_le (by rw [Hn.out]; exact Nat.le_refl _)] at h
     exact h
    have Ha2 := kH ha
    clear ha
    by_cases h50 : 50 < n
    · have Hh := kH (show longT rs = true from by
       unfold longT
       rw [Hn.out, decide_eq_true h50, Bool.or_true])
      have q : decide ((50 : Int) < (n : Int)) = true := decide_eq_true (by omega)
      go_wp2_with fail
      go_ret
      exact ⟨by rw [Hh.out]; rfl, Hb.out⟩
    · have Hh := kH (show longT rs = false from by
       unfold longT
       rw [Hn.out, decide_eq_false h50, Ha2.out]
       rfl)
      have q : decide ((50 : Int) < (n : Int)) = false := decide_eq_false (by omega)
      go_wp2_with fail
      go_ret
      exact ⟨by rw [Hh.out]; rfl, Hb.out⟩
end KT
end
section
open Go.RowKit Go.Maps Go.Lib
namespace KT
theorem twice_valid : R.rvalid twiceR = 0 := by decide +kernel
theorem twice_text : textW twiceR = [51, 51, 46, 48, 46, 48, 46, 48, 32, 49, 46, 48, 46, 48, 46, 48, 44, 48, 44, 48, 32, 61, 62, 32, 51, 51, 46, 48, 46, 48, 46, 48, 32, 48, 46, 48, 46, 48, 46, 50, 32, 51, 46, 48, 46, 48, 46, 48, 44, 48, 44, 49, 32, 105, 102] := by decide +kernel
theorem twice_small : RlS twiceR := by
 refine ⟨fun x hx => ?_, fun x hx => ?_, fun x hx => ?_⟩
 · simp [twiceR] at hx
   rcases hx with rfl | rfl <;> exact ⟨by unfold U32; decide, by unfold U32; decide, by unfold U32; decide, by unfold U32; decide, by simp [U32]⟩
 · simp [twiceR] at hx
   rcases hx with rfl | rfl | rfl <;> exact ⟨by unfold U32; decide, by unfold U32; decide, by unfold U32; decide, by unfold U32; decide, by simp [U32]⟩
 · simp [twiceR] at hx
theorem twice_good : Good sm [twiceR] := by
 have h := Good.snoc (sm := sm) Good.nil twice_valid twice_small rfl (by decide) (by rw [twice_text]; decide)
 simpa using h
theorem twice_reads : Reads sm 0 [] (storeT [twiceR] ++ [49, 50, 32, 51]) [twiceR] [49, 50, 32, 51] := by
 refine Reads.store (sm := sm) [twiceR] 0 [] (by simpa using twice_good) ?_
 exact .stop fun told t rest r e => by
  rw [lineOf_no10 (by decide)] at e
  cases e
theorem twice_has : hasA [twiceR] [] twiceR = (true, 0) := by
 unfold hasA
 rw [if_neg (by rw [twice_valid]; decide), if_neg (by simp)]
 unfold hasT
 simp [sm_refl]
theorem kknown_any {W : World} (hL : Lb W) :
 Calls Tryz.prog 23 #[] W fun e W' => e = .returned (.bool true) ∧ Below W.heap.size W W' := by
 have HL := kH (fun X (h : Below W.heap.size W X) => hL.below h)
 have Hb0 := kH (Below.refl W.heap.size W)
 clear hL
 go_enter Tryz.func23, Tryz.ntmps23
 go_wp2_with fail
 (with_reducible refine (twice_any _).mono ?_)
 rintro e w1 ⟨A1, A2, rfl, hR, hb⟩
 have Hb1 := kH hb
 have HC := kH (Text_any (cl := 2) (cr := 3) (cp := 0) hR (HL.out _ hb).tens)
 rw [show textOf twiceR = textW twiceR from by unfold textOf; rw [twice_valid, if_pos rfl], twice_valid, twice_text] at HC
 clear hR hb
 go_wp2_with fail
 (with_reducible refine HC.out.mono ?_)
 rintro e w2 ⟨rfl, hb⟩
 have Hb2 := kH (Hb1.out.trans (hb.mono Hb1.out.size))
 clear hb HC
 go_wp2_with fail
 (with_reducible refine (twice_any _).mono ?_)
 rintro e w3 ⟨A3, A4, rfl, hR, hb⟩
 have Hb3 := kH (Hb2.out.trans (hb.mono Hb2.out.size))
 obtain ⟨w4, hw4⟩ : ∃ w4, w4 = w3.alloc (.cells #[.slice A3 2 2, .slice A4 3 3, .slice none 0 0] 33) := ⟨_, rfl⟩
 have hb4 : Below w3.heap.size w3 w4 := by rw [hw4]; exact al0
 have hrow : w4.heap[w3.heap.size]? = some (.cells #[.slice A3 2 2, .slice A4 3 3, .slice none 0 0] 33 (0, 0)) := by rw [hw4]; exact heap_alloc_new w3 _
 have Hb4 := kH (Hb3.out.trans (hb4.mono Hb3.out.size))
 have HC := kH (Write_any (c := 1) (st_one hrow ⟨2, 2, 3, 3, 0, 0, A3, A4, none, rfl, hR.below hb4⟩) (by decide) (HL.out _ Hb4.out).tens)
 have Hw4 := kH hw4
 unfold WritePost at HC
 rw [writeT_good twice_good] at HC
 clear hR hb hb4 hrow hw4
 go_wp2_with (go_at_call 31; rw [← Hw4.out]; fail)
 first | rw [← Hw4.out] | skip
 (with_reducible refine HC.out.mono ?_)
 rintro e w5 ⟨rfl, hb⟩
 have Hb5 := kH (Hb4.out.trans (hb.mono Hb4.out.size))
 obtain ⟨t, ht⟩ : ∃ t, t = storeT [twiceR] := ⟨_, rfl⟩
 have Hr := kH twice_reads
 have Hr2 := kH (Reads.whole twice_good)
 rw [← ht] at Hr Hr2
 have htl : t.length ≤ 1000 := by
  rw [ht]
  have h := storeFrom_len [twiceR] 0 (fun r hr => by
   rw [List.mem_singleton] at hr
   subst hr
   rw [twice_text]
   decide)
  show (storeFrom 0 [twiceR]).length ≤ 1000
  simp only [List.length_cons, List.length_nil] at h
  omega
 rw [← ht]
 obtain ⟨s1, hs1⟩ : ∃ s1, s1 = t ++ [49, 50, 32, 51] := ⟨_, rfl⟩
 have l1 : s1.length ≤ 1004 := by rw [hs1, List.length_append]; simp; omega
 have m1 : (⟨t.toArray⟩ ++ ⟨#[49, 50, 32, 51]⟩ : ByteArray) = ⟨s1.toArray⟩ := by rw [hs1]; exact ByteArray.mk_append_mk t [49, 50, 32, 51]
 have z1 : t.toArray.size = t.length := by simp
 rw [← hs1] at Hr
 have HD := kH (Read_any (by omega) Hr.out (HL.out _ Hb5.out))
 clear hb HC ht hs1
 go_wp2_with fail
 (refine HD.out.mono ?_)
 rintro e w6 ⟨A6, n6, c6, rfl, hS6, hb⟩
 obtain rfl : 1 = n6 := hS6.len
 have Hb6 := kH (Hb5.out.trans (hb.mono Hb5.out.size))
 clear hb HD hS6 m1 z1 l1
 go_wp2_with fail
 (with_reducible refine (twice_any _).mono ?_)
 rintro e w7 ⟨A7, A8, rfl, hR, hb⟩
 have Hb7 := kH (Hb6.out.trans (hb.mono Hb6.out.size))
 have HC := kH (Has_any (cl := 2) (cr := 3) (cp := 0) (by omega) Hr2.out hR (HL.out _ Hb7.out))
 unfold HasP at HC
 rw [twice_has] at HC
 clear hR hb
 go_wp2_with fail
 (with_reducible refine HC.out.mono ?_)
 rintro e w8 ⟨rfl, hb⟩
 have Hb8 := kH (Hb7.out.trans (hb.mono Hb7.out.size))
 have HSm := kH (Sum_any (n := 0) ⟨by decide, by decide⟩ (t := [97]) (by decide) (W := w8))
 rw [show sumT 0 [97] = 98 from by decide +kernel] at HSm
 clear hb HC htl
 go_wp2_with (go_at_call 29; (with_reducible refine HSm.out.mono ?_); rintro e w9 ⟨rfl, hb⟩; have Hb9 := kH (Hb8.out.trans (hb.mono Hb8.out.size)); clear hb)
 go_ret
 exact ⟨rfl, Hb9.out⟩
end KT
end
section
open Go.RowKit Go.Maps Go.Lib
namespace KT
theorem st_rls {rs : List R.Rl} {A : Option Addr} {n : Nat} {W : World} (h : StAt 3 RlR W A n rs) : ∀ r ∈ rs, R.rvalid r = 0 → RlS r ∧ Wrt r := fun r hr hv => by
 obtain ⟨k, hk⟩ := List.mem_iff_getElem?.1 hr
 obtain ⟨b, off, us, e1, e2, e3, e4, e5⟩ := h.2.2 k r hk
 exact ⟨rls_of_valid e5 hv, wrt_of_valid e5 hv⟩
theorem good_store {rs : List R.Rl} (h : Good sm rs) : (storeT rs).length ≤ 8880 := by
 have h1 := storeFrom_len rs 0 h.short
 have h2 := h.len
 show (storeFrom 0 rs).length ≤ 8880
 omega
theorem keepWrites_any {rs : List R.Rl} {A : Option Addr} {n c : Nat} {W : World} (hS : StAt 3 RlR W A n rs) (hnc : n ≤ c) (hL : Lb W) :
 Calls Tryz.prog 8 #[.slice A n c] W fun e W' => e = .returned (.bool true) ∧ Below W.heap.size W W' := by
 have HK := kH (fun X (h : Below W.heap.size W X) => kknown_any (hL.below h))
 have HL := kH (fun X (h : Below W.heap.size W X) => hL.below h)
 have HS := kH hS
 have HLo := kH (lLong_any (c := c) hS)
 have Hn := kH hS.len
 obtain ⟨lg, hlg⟩ : ∃ lg, lg = longT rs := ⟨_, rfl⟩
 have Hlg := kH hlg
 rw [← hlg] at HLo
 clear hL hS hlg
 go_enter Tryz.func8, Tryz.ntmps8
 go_wp2_with fail
 (with_reducible refine HLo.out.mono ?_)
 rintro e w1 ⟨rfl, hb⟩
 have Hb1 := kH hb
 clear hb HLo
 cases lg with
 | true =>
  go_wp2_with (go_at_call 23; (with_reducible refine (HK.out _ Hb1.out).mono ?_); rintro e w9 ⟨rfl, hb⟩; have Hb9 := kH (Hb1.out.trans (hb.mono Hb1.out.size)); clear hb)
  go_ret
  exact ⟨rfl, Hb9.out⟩
 | false =>
 have hn50 : n ≤ 50 := by have := longT_len Hlg.out.symm; have := Hn.out; omega
 have HC := kH (Write_any (c := c) (HS.out.below monoRl Hb1.out) (by omega) (HL.out _ Hb1.out).tens)
 have HD := kH (fun X (h : Below W.heap.size W X) => rWrite_any (c := c) (HS.out.below monoRl h) (by omega) hnc (HL.out _ h).tens)
 unfold WritePost at HC HD
 obtain ⟨t, ht⟩ : ∃ t, t = (writeT rs).1 := ⟨_, rfl⟩
 obtain ⟨z, hz⟩ : ∃ z, z = (writeT rs).2 := ⟨_, rfl⟩
 rw [← ht, ← hz] at HC HD
 have Ht := kH ht
 have Hz := kH hz
 clear ht hz
 go_wp2_with fail
 (with_reducible refine HC.out.mono ?_)
 rintro e w2 ⟨rfl, hb⟩
 have Hb2 := kH (Hb1.out.trans (hb.mono Hb1.out.size))
 clear hb HC
 go_wp2_with fail
 (with_reducible refine (HD.out _ Hb2.out).mono ?_)
 rintro e w3 ⟨rfl, hb⟩
 have Hb3 := kH (Hb2.out.trans (hb.mono Hb2.out.size))
 clear hb HD
 by_cases hz0 : z = 0
 rotate_left
 · have q : (z != 0) = true := by simpa using hz0
   clear hz0
   go_wp2_with (go_at_call 23; (with_reducible refine (HK.out _ Hb3.out).mono ?_); rintro e w9 ⟨rfl, hb⟩; have Hb9 := kH (Hb3.out.trans (hb.mono Hb3.out.size)); clear hb)
   go_ret
   exact ⟨rfl, Hb9.out⟩
 subst hz0
 have Hg := kH (writeT_ok (fun r hr hv => (st_rls HS.out r hr hv).1) Hz.out.symm)
 have htl : t.length ≤ 8880 := by rw [Ht.out, Hg.out.2]; exact good_store Hg.out.1
 have HR := kH (Read_any (s := t) (by omega) (by rw [Ht.out, Hg.out.2]; exact Reads.whole Hg.out.1) (HL.out _ Hb3.out))
 go_wp2_with fail
 (refine HR.out.mono ?_)
 rintro e w4 ⟨A4, n4, c4, rfl, hS4, hb⟩
 have Hb4 := kH (Hb3.out.trans (hb.mono Hb3.out.size))
 have Hw := kH (show ∀ r ∈ rs, Wrt r from fun r hr => (st_rls HS.out r hr (Hg.out.1.valid r hr)).2)
 have HX := kH (rsame_any (c := c) (d := c4) (HS.out.below monoRl Hb4.out) Hw.out hS4 Hw.out (HL.out _ Hb4.out).tens)
 rw [sameT_refl] at HX
 clear hb HR hS4 htl
 go_wp2_with (go_at_call 27; (with_reducible refine HX.out.mono ?_); rintro e w5 ⟨rfl, hb⟩; have Hb5 := kH (Hb4.out.trans (hb.mono Hb4.out.size)); clear hb)
 go_wp2_with (go_at_call 23; (with_reducible refine (HK.out _ Hb5.out).mono ?_); rintro e w9 ⟨rfl, hb⟩; have Hb9 := kH (Hb5.out.trans (hb.mono Hb5.out.size)); clear hb)
 go_ret
 exact ⟨rfl, Hb9.out⟩
theorem keepReads_any {s : List UInt8} (hs : s.length ≤ 9223372036854775807) {W : World} (hL : Lb W) :
 Calls Tryz.prog 9 #[.string ⟨s.toArray⟩] W fun e W' => e = .returned (.bool true) ∧ Below W.heap.size W W' := by
 have HK := kH (fun X (h : Below W.heap.size W X) => kknown_any (hL.below h))
 have HL := kH (fun X (h : Below W.heap.size W X) => hL.below h)
 have Hb0 := kH (Below.refl W.heap.size W)
 have hsz : s.toArray.size = s.length := by simp
 clear hL
 by_cases hl : 12000 < s.length
 · have q : decide ((12000 : Int) < (s.length : Int)) = true := decide_eq_true (by omega)
   go_enter Tryz.func9, Tryz.ntmps9
   go_wp2_with (go_at_call 23; (with_reducible refine (HK.out _ Hb0.out).mono ?_); rintro e w9 ⟨rfl, hb⟩; have Hb9 := kH hb; clear hb)
   go_ret
   exact ⟨rfl, Hb9.out⟩
 have q : decide ((12000 : Int) < (s.length : Int)) = false := decide_eq_false (by omega)
 obtain ⟨rs, z, hr⟩ := Reads.ex sm _ 0 [] s (Nat.le_refl _)
 have hl2 : s.length ≤ 12000 := by omega
 have HC := kH (Read_any (by omega) hr (HL.out _ Hb0.out))
 have HD := kH (fun X (h : Below W.heap.size W X) => rRead_any (by omega) hr (HL.out X h).tens)
 obtain ⟨Hg, hst⟩ := hr.is_store
 have Hg := kH Hg
 have hzl : z.length ≤ s.length := by rw [← hst, List.length_append]; omega
 have hzz : z.toArray.size = z.length := by simp
 have Hst := kH hst
 clear hr hst hl
 go_enter Tryz.func9, Tryz.ntmps9
 go_wp2_with fail
 (refine HC.out.mono ?_)
 rintro e w1 ⟨A1, n1, c1, rfl, hS1, hb⟩
 have Hb1 := kH hb
 have HS1 := kH hS1
 clear hb HC hS1
 go_wp2_with fail
 (refine (HD.out _ Hb1.out).mono ?_)
 rintro e w2 ⟨A2, c2, rfl, ho2, _, hb⟩
 have Hb2 := kH (Hb1.out.trans (hb.mono Hb1.out.size))
 have HS2 := kH (HS1.out.below monoRl hb)
 have Hw := kH (show ∀ r ∈ rs, Wrt r from fun r hr => (st_rls HS2.out r hr (Hg.out.valid r hr)).2)
 have HX := kH (rsame_any (c := c1) (d := c2) HS2.out Hw.out (ho2.stAt rfl) Hw.out (HL.out _ Hb2.out).tens)
 rw [sameT_refl] at HX
 clear hb HD ho2
 have q2 : decide ((s.length : Int) < (z.length : Int)) = false := decide_eq_false (by omega)
 go_wp2_with (go_at_call 27; (with_reducible refine HX.out.mono ?_); rintro e w3 ⟨rfl, hb⟩; have Hb3 := kH (Hb2.out.trans (hb.mono Hb2.out.size)); have HS3 := kH (HS2.out.below monoRl hb); clear hb)
 have HC := kH (Write_any (c := c1) HS3.out (by have := HS3.out.len; have := Hg.out.len; omega) (HL.out _ Hb3.out).tens)
 unfold WritePost at HC
 rw [writeT_good Hg.out] at HC
 obtain ⟨t, ht⟩ : ∃ t, t = storeT rs := ⟨_, rfl⟩
 rw [← ht] at HC
 have m1 : (⟨t.toArray⟩ ++ ⟨z.toArray⟩ : ByteArray) = ⟨s.toArray⟩ := by rw [← Hst.out, ht]; exact ByteArray.mk_append_mk _ _
 have htl : t.length ≤ s.length := by rw [← Hst.out, ht, List.length_append]; omega
 have htz : t.toArray.size = t.length := by simp
 have hsum : t.length + z.length = s.length := by rw [← Hst.out, ht, List.length_append]
 have Hsum := kH hsum
 have hsl : t.length + z.length ≤ 12000 := by omega
 clear ht hsum
 go_wp2_with fail
 (with_reducible refine HC.out.mono ?_)
 rintro e w4 ⟨rfl, hb⟩
 have Hb4 := kH (Hb3.out.trans (hb.mono Hb3.out.size))
 clear hb HC
 go_wp2_with (go_at_call 23; (with_reducible refine (HK.out _ Hb4.out).mono ?_); rintro e w9 ⟨rfl, hb⟩; have Hb9 := kH (Hb4.out.trans (hb.mono Hb4.out.size)); clear hb)
 go_ret
 exact ⟨rfl, Hb9.out⟩
end KT
end
section
open Go.RowKit Go.Maps Go.Lib
namespace KT
theorem keepMerges_any {a b : List UInt8} (ha : a.length ≤ 9223372036854775807) (hb : b.length ≤ 9223372036854775807) {W : World} (hL : Lb W) :
 Calls Tryz.prog 12 #[.string ⟨a.toArray⟩, .string ⟨b.toArray⟩] W fun e W' => e = .returned (.bool true) ∧ Below W.heap.size W W' := by
 have HK := kH (fun X (h : Below W.heap.size W X) => kknown_any (hL.below h))
 have HL := kH (fun X (h : Below W.heap.size W X) => hL.below h)
 have Hb0 := kH (Below.refl W.heap.size W)
 have hsa : a.toArray.size = a.length := by simp
 have hsb : b.toArray.size = b.length := by simp
 clear hL
 by_cases hl : 9000 < a.length
 · have q : decide ((9000 : Int) < (a.length : Int)) = true := decide_eq_true (by omega)
   go_enter Tryz.func12, Tryz.ntmps12
   go_wp2_with (go_at_call 23; (with_reducible refine (HK.out _ Hb0.out).mono ?_); rintro e w9 ⟨rfl, hb⟩; have Hb9 := kH hb; clear hb)
   go_ret
   exact ⟨rfl, Hb9.out⟩
 have q : decide ((9000 : Int) < (a.length : Int)) = false := decide_eq_false (by omega)
 by_cases hl' : 9000 < b.length
 · have q' : decide ((9000 : Int) < (b.length : Int)) = true := decide_eq_true (by omega)
   go_enter Tryz.func12, Tryz.ntmps12
   go_wp2_with (go_at_call 23; (with_reducible refine (HK.out _ Hb0.out).mono ?_); rintro e w9 ⟨rfl, hb⟩; have Hb9 := kH hb; clear hb)
   go_ret
   exact ⟨rfl, Hb9.out⟩
 have q' : decide ((9000 : Int) < (b.length : Int)) = false := decide_eq_false (by omega)
 obtain ⟨rs, z, hr⟩ := Reads.ex sm _ 0 [] a (Nat.le_refl _)
 obtain ⟨rs', z', hr'⟩ := Reads.ex sm _ 0 [] b (Nat.le_refl _)
 have ha2 : a.length ≤ 700000 := by omega
 have hb2 : b.length ≤ 700000 := by omega
 have Hr := kH hr
 have Hr' := kH hr'
 have HC := kH (Merge_any ha2 hb2 hr hr' (HL.out _ Hb0.out))
 have HD := kH (fun X (h : Below W.heap.size W X) => rMerge_any ha2 hb2 hr hr' (HL.out X h).tens)
 unfold MergeP at HC HD
 obtain ⟨t, ht⟩ : ∃ t, t = (mergeA rs z rs' z').1 := ⟨_, rfl⟩
 obtain ⟨y, hy⟩ : ∃ y, y = (mergeA rs z rs' z').2 := ⟨_, rfl⟩
 rw [← ht, ← hy] at HC HD
 have Ht := kH ht
 have Hy := kH hy
 clear hr hr' hl hl' ht hy
 go_enter Tryz.func12, Tryz.ntmps12
 go_wp2_with fail
 (with_reducible refine HC.out.mono ?_)
 rintro e w1 ⟨rfl, hb⟩
 have Hb1 := kH hb
 clear hb HC
 go_wp2_with fail
 (with_reducible refine (HD.out _ Hb1.out).mono ?_)
 rintro e w2 ⟨rfl, hb⟩
 have Hb2 := kH (Hb1.out.trans (hb.mono Hb1.out.size))
 clear hb HD
 by_cases hy0 : y = 0
 rotate_left
 · have q : (y != 0) = true := by simpa using hy0
   clear hy0
   go_wp2_with (go_at_call 23; (with_reducible refine (HK.out _ Hb2.out).mono ?_); rintro e w9 ⟨rfl, hb⟩; have Hb9 := kH (Hb2.out.trans (hb.mono Hb2.out.size)); clear hb)
   go_ret
   exact ⟨rfl, Hb9.out⟩
 subst hy0
 obtain ⟨e1, e2, hg, ht, hm1, hm2⟩ := merge_law Hr.out Hr'.out Hy.out.symm
 subst e1 e2
 rw [← Ht.out] at ht hm1 hm2
 have htl : t.length ≤ 8880 := by rw [ht]; exact good_store hg
 have Hrx := kH (show Reads sm 0 [] t (mergeT sm rs rs') [] from by rw [ht]; exact Reads.whole hg)
 have HM1 := kH (Merge_any (a := t) (by omega) ha2 Hrx.out Hr.out (HL.out _ Hb2.out))
 have HM2 := kH (fun X (h : Below W.heap.size W X) => Merge_any (a := t) (by omega) hb2 Hrx.out Hr'.out (HL.out X h))
 unfold MergeP at HM1 HM2
 rw [hm1] at HM1
 rw [hm2] at HM2
 clear hg ht hm1 hm2
 go_wp2_with fail
 (with_reducible refine HM1.out.mono ?_)
 rintro e w3 ⟨rfl, hb⟩
 have Hb3 := kH (Hb2.out.trans (hb.mono Hb2.out.size))
 clear hb HM1
 go_wp2_with fail
 (with_reducible refine (HM2.out _ Hb3.out).mono ?_)
 rintro e w4 ⟨rfl, hb⟩
 have Hb4 := kH (Hb3.out.trans (hb.mono Hb3.out.size))
 clear hb HM2
 go_wp2_with (go_at_call 23; (with_reducible refine (HK.out _ Hb4.out).mono ?_); rintro e w9 ⟨rfl, hb⟩; have Hb9 := kH (Hb4.out.trans (hb.mono Hb4.out.size)); clear hb)
 go_ret
 exact ⟨rfl, Hb9.out⟩
theorem keepAdds_any {s : List UInt8} (hs : s.length ≤ 9223372036854775807) {r : R.Rl} {nl cl nr cr np cp : Nat} {AL AR AP : Option Addr} {W : World} (hR : RlAt W r nl nr np AL AR AP) (hL : Lb W) :
 Calls Tryz.prog 10 #[.string ⟨s.toArray⟩, .agg #[.slice AL nl cl, .slice AR nr cr, .slice AP np cp]] W fun e W' => e = .returned (.bool true) ∧ Below W.heap.size W W' := by
 obtain ⟨W1, hW1⟩ : ∃ W1, W1 = W.alloc (.cells #[.slice AL nl cl, .slice AR nr cr, .slice AP np cp] 33) := ⟨_, rfl⟩
 have hb1 : Below W.heap.size W W1 := by rw [hW1]; exact al0
 have hrow : W1.heap[W.heap.size]? = some (.cells #[.slice AL nl cl, .slice AR nr cr, .slice AP np cp] 33 (0, 0)) := by rw [hW1]; exact heap_alloc_new W _
 have HB1 := kH hb1
 have HW1 := kH hW1
 have HR := kH (fun X (h : Below W1.heap.size W1 X) => (hR.below hb1).below h)
 have HK := kH (fun X (h : Below W1.heap.size W1 X) => kknown_any ((hL.below hb1).below h))
 have HL := kH (fun X (h : Below W1.heap.size W1 X) => (hL.below hb1).below h)
 have HEnd := kH (show ∀ X, Below W1.heap.size W1 X → Below W.heap.size W X from fun X h => hb1.trans (h.mono hb1.size))
 have HS := kH (show ∀ Y, Below W1.heap.size W1 Y → Y.cell? ⟨W.heap.size, 0, none⟩ = some (.slice AL nl cl) ∧ Y.cell? ⟨W.heap.size, 1, none⟩ = some (.slice AR nr cr) ∧ Y.cell? ⟨W.heap.size, 2, none⟩ = some (.slice AP np cp) from fun Y hY => by
  obtain ⟨h0, h1, h2, _⟩ := rl_cells ((hY.block _ (gA hrow).1).trans hrow)
  exact ⟨h0, h1, h2⟩)
 have Hb0 := kH (Below.refl W1.heap.size W1)
 have hsz : s.toArray.size = s.length := by simp
 clear hL hR hb1 hrow hW1
 by_cases hl : 9000 < s.length
 · have q : decide ((9000 : Int) < (s.length : Int)) = true := decide_eq_true (by omega)
   obtain ⟨c0, c1, c2⟩ := HS.out _ Hb0.out
   go_enter Tryz.func10, Tryz.ntmps10
   go_upto_region 1 with (fail)
   rw [← HW1.out]
   go_wp2_with (go_at_call 23; (with_reducible refine (HK.out _ Hb0.out).mono ?_); rintro e w9 ⟨rfl, hb⟩; have Hb9 := kH hb; clear hb)
   go_ret
   exact ⟨rfl, HEnd.out _ Hb9.out⟩
 have q : decide ((9000 : Int) < (s.length : Int)) = false := decide_eq_false (by omega)
 have hs2 : s.length ≤ 9000 := by omega
 obtain ⟨rs, z, hr⟩ := Reads.ex sm _ 0 [] s (Nat.le_refl _)
 have Hr := kH hr
 obtain ⟨c0, c1, c2⟩ := HS.out _ Hb0.out
 have HO := kH (one_any (cl := cl) (cr := cr) (cp := cp) (HR.out _ Hb0.out))
 clear hr hl
 go_enter Tryz.func10, Tryz.ntmps10
 go_upto_region 1 with (fail)
 rw [← HW1.out]
 go_wp2_with fail
 (refine HO.out.mono ?_)
 rintro e w1 ⟨A1, rfl, hS1, hb⟩
 have Hb1 := kH hb
 have HLo := kH (lLong_any (c := 1) hS1)
 obtain ⟨lg, hlg⟩ : ∃ lg, lg = longT [r] := ⟨_, rfl⟩
 rw [← hlg] at HLo
 clear hb hS1 hlg HO c0 c1 c2
 go_wp2_with fail
 (with_reducible refine HLo.out.mono ?_)
 rintro e w2 ⟨rfl, hb⟩
 have Hb2 := kH (Hb1.out.trans (hb.mono Hb1.out.size))
 clear hb HLo
 cases lg with
 | true =>
  go_wp2_with (go_at_call 23; (with_reducible refine (HK.out _ Hb2.out).mono ?_); rintro e w9 ⟨rfl, hb⟩; have Hb9 := kH (Hb2.out.trans (hb.mono Hb2.out.size)); clear hb)
  go_ret
  exact ⟨rfl, HEnd.out _ Hb9.out⟩
 | false =>
 have HA1 := kH (Add_any (cl := cl) (cr := cr) (cp := cp) (by omega) Hr.out (HR.out _ Hb2.out) (HL.out _ Hb2.out))
 have HA2 := kH (fun X (h : Below W1.heap.size W1 X) => rAdd_any (cl := cl) (cr := cr) (cp := cp) (by omega) Hr.out (HR.out X h) (HL.out X h).tens)
 have HH1 := kH (fun X (h : Below W1.heap.size W1 X) => Has_any (cl := cl) (cr := cr) (cp := cp) (by omega) Hr.out (HR.out X h) (HL.out X h))
 have HH2 := kH (fun X (h : Below W1.heap.size W1 X) => rHas_any (cl := cl) (cr := cr) (cp := cp) (by omega) Hr.out (HR.out X h) (HL.out X h).tens)
 unfold AddP at HA1 HA2
 unfold HasP at HH1 HH2
 obtain ⟨t, ht⟩ : ∃ t, t = (addA s rs z r).1 := ⟨_, rfl⟩
 obtain ⟨b, hb⟩ : ∃ b, b = (addA s rs z r).2.1 := ⟨_, rfl⟩
 obtain ⟨y, hy⟩ : ∃ y, y = (addA s rs z r).2.2 := ⟨_, rfl⟩
 obtain ⟨d, hd⟩ : ∃ d, d = (hasA rs z r).1 := ⟨_, rfl⟩
 obtain ⟨x, hx⟩ : ∃ x, x = (hasA rs z r).2 := ⟨_, rfl⟩
 rw [← ht, ← hb, ← hy] at HA1 HA2
 rw [← hd, ← hx] at HH1 HH2
 have Ht := kH ht
 have Hbq := kH hb
 have Hy := kH hy
 have Hd := kH hd
 clear ht hb hy hd hx
 obtain ⟨c0, c1, c2⟩ := HS.out _ Hb2.out
 go_wp2_with fail
 (with_reducible refine HA1.out.mono ?_)
 rintro e w3 ⟨rfl, hb⟩
 have Hb3 := kH (Hb2.out.trans (hb.mono Hb2.out.size))
 clear hb HA1 c0 c1 c2
 obtain ⟨c0, c1, c2⟩ := HS.out _ Hb3.out
 go_wp2_with fail
 (with_reducible refine (HA2.out _ Hb3.out).mono ?_)
 rintro e w4 ⟨rfl, hb⟩
 have Hb4 := kH (Hb3.out.trans (hb.mono Hb3.out.size))
 clear hb HA2 c0 c1 c2
 obtain ⟨c0, c1, c2⟩ := HS.out _ Hb4.out
 go_wp2_with fail
 (with_reducible refine (HH1.out _ Hb4.out).mono ?_)
 rintro e w5 ⟨rfl, hb⟩
 have Hb5 := kH (Hb4.out.trans (hb.mono Hb4.out.size))
 clear hb HH1 c0 c1 c2
 obtain ⟨c0, c1, c2⟩ := HS.out _ Hb5.out
 go_wp2_with fail
 (with_reducible refine (HH2.out _ Hb5.out).mono ?_)
 rintro e w6 ⟨rfl, hb⟩
 have Hb6 := kH (Hb5.out.trans (hb.mono Hb5.out.size))
 clear hb HH2 c0 c1 c2
 by_cases hy0 : y = 0
 rotate_left
 · have q : (y != 0) = true := by simpa using hy0
   clear hy0
   go_wp2_with (go_at_call 23; (with_reducible refine (HK.out _ Hb6.out).mono ?_); rintro e w9 ⟨rfl, hb⟩; have Hb9 := kH (Hb6.out.trans (hb.mono Hb6.out.size)); clear hb)
   go_ret
   exact ⟨rfl, HEnd.out _ Hb9.out⟩
 subst hy0
 obtain ⟨_, m', hr', htl, hh, had, hbd⟩ := add_law (fun hv => rls_of_valid ⟨nl, cl, nr, cr, np, cp, AL, AR, AP, rfl, HR.out _ Hb6.out⟩ hv) Hr.out Hy.out.symm
 rw [← Ht.out] at hr' htl had
 rw [← Hbq.out, ← Hd.out] at hbd
 subst hbd
 have HH3 := kH (Has_any (cl := cl) (cr := cr) (cp := cp) (by omega) hr' (HR.out _ Hb6.out) (HL.out _ Hb6.out))
 have HA3 := kH (fun X (h : Below W1.heap.size W1 X) => Add_any (cl := cl) (cr := cr) (cp := cp) (by omega) hr' (HR.out X h) (HL.out X h))
 unfold HasP at HH3
 unfold AddP at HA3
 rw [hh] at HH3
 rw [had] at HA3
 clear hr' hh had
 obtain ⟨c0, c1, c2⟩ := HS.out _ Hb6.out
 go_wp2_with fail
 (with_reducible refine HH3.out.mono ?_)
 rintro e w7 ⟨rfl, hb⟩
 have Hb7 := kH (Hb6.out.trans (hb.mono Hb6.out.size))
 clear hb HH3 c0 c1 c2
 obtain ⟨c0, c1, c2⟩ := HS.out _ Hb7.out
 go_wp2_with fail
 (with_reducible refine (HA3.out _ Hb7.out).mono ?_)
 rintro e w8 ⟨rfl, hb⟩
 have Hb8 := kH (Hb7.out.trans (hb.mono Hb7.out.size))
 clear hb HA3 c0 c1 c2
 go_wp2_with (go_at_call 23; (with_reducible refine (HK.out _ Hb8.out).mono ?_); rintro e w9 ⟨rfl, hb⟩; have Hb9 := kH (Hb8.out.trans (hb.mono Hb8.out.size)); clear hb)
 go_ret
 exact ⟨rfl, HEnd.out _ Hb9.out⟩
end KT
end
end Go.Proofs.YtbiopedpceddeaaGreatDoor
