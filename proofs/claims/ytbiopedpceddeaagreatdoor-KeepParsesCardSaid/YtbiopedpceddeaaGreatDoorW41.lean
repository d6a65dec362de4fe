/- Merged: C4KFG, C4KFH. -/
import Derived.Test.YtbiopedpceddeaaGreatDoorW40
set_option linter.unusedVariables false
set_option linter.unusedSimpArgs false
section
namespace Go.Proofs.YtbiopedpceddeaaGreatDoor
open Go.RowKit Go.Maps Go.Lib
set_option linter.unusedVariables false
set_option linter.unusedSimpArgs false
namespace KT
def ReadQ (W : World) (rs : List R.Rl) (z : List UInt8) (e : Ending) (w' : World) : Prop :=
  ∃ (A : Option Addr) (n c : Nat), e = .returned (.tuple #[.slice A n c, .string ⟨z.toArray⟩]) ∧ StAt 3 RlR w' A n rs ∧ Below W.heap.size W w'

set_option maxRecDepth 100000 in
set_option maxHeartbeats 4000000 in
theorem Read_any {s : List UInt8} {rs : List R.Rl} {z : List UInt8} (hs : s.length ≤ 700000) (hr : Reads sm 0 [] s rs z) {W : World} (hL : Lb W) :
    Calls Tryz.prog 33 #[.string ⟨s.toArray⟩] W (ReadQ W rs z) := by
  have HC := Lib.hid (read_any hs hr hL)
  clear hL hr
  go_enter Tryz.func33, Tryz.ntmps33
  go_wp2_with fail
  (refine HC.out.mono ?_)
  rintro e w2 ⟨g, mb, v, ks, rfl, hst, hb, hN⟩
  obtain ⟨A, c, hv⟩ := hst.own.form
  subst hv
  have hg0 : w2.cell? ⟨g, 0, none⟩ = some (.slice A rs.length c) := by rw [cell_of_row _ _ _ _ _ (0, 0) hst.row]; rfl
  have Hst := Lib.hid hst
  have Hb := Lib.hid hb
  clear hst hb hN HC
  go_wp2_with fail
  go_ret2
  exact ⟨A, _, c, rfl, Hst.out.own.stAt rfl, Hb.out⟩

def OpenedP (W : World) (rs : List R.Rl) (z : List UInt8) (e : Ending) (w' : World) : Prop :=
  Below W.heap.size W w' ∧ ((z = [] ∧ ∃ (g mb : Nat) (v : Value) (ks : List (List UInt8)), e = .returned (.tuple #[.pointer (some ⟨g, 0, none⟩), .int .i64 0]) ∧ StoreAt W.heap.size w' g v mb rs ks ∧ ∀ i, Nst g mb v i → W.heap.size ≤ i) ∨
    (z ≠ [] ∧ e = .returned (.tuple #[.pointer none, .int .i64 10])))

set_option maxRecDepth 100000 in
set_option maxHeartbeats 4000000 in
theorem opened_any {s : List UInt8} {rs : List R.Rl} {z : List UInt8} (hs : s.length ≤ 700000) (hr : Reads sm 0 [] s rs z) {W : World} (hL : Lb W) :
    Calls Tryz.prog 87 #[.string ⟨s.toArray⟩] W (OpenedP W rs z) := by
  have HC := Lib.hid (read_any hs hr hL)
  clear hL hr
  go_enter Tryz.func87, Tryz.ntmps87
  go_wp2_with fail
  (refine HC.out.mono ?_)
  rintro e w2 ⟨g, mb, v, ks, rfl, hst, hb, hN⟩
  have Hst := Lib.hid hst
  have Hb := Lib.hid hb
  have HN := Lib.hid hN
  clear hst hb hN HC
  cases z with
  | nil =>
    go_wp2_with fail
    go_ret2
    exact ⟨Hb.out, .inl ⟨rfl, g, mb, v, ks, rfl, Hst.out, HN.out⟩⟩
  | cons y z =>
    have q : ((y :: z) == []) = false := by simp
    go_wp2_with fail
    go_ret2
    exact ⟨Hb.out, .inr ⟨by simp, rfl⟩⟩

def HasP (W : World) (rs : List R.Rl) (z : List UInt8) (r : R.Rl) (e : Ending) (w' : World) : Prop :=
  e = .returned (.tuple #[.bool (hasA rs z r).1, .int .i64 (hasA rs z r).2]) ∧ Below W.heap.size W w'
theorem hasP_of {W w' : World} {rs : List R.Rl} {z : List UInt8} {r : R.Rl} {b : Bool} {c : Int} (h : hasA rs z r = (b, c)) (hb : Below W.heap.size W w') : HasP W rs z r (.returned (.tuple #[.bool b, .int .i64 c])) w' := ⟨by rw [h], hb⟩

set_option maxRecDepth 100000 in
set_option maxHeartbeats 4000000 in
theorem Has_any {s : List UInt8} {rs : List R.Rl} {z : List UInt8} (hs : s.length ≤ 700000) (hr : Reads sm 0 [] s rs z) {r : R.Rl} {nl cl nr cr np cp : Nat} {AL AR AP : Option Addr} {W : World} (hR : RlAt W r nl nr np AL AR AP) (hL : Lb W) :
    Calls Tryz.prog 37 #[.string ⟨s.toArray⟩, .agg #[.slice AL nl cl, .slice AR nr cr, .slice AP np cp]] W (HasP W rs z r) := by
  obtain ⟨W1, hW1⟩ : ∃ W1, W1 = W.alloc (.cells #[.slice AL nl cl, .slice AR nr cr, .slice AP np cp] 33) := ⟨_, rfl⟩
  have hb1 : Below W.heap.size W W1 := by rw [hW1]; exact (Below.refl _ _).alloc (Nat.le_refl _) _
  have hrow : W1.heap[W.heap.size]? = some (.cells #[.slice AL nl cl, .slice AR nr cr, .slice AP np cp] 33 (0, 0)) := by rw [hW1]; exact heap_alloc_new W _
  have HK := Lib.hid (kKey_any (cl := cl) (cr := cr) (cp := cp) (hR.below hb1) (hL.below hb1).tens)
  unfold KeyPost at HK
  have HO := Lib.hid (fun X (h : Below W.heap.size W X) => opened_any hs hr (hL.below h))
  have HB1 := Lib.hid hb1
  have HW1 := Lib.hid hW1
  obtain ⟨c0, c1, c2, _⟩ := rl_cells hrow
  clear hR hL hb1 hrow hW1 hr
  obtain ⟨y, hy⟩ : ∃ y, R.rvalid r = y := ⟨_, rfl⟩
  have Hy := Lib.hid hy
  rw [hy] at HK
  clear hy
  go_enter Tryz.func37, Tryz.ntmps37
  go_upto_region 1 with (fail)
  rw [← HW1.out]
  go_wp2_with fail
  (refine HK.out.mono ?_)
  rintro e w2 ⟨k, rfl, hk1, _, hb2, hkl⟩
  have Hk1 := Lib.hid hk1
  have Hkl := Lib.hid hkl
  have Hb2 := Lib.hid (HB1.out.trans (hb2.mono HB1.out.size))
  clear hk1 hb2 hkl c0 c1 c2 HK
  by_cases hy0 : y = 0
  rotate_left
  · have q : (y != 0) = true := by simpa using hy0
    have Hh := Lib.hid (show hasA rs z r = (false, y) from by unfold hasA; rw [Hy.out, if_pos hy0])
    clear hy0
    go_wp2_with fail
    go_ret2
    exact hasP_of Hh.out Hb2.out
  subst hy0
  have HKey := Lib.hid (show IsKey r k from by first | exact Hk1.out trivial | exact Hk1.out rfl)
  go_wp2_with fail
  (refine (HO.out _ Hb2.out).mono ?_)
  rintro e w3 ⟨hb3, h3⟩
  have Hb3 := Lib.hid (Hb2.out.trans (hb3.mono Hb2.out.size))
  clear hb3
  rcases h3 with ⟨rfl, g, mb, v, ks, rfl, hst, _⟩ | ⟨hz, rfl⟩
  · have Hst := Lib.hid hst
    have hg1 : w3.cell? ⟨g, 1, none⟩ = some (.map (some mb)) := by rw [cell_of_row _ _ _ _ _ (0, 0) hst.row]; rfl
    have hz : ∀ w, (zeroValue 3).run Tryz.prog w = .ok (.int .i64 0) w := fun w => by go_simp
    obtain ⟨u, _, hlook, _⟩ := hst.map_.lookup (k := k) strKeyed ekS_inj Tryz.underlying126 (hz w3) (keyOf_str (by have := Hkl.out; omega))
    rw [entS_get hst.nd] at hlook
    have hhas := hst.has Hy.out HKey.out
    unfold ekS at hlook
    clear hst hz
    by_cases hm : k ∈ ks
    · rw [if_pos hm] at hlook
      simp only [Option.isSome_some] at hlook
      have Hh := Lib.hid (show hasA rs [] r = (true, 0) from by
        rw [decide_eq_true hm] at hhas
        unfold hasA
        rw [Hy.out, if_neg (by decide), if_neg (by simp), ← hhas])
      clear hm hhas
      go_wp2_with fail
      go_ret2
      exact hasP_of Hh.out Hb3.out
    · rw [if_neg hm] at hlook
      simp only [Option.isSome_none] at hlook
      have Hh := Lib.hid (show hasA rs [] r = (false, 0) from by
        rw [decide_eq_false hm] at hhas
        unfold hasA
        rw [Hy.out, if_neg (by decide), if_neg (by simp), ← hhas])
      clear hm hhas
      go_wp2_with fail
      go_ret2
      exact hasP_of Hh.out Hb3.out
  · have Hh := Lib.hid (show hasA rs z r = (false, 10) from by
      unfold hasA
      rw [Hy.out, if_neg (by decide), if_pos hz])
    clear hz
    go_wp2_with fail
    go_ret2
    exact hasP_of Hh.out Hb3.out

end KT
end Go.Proofs.YtbiopedpceddeaaGreatDoor
end
section
namespace Go.Proofs.YtbiopedpceddeaaGreatDoor
open Go.RowKit Go.Maps Go.Lib
set_option linter.unusedVariables false
set_option linter.unusedSimpArgs false
namespace KT
theorem StoreAt.base {B B' : Nat} {w : World} {g mb : Nat} {v : Value} {rs : List R.Rl} {ks : List (List UInt8)} (h : StoreAt B w g v mb rs ks) (hB : B' ≤ B) : StoreAt B' w g v mb rs ks :=
  ⟨h.row, h.own.step (N := fun _ => False) (Kpm.refl _ _) (fun _ _ h => h.elim) (fun _ _ h => h) (fun i _ h => h.imp (fun h => by omega) id), h.map_, h.nd, h.len, h.key, h.val⟩
theorem mergeT_next {l k : List R.Rl} {j : Nat} {r : R.Rl} (hr : k[j]? = some r) : mergeT sm l (k.take (j + 1)) = addT sm (mergeT sm l (k.take j)) r := by
  unfold mergeT
  rw [List.take_add_one, hr, List.foldl_append]
  rfl
theorem mergeT_over {l k : List R.Rl} {j : Nat} {r : R.Rl} (hr : k[j]? = some r) (hn : hasT (mergeT sm l (k.take j)) r = false) (hl : 40 ≤ (mergeT sm l (k.take j)).length) : 40 < (mergeT sm l k).length := by
  have hj := (List.getElem?_eq_some_iff.1 hr).1
  have e : mergeT sm l k = mergeT sm (mergeT sm l (k.take (j + 1))) (k.drop (j + 1)) := by
    unfold mergeT
    rw [← List.foldl_append, List.take_append_drop]
  have h1 := mergeT_len (sm := sm) (k.drop (j + 1)) (mergeT sm l (k.take (j + 1)))
  rw [← e, mergeT_next hr] at h1
  unfold addT at h1
  have h2 : ((mergeT sm l (k.take j)).any fun q => sm q r) = false := hn
  rw [h2, if_neg (by decide), List.length_append, List.length_singleton] at h1
  omega
def MergeP (W : World) (rs : List R.Rl) (z : List UInt8) (rs' : List R.Rl) (z' : List UInt8) (e : Ending) (w' : World) : Prop :=
  e = .returned (.tuple #[.string ⟨(mergeA rs z rs' z').1.toArray⟩, .int .i64 (mergeA rs z rs' z').2]) ∧ Below W.heap.size W w'
theorem mergeP_of {W w' : World} {t : List UInt8} {rs rs' : List R.Rl} {z z' : List UInt8} {c : Int} (h : mergeA rs z rs' z' = (t, c)) (hb : Below W.heap.size W w') : MergeP W rs z rs' z' (.returned (.tuple #[.string ⟨t.toArray⟩, .int .i64 c])) w' := ⟨by rw [h], hb⟩

set_option maxRecDepth 100000 in
set_option maxHeartbeats 8000000 in
theorem Merge_any {a b : List UInt8} {rs rs' : List R.Rl} {z z' : List UInt8} (ha : a.length ≤ 700000) (hb : b.length ≤ 700000) (hra : Reads sm 0 [] a rs z) (hrb : Reads sm 0 [] b rs' z') {W : World} (hL : Lb W) :
    Calls Tryz.prog 39 #[.string ⟨a.toArray⟩, .string ⟨b.toArray⟩] W (MergeP W rs z rs' z') := by
  have HA := Lib.hid (opened_any ha hra hL)
  have HO := Lib.hid (fun X (h : Below W.heap.size W X) => opened_any hb hrb (hL.below h))
  have HL := Lib.hid (fun X (h : Below W.heap.size W X) => hL.below h)
  have HG1 := Lib.hid hra.is_store.1
  have HG2 := Lib.hid hrb.is_store.1
  clear hL hra hrb
  go_enter Tryz.func39, Tryz.ntmps39
  go_wp2_with fail
  (refine HA.out.mono ?_)
  rintro e w2 ⟨hb2, h2⟩
  have Hb2 := Lib.hid hb2
  clear hb2 HA
  rcases h2 with ⟨rfl, g, mb, v, ks, rfl, hst, hN⟩ | ⟨hz, rfl⟩
  rotate_left
  · have Hh := Lib.hid (show mergeA rs z rs' z' = ([], 10) from by unfold mergeA; rw [if_pos hz])
    clear hz
    go_wp2_with fail
    go_ret2
    exact mergeP_of Hh.out Hb2.out
  have Hst2 := Lib.hid hst
  have HN := Lib.hid hN
  clear hst hN
  go_wp2_with fail
  (refine (HO.out _ Hb2.out).mono ?_)
  rintro e w3 ⟨hb3, h3⟩
  have Hb23 := Lib.hid hb3
  have Hb3 := Lib.hid (Hb2.out.trans (hb3.mono Hb2.out.size))
  clear hb3
  rcases h3 with ⟨rfl, g2, mb2, v2, ks2, rfl, hst, hN2⟩ | ⟨hz, rfl⟩
  rotate_left
  · have Hh := Lib.hid (show mergeA rs [] rs' z' = ([], 10) from by unfold mergeA; rw [if_neg (by simp), if_pos hz])
    clear hz
    go_wp2_with fail
    go_ret2
    exact mergeP_of Hh.out Hb3.out
  obtain ⟨A2, c2, hv2⟩ := hst.own.form
  obtain ⟨n, hn⟩ : ∃ n, n = rs'.length := ⟨_, rfl⟩
  rw [← hn] at hv2
  subst hv2
  have Hn := Lib.hid hn
  have hn40 : n ≤ 40 := by have := HG2.out.len; omega
  have Hst3 := Lib.hid hst
  have Hv2 := Lib.hid (show ∀ b, (Value.slice A2 n c2).ownBlock = some b → w2.heap.size ≤ b from fun b e => hN2 b (.inr (.inr e)))
  have hg0 : w3.cell? ⟨g2, 0, none⟩ = some (.slice A2 n c2) := by rw [cell_of_row _ _ _ _ _ (0, 0) hst.row]; rfl
  have Hst1 := Lib.hid ((Hst2.out.below Hb23.out).base (Nat.zero_le _))
  have Hvo := Lib.hid (show ∀ b, v.ownBlock = some b → W.heap.size ≤ b ∧ (b < w2.heap.size ∨ w3.heap.size ≤ b) from fun b e => ⟨HN.out b (.inr (.inr e)), .inl (Hst2.out.own.lt b e)⟩)
  have Hgm := Lib.hid (show (W.heap.size ≤ g ∧ g < w2.heap.size) ∧ W.heap.size ≤ mb ∧ mb < w2.heap.size from ⟨⟨HN.out g (.inl rfl), Hst2.out.lt⟩, HN.out mb (.inr (.inl rfl)), Hst2.out.map_.lt⟩)
  clear hst hN2 hn
  go_wp2_with fail
  clear hg0
  go_loopg [32] (n + 1) (fun gg s32 wr => ∃ (j : Nat) (v : Value) (ks : List (List UInt8)), j ≤ n ∧ s32 = .int .i64 (j : Int) ∧ gg + j = n + 1 ∧ Hid (StoreAt 0 wr g v mb (mergeT sm rs (rs'.take j)) ks) ∧ Hid (∀ b, v.ownBlock = some b → W.heap.size ≤ b ∧ (b < w2.heap.size ∨ w3.heap.size ≤ b)) ∧ Hid ((mergeT sm rs (rs'.take j)).length ≤ 40) ∧ Hid (Kpm (fun i => i < w2.heap.size) w3 wr) ∧ Hid (Below W.heap.size W wr))
  case atStart => exact ⟨0, v, ks, Nat.zero_le _, rfl, rfl, Hst1, Hvo, Lib.hid HG1.out.len, Lib.hid (Kpm.refl _ _), Hb3⟩
  case round =>
    clear Hst1 Hvo Hst2 HN
    obtain ⟨j, v, ks, hj, rfl, hgk, Hst, Hvo, Hlen, Hk, Hb⟩ := hrel
    have Hgk := Lib.hid hgk
    clear hgk
    by_cases hjn : j < n
    · have HOw := Lib.hid (show OwnL (fun i => i < w2.heap.size ∨ i = g2 ∨ i = mb2) wr (.slice A2 n c2) rs' from Hst3.out.own.step Hk.out (fun i _ h => .inl h) (fun b e1 e2 => by have := Hv2.out b e1; omega) (fun _ _ h => h))
      obtain ⟨r, b, off, nl, cl, nr, cr, np, cp, AL, AR, AP, hx, hA, hb, c0, c1, c2', hR⟩ := rl_at (HOw.out.stAt Hn.out.symm) hjn
      subst hA
      have Hx := Lib.hid hx
      have hmem := List.mem_of_getElem? hx
      obtain ⟨wa, hwa⟩ : ∃ wa, wa = wr.alloc (.cells #[.slice AL nl cl, .slice AR nr cr, .slice AP np cp] 33) := ⟨_, rfl⟩
      have hba : Below wr.heap.size wr wa := by rw [hwa]; exact (Below.refl _ _).alloc (Nat.le_refl _) _
      have hrow : wa.heap[wr.heap.size]? = some (.cells #[.slice AL nl cl, .slice AR nr cr, .slice AP np cp] 33 (0, 0)) := by rw [hwa]; exact heap_alloc_new wr _
      have Hba := Lib.hid (Hb.out.trans (hba.mono Hb.out.size))
      have Hka := Lib.hid (show Kpm (fun i => i < w2.heap.size) w3 wa from Hk.out.trans (Kpm.of_below hba (fun _ => False)) (fun _ _ h => h.elim))
      have Hsta := Lib.hid (Hst.out.below hba)
      have hNB : ∀ i, Nst g mb v i → W.heap.size ≤ i := fun i h => by
        rcases h with e | e | e
        · rw [e]; exact Hgm.out.1.1
        · rw [e]; exact Hgm.out.2.1
        · exact (Hvo.out i e).1
      have hNC : ∀ i, i < w3.heap.size → Nst g mb v i → i < w2.heap.size := fun i hi h => by
        rcases h with e | e | e
        · rw [e]; exact Hgm.out.1.2
        · rw [e]; exact Hgm.out.2.2
        · rcases (Hvo.out i e).2 with h | h
          · exact h
          · omega
      have HNB := Lib.hid hNB
      have HNC := Lib.hid hNC
      have hrx : ∀ w', Kpm (fun i => i < 0 ∨ Nst g mb v i) wa w' → RlAt w' r nl nr np AL AR AP := fun w' hk => by
        have hk3 : Kpm (fun i => i < w2.heap.size) w3 w' := Hka.out.trans hk (fun i hi h => by
          rcases h with h | h
          · exact absurd h (Nat.not_lt_zero _)
          · exact hNC i hi h)
        have ho := Hst3.out.own.step hk3 (fun i _ h => .inl h) (fun b e1 e2 => by have := Hv2.out b e1; omega) (F' := fun i => i < w2.heap.size ∨ i = g2 ∨ i = mb2) (fun _ _ h => h)
        obtain ⟨cells, h1, h2⟩ := HOw.out
        obtain ⟨cells3, h13, h23⟩ := Hst3.out.own
        obtain ⟨nl', cl', nr', cr', np', cp', AL', AR', AP', e, hall⟩ := h23 j r hx
        obtain ⟨nl2, cl2, nr2, cr2, np2, cp2, AL2, AR2, AP2, e2, _⟩ := h2 j r hx
        have hcell : ∀ (q : Nat) u, ((cells3.drop (j * 3)).take 3)[q]? = some u → wr.cell? ⟨b, off + j * 3 + q, none⟩ = some u := fun q u hu => by
          rcases h13.2 with ⟨e, _⟩ | ⟨gg, oo, cap, cur, e, hg, q1, q2, q3, q4⟩
          · cases e
          · cases e
            have hr3 := (Hk.out.block _ (Array.getElem?_eq_some_iff.1 hg).1 (fun h => by have h9 : w2.heap.size ≤ b := Hv2.out _ rfl; omega)).trans hg
            rw [cell_of_row _ _ _ _ _ (0, 0) hr3]
            rw [List.getElem?_take] at hu
            split at hu
            · rw [List.getElem?_drop] at hu
              have := q4 _ u hu
              rwa [← Nat.add_assoc] at this
            · cases hu
        rw [e] at hcell
        have d0 := hcell 0 _ rfl
        have d1 := hcell 1 _ rfl
        have d2 := hcell 2 _ rfl
        rw [Nat.add_zero, c0] at d0
        rw [c1] at d1
        rw [c2'] at d2
        cases d0
        cases d1
        cases d2
        exact hall w' (hk3.weak (fun i _ h => .inl (.inl h)))
      have HAd := Lib.hid (add_any (cl := cl) (cr := cr) (cp := cp) Hsta.out hrx (Hst3.out.val r hmem) (fun w' hk => (HL.out w' (Hba.out.trans (hk.below Hba.out.size hNB))).tens) (by have := Hlen.out; omega))
      obtain ⟨l, hl⟩ : ∃ l, l = mergeT sm rs (rs'.take j) := ⟨_, rfl⟩
      have Hl := Lib.hid hl
      obtain ⟨y, hy⟩ : ∃ y, addC (mergeT sm rs (rs'.take j)) r = y := ⟨_, rfl⟩
      have Hy := Lib.hid hy
      have Hyc := Lib.hid (show (y = 3 ∧ mergeA rs [] rs' [] = ([], 3)) ∨ (y ≠ 3 ∧ addR (mergeT sm rs (rs'.take j)) r = mergeT sm rs (rs'.take (j + 1)) ∧ (mergeT sm rs (rs'.take (j + 1))).length ≤ 40) from by
        have h := hy
        have h5 := HG2.out.short r hmem
        have h6 := Hlen.out
        unfold addC at h
        rw [mergeT_next hx]
        split at h
        · rename_i hh
          subst h
          refine .inr ⟨by decide, ?_⟩
          have h7 : ((mergeT sm rs (rs'.take j)).any fun q => sm q r) = true := hh
          unfold addR addT
          rw [hy, if_neg (by decide), h7, if_pos rfl]
          exact ⟨rfl, h6⟩
        · rename_i hh
          split at h
          · rename_i hf
            subst h
            refine .inl ⟨rfl, ?_⟩
            unfold mergeA
            rw [if_neg (by simp), if_neg (by simp), if_pos (mergeT_over hx (by simpa using hh) (by omega))]
          · rename_i hf
            subst h
            refine .inr ⟨by decide, ?_⟩
            have h7 : ((mergeT sm rs (rs'.take j)).any fun q => sm q r) = false := by simpa [hasT] using hh
            unfold addR addT
            rw [hy, if_pos rfl, h7, if_neg (by decide)]
            exact ⟨rfl, by rw [List.length_append, List.length_singleton]; omega⟩)
      unfold AddPost at HAd
      rw [hy] at HAd
      obtain ⟨r0, r1, r2, _⟩ := rl_cells hrow
      clear hx hmem hb hR hba hrow hNB hNC hrx hl hy
      go_upto_region 10 with (fail)
      rw [← hwa]
      clear hwa c0 c1 c2'
      go_wp2_with fail
      (refine HAd.out.mono ?_)
      rintro e w4 ⟨v', ks', rfl, hst4, hk4, hv4⟩
      have Hb4 := Lib.hid (Hba.out.trans (hk4.below Hba.out.size HNB.out))
      have Hk4 := Lib.hid (show Kpm (fun i => i < w2.heap.size) w3 w4 from Hka.out.trans hk4 (fun i hi h => HNC.out i hi h))
      have Hvo4 := Lib.hid (show ∀ b, v'.ownBlock = some b → W.heap.size ≤ b ∧ (b < w2.heap.size ∨ w3.heap.size ≤ b) from fun b e => by
        rcases hv4 b e with h | h
        · exact Hvo.out b h
        · exact ⟨Nat.le_trans Hba.out.size h, .inr (Nat.le_trans Hka.out.size h)⟩)
      have Hst4 := Lib.hid hst4
      clear hst4 hk4 hv4 HAd r0 r1 r2
      rcases Hyc.out with ⟨rfl, hm⟩ | ⟨hy3, hm, hml⟩
      · have Hh := Lib.hid hm
        clear hm
        go_wp2_with fail
        go_ret2
        exact mergeP_of Hh.out Hb4.out
      · have q : (y == 3) = false := by simpa using hy3
        have Hst5 := Lib.hid (show StoreAt 0 w4 g v' mb (mergeT sm rs (rs'.take (j + 1))) ks' from by have h := Hst4.out; rw [hm] at h; exact h)
        have Hml := Lib.hid hml
        clear hm hml hy3
        go_wp2_with fail
        go_roundg (gk - 1)
        case measure => have := Hgk.out; omega
        case rel =>
          have := Hgk.out
          exact ⟨j + 1, v', ks', by omega, by go_num, by omega, Hst5, Hvo4, Hml, Hk4, Hb4⟩
    · obtain rfl : n = j := by omega
      have e : rs'.take n = rs' := List.take_of_length_le (by rw [← Hn.out]; exact Nat.le_refl _)
      have hst := Hst.out
      have hln := Hlen.out
      rw [e] at hst hln
      have hgood : Good sm (mergeT sm rs rs') := mergeT_good (l := rs) rs' rs HG1.out HG2.out.valid HG2.out.small HG2.out.short hln
      have Hh := Lib.hid (show mergeA rs [] rs' [] = (storeT (mergeT sm rs rs'), 0) from by
        unfold mergeA
        rw [if_neg (by simp), if_neg (by simp), if_neg (by omega)])
      obtain ⟨Av, cv, hv⟩ := hst.own.form
      subst hv
      have HX := Lib.hid (text_any hst.row (hst.own.stAt rfl) hst.wrt hgood.short (by omega) (HL.out _ Hb.out).tens)
      clear hst hln hgood e Hst Hlen
      go_wp2_with fail
      (with_reducible refine HX.out.mono ?_)
      rintro e w5 ⟨rfl, hb5⟩
      have Hb5 := Lib.hid (Hb.out.trans (hb5.mono Hb.out.size))
      clear hb5 HX
      go_wp2_with fail
      go_ret2
      exact mergeP_of Hh.out Hb5.out
end KT
end Go.Proofs.YtbiopedpceddeaaGreatDoor
end
