/- Merged: C4KF4, C4OpenL, C4OpenF. -/
import Derived.Test.YtbiopedpceddeaaGreatDoorW31
import Derived.Test.YtbiopedpceddeaaGreatDoorW09
import Derived.Deep.DeepCutAuto
import Derived.Test.YtbiopedpceddeaaGreatDoorW20
import Derived.Stop.LaidErr
import Derived.Shelf.Vars
import Derived.HandedShaped
import Derived.Test.YtbiopedpceddeaaGreatDoorRows
import Derived.JoinedOf
set_option linter.unusedVariables false
set_option linter.unusedSimpArgs false
section
namespace Go.Proofs.YtbiopedpceddeaaGreatDoor
open Go.RowKit Go.Maps Go.Lib
set_option linter.unusedVariables false
set_option linter.unusedSimpArgs false
theorem Kpm.of_belowN {B : Nat} {a b : World} (h : Below B a b) : Kpm (fun i => B ≤ i) a b := ⟨h.os, h.tape, h.output, h.size, fun i _ hm => h.block i (by omega)⟩
namespace KT
/-- what the reading of texts wants of the library's variables -/
structure Lb (W : World) : Prop where
  tens : Tens W
  mlen : MLen W
  e5 : ErrAt W 5
  e6 : ErrAt W 6
theorem Lb.below {W W' : World} (h : Lb W) (hb : Below W.heap.size W W') : Lb W' := ⟨h.tens.below hb, h.mlen.below hb, h.e5.below hb, h.e6.below hb⟩
theorem splitK_mem (c : UInt8) : ∀ (k : Nat) (s x : List UInt8), x ∈ splitK [c] 0 k s → x.length ≤ s.length := by
  intro k
  induction k with
  | zero => intro s x h; rw [splitK, List.mem_singleton] at h; subst h; exact Nat.le_refl _
  | succ k ih =>
    intro s x h
    rw [splitK] at h
    split at h
    · rw [List.mem_singleton] at h; subst h; exact Nat.le_refl _
    · rcases List.mem_cons.1 h with rfl | h
      · exact List.length_take_le' _ _
      · exact Nat.le_trans (ih _ _ h) (by rw [List.length_drop]; omega)
theorem splitK_size (c : UInt8) : ∀ (k : Nat) (s : List UInt8), (splitK [c] 0 k s).length ≤ k + 1 := by
  intro k
  induction k with
  | zero => intro s; simp [splitK]
  | succ k ih =>
    intro s
    rw [splitK]
    split
    · simp
    · have := ih (s.drop ((index s [c]).toNat + [c].length))
      simp only [List.length_cons] at this ⊢
      omega
theorem splitN_len {c : UInt8} {s : List UInt8} {n : Nat} (hn : 1 ≤ n) : (Lib.splitN s [c] n).length ≤ n := by
  have := splitK_size c (min n (s.length + 1) - 1) s
  unfold Lib.splitN
  omega
theorem sl_set {w : World} {b g i n : Nat} {u : Value} {xs : List (List UInt8)} (h : SlAt StrR w (some ⟨b, 0, none⟩) n xs) (hne : b ≠ g) : SlAt StrR (w.setCell ⟨g, i, none⟩ u) (some ⟨b, 0, none⟩) n xs := by
  refine ⟨h.1, h.2.1, fun k x hx => ?_⟩
  obtain ⟨b', off, u', e, hlt, hc, hr⟩ := h.2.2 k x hx
  cases e
  refine ⟨_, _, u', rfl, by simpa using hlt, ?_, hr⟩
  unfold World.cell? at hc ⊢
  rw [RF.set_block hne hlt]
  exact hc
theorem own_of_row {w : World} {g n : Nat} {T : TypeId} {xs : List Value} (h : w.heap[g]? = some (.cells xs.toArray T (0, 0))) (hl : xs.length = n) (hn : n ≤ maxLen) : OwnAt w T 1 (.slice (some ⟨g, 0, none⟩) n n) n xs :=
  ⟨by omega, .inr ⟨g, 0, n, _, rfl, h, Nat.le_refl _, hn, by simp; omega, fun j u hu => by simpa using hu⟩⟩
/-- the numbers so far -/
def numsSo (ws : List (List UInt8)) (n j : Nat) : List Int := (ws.take j).map num ++ List.replicate (n - j) 0
theorem numsSo_set {ws : List (List UInt8)} {n j : Nat} {x : List UInt8} (hx : ws[j]? = some x) (hn : ws.length ≤ n) : (numsSo ws n j).set j (num x) = numsSo ws n (j + 1) := by
  have hj := (List.getElem?_eq_some_iff.1 hx).1
  unfold numsSo
  have e : List.replicate (n - j) (0 : Int) = 0 :: List.replicate (n - (j + 1)) 0 := by
    rw [show n - j = (n - (j + 1)) + 1 by omega, List.replicate_succ]
  rw [List.set_append_right _ _ (by rw [List.length_map, List.length_take]; omega), e, List.length_map, List.length_take, show j - min j ws.length = 0 by omega, List.set_cons_zero, List.take_add_one, hx, List.map_append, List.append_assoc]
  rfl

theorem numsSo_at {ws : List (List UInt8)} {n j : Nat} (hj : j < ws.length) (hn : ws.length ≤ n) : (numsSo ws n j)[j]? = some 0 := by
  unfold numsSo
  rw [List.getElem?_append_right (by rw [List.length_map, List.length_take]; omega), List.length_map, List.length_take, List.getElem?_replicate, if_pos (by omega)]

set_option maxRecDepth 100000 in
set_option maxHeartbeats 4000000 in
theorem parts_any {t : List UInt8} {n : Nat} (ht : t.length ≤ 1000000000) (hn : 1 ≤ n) (hn2 : n ≤ 1000) {W : World} (hL : Lb W) :
    Calls Tryz.prog 77 #[.string ⟨t.toArray⟩, .int .i64 (n : Int)] W fun e w' => ∃ v, e = .returned v ∧ OwnAt w' 3 1 v n ((partsOf t n).map (Value.int .i64)) ∧ Below W.heap.size W w' ∧ ∀ i, v.ownBlock = some i → W.heap.size ≤ i := by
  obtain ⟨W1, hW1⟩ : ∃ W1, W1 = W.alloc (.cells (Array.replicate n (.int .i64 0)) 3) := ⟨_, rfl⟩
  have hb1 : Below W.heap.size W W1 := by rw [hW1]; exact (Below.refl _ _).alloc (Nat.le_refl _) _
  have hr1 : W1.heap[W.heap.size]? = some (.cells ((numsSo [] n 0).map (Value.int .i64)).toArray 3 (0, 0)) := by rw [hW1, heap_alloc_new]; simp [numsSo]
  have hmk := fun (W' : World) => run_make_n (P := Tryz.prog) 60 3 (.int .i64 0) 8 Tryz.underlying60 infoI rfl .i64 .i64 n (n : Int) rfl (by omega) (by omega) W'
  obtain ⟨ws, hws⟩ : ∃ ws, ws = Lib.splitN t [46] n := ⟨_, rfl⟩
  have hml : ws.length ≤ n := by rw [hws]; exact splitN_len hn
  have HC := Lib.hid (SplitN_any (c := 46) ht hn hn2 (hL.below hb1).mlen)
  rw [← hws] at HC
  have Hmem := Lib.hid (show ∀ x ∈ ws, x.length ≤ t.length from fun x hx => by rw [hws] at hx; exact splitK_mem _ _ _ _ hx)
  have HP := Lib.hid (show partsOf t n = numsSo ws n ws.length from by unfold partsOf numsSo; rw [hws, List.take_length])
  have Hs1 := Lib.hid (show W1.heap.size = W.heap.size + 1 from by rw [hW1]; simp)
  have HB1 := Lib.hid hb1
  have Hr1 := Lib.hid hr1
  have HL := Lib.hid (fun X (h : Below W.heap.size W X) => hL.below h)
  have HW1 := Lib.hid hW1
  clear hL hb1 hr1 hws hW1
  go_enter Tryz.func77, Tryz.ntmps77
  go_upto_region 2 with (fail)
  rw [← HW1.out]
  clear hmk
  go_wp2_with fail
  (with_reducible refine HC.out.mono ?_)
  rintro e w2 ⟨cc, rfl, hsl, hb2⟩
  have Hsl := Lib.hid hsl
  have Hb2 := Lib.hid (HB1.out.trans (hb2.mono HB1.out.size))
  have Hr2 := Lib.hid ((hb2.block _ (Array.getElem?_eq_some_iff.1 Hr1.out).1).trans Hr1.out)
  obtain ⟨m, hm⟩ : ∃ m, m = ws.length := ⟨_, rfl⟩
  have Hm := Lib.hid hm
  rw [← hm] at Hsl hml HP ⊢
  clear hsl hb2 HC hm
  go_wp2_with fail
  go_loopg [14] (m + 1) (fun gg s14 wr => ∃ j : Nat, j ≤ m ∧ s14 = .int .i64 (j : Int) ∧ gg + j = m + 1 ∧ Hid (wr.heap[W.heap.size]? = some (.cells ((numsSo ws n j).map (Value.int .i64)).toArray 3 (0, 0))) ∧ Hid (SlAt StrR wr (some ⟨W1.heap.size, 0, none⟩) m ws) ∧ Hid (Below W.heap.size W wr))
  case atStart => exact ⟨0, Nat.zero_le _, rfl, by omega, Lib.hid (by simpa [numsSo] using Hr2.out), Hsl, Hb2⟩
  case round =>
    obtain ⟨j, hj, rfl, hgk, Hr, Hs, Hb⟩ := hrel
    have Hgk := Lib.hid hgk
    clear hgk
    by_cases hjm : j < m
    · obtain ⟨x, b, off, u, hx, hAe, hlt, hc, hu⟩ := Hs.out.at_ hjm
      cases hAe
      have hu : u = .string ⟨x.toArray⟩ := hu
      subst hu
      rw [Nat.zero_add] at hc
      have Hx := Lib.hid hx
      have hxl := Hmem.out x (List.mem_of_getElem? hx)
      have HN := Lib.hid (number_any (t := x) (by omega) (HL.out _ Hb.out).e5 (HL.out _ Hb.out).e6)
      clear hx hlt hxl
      go_wp2_with fail
      (with_reducible refine HN.out.mono ?_)
      rintro e w3 ⟨rfl, hb3⟩
      have Hb3 := Lib.hid (Hb.out.trans (hb3.mono Hb.out.size))
      have hr3 := (hb3.block _ (Array.getElem?_eq_some_iff.1 Hr.out).1).trans Hr.out
      have Hr3 := Lib.hid hr3
      have Hs3 := Lib.hid (Hs.out.below monoStr hb3)
      have nf := frozen_row hr3 j
      have nc : w3.cell? ⟨W.heap.size, j, none⟩ = some (.int .i64 0) := by
        rw [cell_of_row _ _ _ _ _ (0, 0) hr3]
        have h1 := numsSo_at (ws := ws) (n := n) (j := j) (by have := Hm.out; omega) (by have := Hm.out; omega)
        simp only [List.getElem?_toArray, List.getElem?_map, h1, Option.map_some]
      clear hc HN hb3 hr3
      go_wp2_with fail
      go_roundg (gk - 1)
      case measure => have := Hgk.out; omega
      case rel =>
        have := Hgk.out
        have hs1 := Hs1.out
        refine ⟨j + 1, by omega, by go_num, by omega, Lib.hid ?_, Lib.hid (sl_set Hs3.out (by omega)), Lib.hid (Hb3.out.setCell (p := ⟨W.heap.size, j, none⟩) (Nat.le_refl _) _)⟩
        rw [heap_setCell_same _ _ _ _ _ _ Hr3.out, ← numsSo_set Hx.out (by have := Hm.out; omega), List.map_set]
        simp
    · obtain rfl : j = m := by omega
      go_wp2
      go_ret
      refine ⟨_, rfl, ?_, Hb.out, fun i hi => by simp [Value.ownBlock] at hi; omega⟩
      rw [HP.out]
      refine own_of_row Hr.out ?_ (by simp only [maxLen]; omega)
      rw [List.length_map]
      unfold numsSo
      rw [List.length_append, List.length_map, List.length_take, List.length_replicate]
      have := Hm.out
      omega

theorem cells5f {w : World} {g : Nat} {T : TypeId} {a0 a1 a2 a3 a4 : Value} (h : w.heap[g]? = some (.cells #[a0, a1, a2, a3, a4] T (0, 0))) : w.cell? ⟨g, 0, none⟩ = some a0 ∧ w.cell? ⟨g, 1, none⟩ = some a1 ∧ w.cell? ⟨g, 2, none⟩ = some a2 ∧ w.cell? ⟨g, 3, none⟩ = some a3 ∧ w.cell? ⟨g, 4, none⟩ = some a4 ∧ ∀ k, w.frozen? ⟨g, k, none⟩ = false := by
  refine ⟨?_, ?_, ?_, ?_, ?_, fun k => frozen_row h k⟩
  all_goals rw [cell_of_row _ _ _ _ _ (0, 0) h]; rfl
def set5 (w : World) (g : Nat) (a0 a1 a2 a3 a4 : Value) : World := ((((w.setCell ⟨g, 0, none⟩ a0).setCell ⟨g, 1, none⟩ a1).setCell ⟨g, 2, none⟩ a2).setCell ⟨g, 3, none⟩ a3).setCell ⟨g, 4, none⟩ a4
theorem set5_row {w : World} {g : Nat} {T : TypeId} {b0 b1 b2 b3 b4 : Value} (a0 a1 a2 a3 a4 : Value) (h : w.heap[g]? = some (.cells #[b0, b1, b2, b3, b4] T (0, 0))) : (set5 w g a0 a1 a2 a3 a4).heap[g]? = some (.cells #[a0, a1, a2, a3, a4] T (0, 0)) :=
  heap_setCell_same _ g 4 _ _ a4 (heap_setCell_same _ g 3 _ _ a3 (heap_setCell_same _ g 2 _ _ a2 (heap_setCell_same _ g 1 _ _ a1 (heap_setCell_same w g 0 _ _ a0 h))))
theorem set5_below {B : Nat} {W w : World} {g : Nat} (a0 a1 a2 a3 a4 : Value) (h : Below B W w) (hg : B ≤ g) : Below B W (set5 w g a0 a1 a2 a3 a4) :=
  ((((h.setCell (p := ⟨g, 0, none⟩) hg _).setCell (p := ⟨g, 1, none⟩) hg _).setCell (p := ⟨g, 2, none⟩) hg _).setCell (p := ⟨g, 3, none⟩) hg _).setCell (p := ⟨g, 4, none⟩) hg _
theorem own_cell {w : World} {A : Option Addr} {c n : Nat} {l : List Int} (h : OwnAt w 3 1 (.slice A n c) n (l.map (Value.int .i64))) {j : Nat} {x : Int} (hx : l[j]? = some x) : ∃ g off, A = some ⟨g, off, none⟩ ∧ w.cell? ⟨g, off + j, none⟩ = some (.int .i64 x) := by
  have hj := (List.getElem?_eq_some_iff.1 hx).1
  have hl := h.1
  rw [List.length_map] at hl
  rcases h.2 with ⟨e, h0⟩ | ⟨g, off, cap, cur, e, hg, q1, q2, q3, q4⟩
  · omega
  · cases e
    refine ⟨g, off, rfl, ?_⟩
    rw [cell_of_row _ _ _ _ _ (0, 0) hg]
    exact q4 j _ (by simp [hx])
theorem own_cellr {w : World} {A : Option Addr} {c n : Nat} {l : List Int} (h : OwnAt w 3 1 (.slice A n c) n (l.map (Value.int .i64))) {j : Nat} {x : Int} (hx : l[j]? = some x) : ∃ g off, A = some ⟨g, off, none⟩ ∧ w.cell? ⟨g, off + j, none⟩ = some (.int .i64 x) ∧ ∃ cur, w.heap[g]? = some (.cells cur 3 (0, 0)) := by
  have hj := (List.getElem?_eq_some_iff.1 hx).1
  have hl := h.1
  rw [List.length_map] at hl
  rcases h.2 with ⟨e, h0⟩ | ⟨g, off, cap, cur, e, hg, q1, q2, q3, q4⟩
  · omega
  · cases e
    refine ⟨g, off, rfl, ?_, cur, hg⟩
    rw [cell_of_row _ _ _ _ _ (0, 0) hg]
    exact q4 j _ (by simp [hx])
theorem partsOf_len {s : List UInt8} {n : Nat} (hn : 1 ≤ n) : (partsOf s n).length = n := by
  have := splitN_len (c := 46) (s := s) hn
  unfold partsOf
  rw [List.length_append, List.length_map, List.length_replicate]
  omega
theorem getD_some {l : List Int} {i : Nat} (h : i < l.length) : l[i]? = some (l.getD i 0) := by
  rw [List.getD_eq_getElem?_getD, List.getElem?_eq_getElem h]
  rfl

/-- a node in new memory -/
def NodePost (W : World) (x : T.Nd) (e : Ending) (w' : World) : Prop :=
  ∃ A c, e = .returned (.agg #[.int .i64 x.op, .int .i64 x.w, .int .i64 x.fl, .slice A x.args.length c, .int .u32 x.imm]) ∧ NdF W.heap.size w' (ndC x A c) x ∧ Below W.heap.size W w'

set_option maxRecDepth 100000 in
set_option maxHeartbeats 8000000 in
theorem node_any {t : List UInt8} (ht : t.length ≤ 900000) {W : World} (hL : Lb W) :
    Calls Tryz.prog 137 #[.string ⟨t.toArray⟩] W (NodePost W (nodeOf t)) := by
  obtain ⟨W1, hW1⟩ : ∃ W1, W1 = W.alloc (.cells #[.int .i64 0, .int .i64 0, .int .i64 0, .slice none 0 0, .int .u32 0] 62) := ⟨_, rfl⟩
  have hb1 : Below W.heap.size W W1 := by rw [hW1]; exact (Below.refl _ _).alloc (Nat.le_refl _) _
  have hr1 : W1.heap[W.heap.size]? = some (.cells #[.int .i64 0, .int .i64 0, .int .i64 0, .slice none 0 0, .int .u32 0] 62 (0, 0)) := by rw [hW1]; exact heap_alloc_new W _
  have HC := Lib.hid (Cut_any (s := t) (c := 44) (by omega) (hL.below hb1).mlen)
  obtain ⟨hd, hhd⟩ : ∃ hd, hd = (Lib.cut t [44]).1 := ⟨_, rfl⟩
  obtain ⟨ar, har⟩ : ∃ ar, ar = (Lib.cut t [44]).2.1 := ⟨_, rfl⟩
  obtain ⟨hs, hhs⟩ : ∃ hs, hs = (Lib.cut t [44]).2.2 := ⟨_, rfl⟩
  have hlen : hd.length ≤ t.length ∧ ar.length ≤ t.length := by
    rw [hhd, har]
    rcases cut_cases 44 t with ⟨_, e⟩ | ⟨x, A, e1, _, e⟩
    · rw [e]; simp
    · rw [e, e1]; simp; omega
  rw [← hhd, ← har, ← hhs] at HC
  have HX := Lib.hid (show nodeOf t = { op := (partsOf hd 4).getD 0 0, w := (partsOf hd 4).getD 1 0, fl := (partsOf hd 4).getD 2 0, imm := (partsOf hd 4).getD 3 0, args := if hs = true then (Lib.split ar [44]).map num else [] } from by unfold nodeOf; rw [hhd, har, hhs])
  have HL := Lib.hid (fun X (h : Below W.heap.size W X) => hL.below h)
  have HB1 := Lib.hid hb1
  have Hr1 := Lib.hid hr1
  have HW1 := Lib.hid hW1
  have Hl1 := Lib.hid hlen.1
  have Hl2 := Lib.hid hlen.2
  clear hL hb1 hr1 hW1 hhd har hhs hlen
  go_enter Tryz.func137, Tryz.ntmps137
  go_upto_region 1 with (fail)
  rw [← HW1.out]
  go_wp2_with fail
  (with_reducible refine HC.out.mono ?_)
  rintro e w2 ⟨rfl, hdr⟩
  have Hb2 := Lib.hid (HB1.out.trans (hdr.below _))
  have HN := Lib.hid (show Calls Tryz.prog 77 #[.string ⟨hd.toArray⟩, .int .i64 4] w2 fun e w' => ∃ v, e = .returned v ∧ OwnAt w' 3 1 v 4 ((partsOf hd 4).map (Value.int .i64)) ∧ Below w2.heap.size w2 w' ∧ ∀ i, v.ownBlock = some i → w2.heap.size ≤ i from parts_any (t := hd) (n := 4) (by have := Hl1.out; omega) (by omega) (by omega) (HL.out _ Hb2.out))
  have Hr2 := Lib.hid (((hdr.below (W.heap.size + 1)).block _ (by omega)).trans Hr1.out)
  clear hdr HC
  go_wp2_with fail
  (with_reducible refine HN.out.mono ?_)
  rintro e w3 ⟨v, rfl, hown, hb3, hnw⟩
  obtain ⟨Av, cv, ev⟩ := hown.form
  subst ev
  obtain ⟨a0, ha0⟩ : ∃ a, a = (partsOf hd 4).getD 0 0 := ⟨_, rfl⟩
  obtain ⟨a1, ha1⟩ : ∃ a, a = (partsOf hd 4).getD 1 0 := ⟨_, rfl⟩
  obtain ⟨a2, ha2⟩ : ∃ a, a = (partsOf hd 4).getD 2 0 := ⟨_, rfl⟩
  obtain ⟨a3, ha3⟩ : ∃ a, a = (partsOf hd 4).getD 3 0 := ⟨_, rfl⟩
  have hpl := partsOf_len (s := hd) (n := 4) (by omega)
  obtain ⟨gv, ov, rfl, k0⟩ := own_cell hown (getD_some (show 0 < _ by omega))
  obtain ⟨_, _, e, k1⟩ := own_cell hown (getD_some (show 1 < _ by omega))
  cases e
  obtain ⟨_, _, e, k2⟩ := own_cell hown (getD_some (show 2 < _ by omega))
  cases e
  obtain ⟨_, _, e, k3⟩ := own_cell hown (getD_some (show 3 < _ by omega))
  cases e
  have ha3r := parts_u hd 4 3
  rw [← ha0] at k0
  rw [← ha1] at k1
  rw [← ha2] at k2
  rw [← ha3] at k3 ha3r
  have Hb3 := Lib.hid (Hb2.out.trans (hb3.mono Hb2.out.size))
  have Hr3 := Lib.hid ((hb3.block _ (Array.getElem?_eq_some_iff.1 Hr2.out).1).trans Hr2.out)
  have hwr : IntKind.u32.wrap a3 = a3 := by rw [IntKind.wrap_u32]; have := ha3r.1; have := ha3r.2; omega
  rw [← ha0, ← ha1, ← ha2, ← ha3] at HX
  have Hu3 := Lib.hid ha3r
  simp only [Nat.add_zero] at k0
  clear hown hb3 hnw hpl ha0 ha1 ha2 ha3 HN ha3r
  go_wp2_with fail
  refine wp_region_fr 14 1 (.cells #[.int .i64 0, .int .i64 0, .int .i64 0, .slice none 0 0, .int .u32 0] 62) ?af (by kernel_rfl) (by kernel_rfl) (by kernel_rfl) (by kernel_rfl) ?_ ?_ ?_
  rotate_left
  · intro i h1 h2
    obtain rfl : i = 14 := by omega
    exact ⟨_, rfl, rfl, fun ρ w => by go_simp⟩
  · intro X hX ov
    have c0 := ov.cell ((hX.cell (p := ⟨_, _, none⟩) (cell_below k0)).trans k0)
    have c1 := ov.cell ((hX.cell (p := ⟨_, _, none⟩) (cell_below k1)).trans k1)
    have c2 := ov.cell ((hX.cell (p := ⟨_, _, none⟩) (cell_below k2)).trans k2)
    have c3 := ov.cell ((hX.cell (p := ⟨_, _, none⟩) (cell_below k3)).trans k3)
    simp only [Nat.reduceAdd, List.take_succ_cons, List.take_zero]
    repeat (go_big_quiet_step (fail))
    refine wpQuiet_nil ?_
    rfl
  intro g w5 hb5 hrow hne
  obtain ⟨hg1, r1⟩ := hrow 14 (by omega) (by omega)
  simp only [List.range, List.range.loop, List.foldl_cons, List.foldl_nil, Nat.reduceAdd, Nat.add_zero]
  clear hrow hne
  generalize g 14 = gx at *
  obtain ⟨p0, p1, p2, p3, p4, pf⟩ := cells5f r1
  have pf0 := pf 0
  have pf1 := pf 1
  have pf2 := pf 2
  have pf3 := pf 3
  have pf4 := pf 4
  clear pf g k0 k1 k2 k3
  simp only [Nat.reduceAdd, List.drop_succ_cons, List.drop_zero, Rg.dst, Act.put]
  obtain ⟨w7, hw7⟩ : ∃ w7, w7 = set5 w5 gx (.int .i64 a0) (.int .i64 a1) (.int .i64 a2) (.slice none 0 0) (.int .u32 a3) := ⟨_, rfl⟩
  have Hgx := Lib.hid hg1
  have Hrx := Lib.hid (show w7.heap[gx]? = some (.cells #[.int .i64 a0, .int .i64 a1, .int .i64 a2, .slice none 0 0, .int .u32 a3] 62 (0, 0)) from by rw [hw7]; exact set5_row _ _ _ _ _ r1)
  have Hb7 := Lib.hid (show Below (w3).heap.size (w3) w7 from by rw [hw7]; exact set5_below _ _ _ _ _ hb5 hg1)
  clear hg1 r1 hb5
  unfold set5 at hw7
  go_upto_region 4 with (fail)
  rw [← hw7]
  clear hw7 p0 p1 p2 p3 p4 pf0 pf1 pf2 pf3 pf4
  have Hbx := Lib.hid (Hb3.out.trans (Hb7.out.mono Hb3.out.size))
  have Hr7' := Lib.hid ((Hb7.out.block _ (Array.getElem?_eq_some_iff.1 Hr3.out).1).trans Hr3.out)
  have Hfin := Lib.hid (show ∀ (args : List Int) (X : World) (A : Option Addr) (c : Nat), nodeOf t = ⟨a0, a1, a2, args, a3⟩ → X.heap[W.heap.size]? = some (.cells #[.int .i64 0, .int .i64 0, .int .i64 0, .slice none 0 0, .int .u32 0] 62 (0, 0)) → Below W.heap.size W X → OwnAt X 3 1 (.slice A args.length c) args.length (args.map (Value.int .i64)) → (∀ g, (Value.slice A args.length c).ownBlock = some g → W.heap.size + 1 ≤ g) →
      (set5 X W.heap.size (.int .i64 a0) (.int .i64 a1) (.int .i64 a2) (.slice A args.length c) (.int .u32 a3)).heap[W.heap.size]? = some (.cells #[.int .i64 a0, .int .i64 a1, .int .i64 a2, .slice A args.length c, .int .u32 a3] 62 (0, 0)) ∧ NodePost W (nodeOf t) (.returned (.agg #[.int .i64 a0, .int .i64 a1, .int .i64 a2, .slice A args.length c, .int .u32 a3])) (set5 X W.heap.size (.int .i64 a0) (.int .i64 a1) (.int .i64 a2) (.slice A args.length c) (.int .u32 a3)) from fun args X A c e hr hb ho hv => by
    refine ⟨set5_row _ _ _ _ _ hr, ?_⟩
    rw [e]
    refine ⟨A, c, rfl, ⟨A, c, rfl, ?_, Hu3.out.1, Hu3.out.2, fun g hg => by have := hv g hg; omega⟩, set5_below _ _ _ _ _ hb (Nat.le_refl _)⟩
    have key : ∀ k, (Value.slice A args.length c).ownBlock = some k → k ≠ W.heap.size := fun k hk => by have := hv k hk; omega
    unfold set5
    exact ((((ho.setCell (p := ⟨W.heap.size, 0, none⟩) (fun h => key _ h rfl) _).setCell (p := ⟨W.heap.size, 1, none⟩) (fun h => key _ h rfl) _).setCell (p := ⟨W.heap.size, 2, none⟩) (fun h => key _ h rfl) _).setCell (p := ⟨W.heap.size, 3, none⟩) (fun h => key _ h rfl) _).setCell (p := ⟨W.heap.size, 4, none⟩) (fun h => key _ h rfl) _)
  have Hgl7 := Lib.hid (Array.getElem?_eq_some_iff.1 Hrx.out).1
  have Hgw := Lib.hid (show W.heap.size < gx from by have h1 := Hgx.out; have h2 := (Array.getElem?_eq_some_iff.1 Hr3.out).1; omega)
  by_cases hhs : hs = true
  rotate_left
  · have q : hs = false := by simpa using hhs
    subst q
    have HX2 := Lib.hid (show nodeOf t = ⟨a0, a1, a2, [], a3⟩ from by rw [HX.out]; rfl)
    obtain ⟨p0, p1, p2, p3, p4⟩ := cells5' Hrx.out
    obtain ⟨z0, z1, z2, z3, z4, zf⟩ := cells5f Hr7'.out
    have zf0 := zf 0
    have zf1 := zf 1
    have zf2 := zf 2
    have zf3 := zf 3
    have zf4 := zf 4
    clear zf hhs
    go_wp2_with fail
    obtain ⟨f1, f2⟩ := Hfin.out [] w7 none 0 HX2.out Hr7'.out Hbx.out (OwnAt.nil_ _ _ _) (fun g hg => by simp [Value.ownBlock] at hg)
    (try simp only [Exit.inBlock, Exit.then])
    refine bodyPost_ret (results_cell_row rfl _ _ W.heap.size _ _ (0, 0) _ rfl f1 Tryz.underlying62 rfl (by kernel_rfl)) rfl ?_
    exact f2
  subst hhs
  obtain ⟨ws, hws⟩ : ∃ ws, ws = Lib.split ar [44] := ⟨_, rfl⟩
  have HX2 := Lib.hid (show nodeOf t = ⟨a0, a1, a2, ws.map num, a3⟩ from by rw [HX.out, if_pos rfl, hws])
  have HS := Lib.hid (Split_row (s := ar) (c := 44) (by have := Hl2.out; omega) (HL.out _ Hbx.out).mlen)
  rw [← hws] at HS
  have Hwl := Lib.hid (show ws.length ≤ 900001 from by rw [hws]; have := Hl2.out; have := split_size (c := 44) (s := ar); omega)
  have Hwm := Lib.hid (show ∀ x ∈ ws, x.length ≤ 900000 from fun x hx => by rw [hws] at hx; have := Hl2.out; have := splitK_mem _ _ _ _ hx; omega)
  clear hws
  go_wp2_with fail
  (with_reducible refine HS.out.mono ?_)
  rintro e w8 ⟨rfl, hrw, hb8⟩
  have Hrw := Lib.hid hrw
  have Hb8 := Lib.hid (Hbx.out.trans (hb8.mono Hbx.out.size))
  have Hr8 := Lib.hid ((hb8.block _ (Array.getElem?_eq_some_iff.1 Hr7'.out).1).trans Hr7'.out)
  have Hx8 := Lib.hid ((hb8.block _ Hgl7.out).trans Hrx.out)
  obtain ⟨m, hm⟩ : ∃ m, m = ws.length := ⟨_, rfl⟩
  have Hm := Lib.hid hm
  obtain ⟨gw, hgw⟩ : ∃ gw, gw = w7.heap.size := ⟨_, rfl⟩
  have Hgx8 := Lib.hid (show gx < gw from by rw [hgw]; exact Hgl7.out)
  have hml : m ≤ 900001 := by rw [hm]; exact Hwl.out
  rw [← hgw] at Hrw ⊢
  rw [← hm]
  obtain ⟨w7', rfl⟩ : ∃ w, w = w7 := ⟨_, rfl⟩
  clear hrw hb8 HS hgw Hb7 Hgl7 Hrx hm
  obtain ⟨w7, hw78⟩ : ∃ w, w = w8 := ⟨_, rfl⟩
  subst hw78
  have Hgl := Lib.hid (Array.getElem?_eq_some_iff.1 Hx8.out).1
  go_wp2_with fail
  go_loopg [36] (m + 1) (fun gg s36 wr => ∃ (jj : Nat) (va : Value), jj ≤ m ∧ s36 = .int .i64 (jj : Int) ∧ gg + jj = m + 1 ∧ Hid (wr.heap[gx]? = some (.cells #[.int .i64 a0, .int .i64 a1, .int .i64 a2, va, .int .u32 a3] 62 (0, 0))) ∧ Hid (OwnAt wr 3 1 va jj (((ws.take jj).map num).map (Value.int .i64))) ∧ Hid (∀ g, va.ownBlock = some g → w7.heap.size ≤ g) ∧ Hid (Kpm (fun i => i = gx) w7 wr))
  case atStart => exact ⟨0, _, Nat.zero_le _, rfl, by omega, Hx8, Lib.hid (OwnAt.nil_ _ _ _), Lib.hid (fun g hg => by simp [Value.ownBlock] at hg), Lib.hid (Kpm.refl _ _)⟩
  case round =>
    obtain ⟨jj, va, hj, rfl, hgk, Hrow, Ho, Hvo, Hkp⟩ := hrel
    have Hgk := Lib.hid hgk
    clear hgk
    obtain ⟨Ax, cx, hv⟩ := Ho.out.form
    subst hv
    have Hsz := Lib.hid Hkp.out.size
    have hrw := (Hkp.out.block gw (Array.getElem?_eq_some_iff.1 Hrw.out).1 (by have := Hgx8.out; omega)).trans Hrw.out
    have Hbr := Lib.hid (show Below W.heap.size W wr from Hb8.out.trans (Hkp.out.below Hb8.out.size (fun i (hi : i = gx) => by have := Hgw.out; omega)))
    by_cases hjm : jj < m
    · have hx := List.getElem?_eq_getElem (show jj < ws.length by have := Hm.out; omega)
      obtain ⟨x, hxe⟩ : ∃ x, x = ws[jj]'(by have := Hm.out; omega) := ⟨_, rfl⟩
      rw [← hxe] at hx
      have hc : wr.cell? ⟨gw, jj, none⟩ = some (.string ⟨x.toArray⟩) := by
        rw [cell_of_row _ _ _ _ _ (0, 0) hrw]
        simp [ss, hx]
      have Hx := Lib.hid hx
      have Hxl := Lib.hid (Hwm.out x (List.mem_of_getElem? hx))
      have HN := Lib.hid (show ∀ Y, Below wr.heap.size wr Y → Calls Tryz.prog 139 #[.string ⟨x.toArray⟩] Y fun e w' => e = .returned (.int .i64 (num x)) ∧ Below Y.heap.size Y w' from fun Y hY => number_any (t := x) (by have := Hxl.out; omega) (HL.out _ (Hbr.out.trans (hY.mono Hbr.out.size))).e5 (HL.out _ (Hbr.out.trans (hY.mono Hbr.out.size))).e6)
      have HS := Lib.hid (show ∀ Y, Below w7.heap.size wr Y → Y.cell? ⟨gx, 3, none⟩ = some (.slice Ax jj cx) from fun Y hY => by
        obtain ⟨_, _, _, n3, _⟩ := cells5' ((hY.block gx Hgl.out).trans Hrow.out)
        exact n3)
      have hjb : jj + 1 ≤ 1000000000 := by omega
      clear hrw hx hxe
      go_wp2_with fail
      clear hc
      refine wp_region_split 7 (by kernel_rfl) (by kernel_rfl) ?_
      simp only [List.take_succ_cons, List.take_zero]
      refine wpAny_of_held (S := fun Y => Y.cell? ⟨gx, 3, none⟩ = some (.slice Ax jj cx)) _ _ _ _ ?_
      have hHeld := HS.out wr.drew (Below.refl _ _).drew
      refine wpAnyH_take (i := 0) (oi := _) (v := ?_) rfl (by kernel_rfl) (by kernel_rfl) (by kernel_rfl) (fun _ _ _ h => h) (Or.inl ⟨by rfl, fun Y hY => ?_⟩) hHeld ?_
      rotate_left
      · (go_simp) <;> with_reducible rfl
      try simp only [Act.put, List.setIfInBounds_toArray, List.set_cons_zero, List.set_cons_succ, List.getElem_toArray, List.getElem_cons_succ, List.getElem_cons_zero]
      refine wpAnyH_take (i := 1) (oi := _) (v := ?_) rfl (by kernel_rfl) (by kernel_rfl) (by kernel_rfl) (fun _ _ _ h => h) (Or.inl ⟨by rfl, fun Y hY => ?_⟩) hHeld ?_
      rotate_left
      · (go_simp) <;> with_reducible rfl
      try simp only [Act.put, List.setIfInBounds_toArray, List.set_cons_zero, List.set_cons_succ, List.getElem_toArray, List.getElem_cons_succ, List.getElem_cons_zero]
      refine wpAnyH_take (i := 2) (oi := _) (v := ?_) rfl (by kernel_rfl) (by kernel_rfl) (by kernel_rfl) (fun _ _ _ h => h) (Or.inl ⟨by rfl, fun Y hY => ?_⟩) hHeld ?_
      rotate_left
      · (go_simp) <;> with_reducible rfl
      try simp only [Act.put, List.setIfInBounds_toArray, List.set_cons_zero, List.set_cons_succ, List.getElem_toArray, List.getElem_cons_succ, List.getElem_cons_zero]
      refine wpAnyH_ready (rs := [3]) (by kernel_rfl) (by simp) ?_
      refine AllReadyH.cons (o := _) rfl (fun KK hKK => ?_) AllReadyH.nil
      clear hHeld
      go_simp
      (with_reducible refine (HN.out _ (Below.refl _ _).drew).mono ?_)
      rintro e x1 ⟨rfl, hb1⟩
      have Hx1 := Lib.hid (show Below wr.heap.size wr x1 from (Below.refl _ _).drew.trans hb1)
      clear hb1
      refine hKK.out _ _ (HS.out _ (Hx1.out.mono Hsz.out)) (fun hHeld => ?_)
      clear hKK KK
      try simp only [Act.put, List.setIfInBounds_toArray, List.set_cons_zero, List.set_cons_succ, List.getElem_toArray, List.getElem_cons_succ, List.getElem_cons_zero]
      refine wpAnyH_ready (rs := [4]) (by kernel_rfl) (by simp) ?_
      refine AllReadyH.cons (o := _) rfl (fun KK hKK => ?_) AllReadyH.nil
      clear hHeld
      go_simp
      obtain ⟨x2, hx2⟩ : ∃ x2, x2 = x1.alloc (.cells #[.int .i64 (num x)] 3) := ⟨_, rfl⟩
      first | rw [← hx2] | (simp only [← hx2])
      have Hx2 := Lib.hid (show Below wr.heap.size wr x2 from by rw [hx2]; exact Hx1.out.alloc Hx1.out.size _)
      have Hsz2 := Lib.hid (show x2.heap.size = x1.heap.size + 1 from by rw [hx2]; simp)
      have Hsrc := Lib.hid (show ∀ q u, [Value.int .i64 (num x)][q]? = some u → ∃ ad : Addr, (some (⟨x1.heap.size, 0, none⟩ : Addr)) = some ad ∧ x2.cell? (ad.add q) = some u from by rw [hx2]; exact fun q u hq => ⟨_, rfl, cell_one_new x1 _ _ q u hq⟩)
      clear hx2
      refine hKK.out _ _ (HS.out _ (Hx2.out.mono Hsz.out)) (fun hHeld => ?_)
      clear hKK KK
      try simp only [Act.put, List.setIfInBounds_toArray, List.set_cons_zero, List.set_cons_succ, List.getElem_toArray, List.getElem_cons_succ, List.getElem_cons_zero]
      refine wpAnyH_ready (rs := [5]) (by kernel_rfl) (by simp) ?_
      refine AllReadyH.cons (o := _) rfl (fun KK hKK => ?_) AllReadyH.nil
      clear hHeld
      refine step_append_src x2 rfl (.tmp 41) (.tmp 44) 60 rfl 3 (.int .i64 0) 1 8 Tryz.underlying60 infoI rfl (by decide) (.slice Ax jj cx) jj _ rfl (Ho.out.below Hx2.out Ho.out.lt) (some ⟨x1.heap.size, 0, none⟩) 1 1 [.int .i64 (num x)] rfl rfl Hsrc.out (by simp; rfl) hjb (by decide) ?_
      intro v6 w6 hown6 hgr6 hat6
      have Hb6 := Lib.hid (show Below w7.heap.size wr w6 from (Hx2.out.mono Hsz.out).grown hgr6 (Nat.le_trans Hsz.out Hx2.out.size) Hvo.out)
      refine hKK.out _ _ (HS.out w6 Hb6.out) (fun hHeld => ?_)
      clear hKK KK
      try simp only [Act.put, List.setIfInBounds_toArray, List.set_cons_zero, List.set_cons_succ, List.getElem_toArray, List.getElem_cons_succ, List.getElem_cons_zero]
      obtain ⟨A6, c6, rfl⟩ := hown6.form
      have Hv6 := Lib.hid (show ∀ g, (Value.slice A6 (jj + 1) c6).ownBlock = some g → w7.heap.size ≤ g from fun g hg => by
        rcases hat6 with e | e
        · rw [e] at hg; exact Hvo.out g hg
        · rw [e] at hg
          injection hg with hg
          have h1 := Hsz.out
          have h2 := Hx2.out.size
          omega)
      have hr6 := (Hb6.out.block gx Hgl.out).trans Hrow.out
      obtain ⟨_, _, _, n3, _, nf⟩ := cells5f hr6
      have nf3 := nf 3
      have Hr7 := Lib.hid (show (w6.setCell ⟨gx, 3, none⟩ (.slice A6 (jj + 1) c6)).heap[gx]? = some (.cells #[.int .i64 a0, .int .i64 a1, .int .i64 a2, .slice A6 (jj + 1) c6, .int .u32 a3] 62 (0, 0)) from by
        have := heap_setCell_same w6 gx 3 _ _ (.slice A6 (jj + 1) c6) hr6
        rw [this]
        rfl)
      have Hown7 := Lib.hid (hown6.setCell (p := ⟨gx, 3, none⟩) (fun e => by have h1 : w7.heap.size ≤ gx := Hv6.out _ e; have h2 := Hgl.out; omega) (.slice A6 (jj + 1) c6))
      have Hk7 := Lib.hid (show Kpm (fun i => i = gx) w7 (w6.setCell ⟨gx, 3, none⟩ (.slice A6 (jj + 1) c6)) from (Hkp.out.trans (Kpm.of_belowN Hb6.out) (fun i hi (h : w7.heap.size ≤ i) => by omega)).setCell (p := ⟨gx, 3, none⟩) (fun _ => rfl) _)
      clear hr6 nf hat6 hown6 hgr6
      refine wpAnyH_take (i := 6) (oi := _) (v := ?_) rfl (by kernel_rfl) (by kernel_rfl) (by kernel_rfl) (fun _ _ _ h => h) (Or.inl ⟨by rfl, fun Y hY => ?_⟩) hHeld ?_
      rotate_left
      · (go_simp) <;> with_reducible rfl
      try simp only [Act.put, List.setIfInBounds_toArray, List.set_cons_zero, List.set_cons_succ, List.getElem_toArray, List.getElem_cons_succ, List.getElem_cons_zero]
      refine wpAnyH_done (by kernel_rfl) ?_ _
      clear hHeld
      go_wp2
      go_roundg (gk - 1)
      case measure => have := Hgk.out; omega
      case rel =>
        have := Hgk.out
        refine ⟨jj + 1, .slice A6 (jj + 1) c6, by omega, by go_num, by omega, Hr7, Lib.hid ?_, Hv6, Hk7⟩
        have h := Hown7.out
        rw [List.take_add_one, Hx.out, List.map_append, List.map_append]
        simpa using h
    · obtain rfl : jj = m := by omega
      have hx2 := HX2.out
      have hown : OwnAt wr 3 1 (.slice Ax (ws.map num).length cx) (ws.map num).length ((ws.map num).map (Value.int .i64)) := by
        have h := Ho.out
        rw [List.take_of_length_le (by have := Hm.out; omega)] at h
        rw [List.length_map, ← Hm.out]
        exact h
      have hr9 := (Hkp.out.block W.heap.size (Array.getElem?_eq_some_iff.1 Hr8.out).1 (by have := Hgw.out; omega)).trans Hr8.out
      obtain ⟨f1, f2⟩ := Hfin.out (ws.map num) wr Ax cx hx2 hr9 Hbr.out hown (fun g hg => by
        have h1 := Hvo.out g (by rw [List.length_map, ← Hm.out] at hg; exact hg)
        have h2 := (Array.getElem?_eq_some_iff.1 Hr8.out).1
        omega)
      rw [List.length_map, ← Hm.out] at f1 f2
      have F1 := Lib.hid f1
      have F2 := Lib.hid f2
      obtain ⟨p0, p1, p2, p3, p4⟩ := cells5' Hrow.out
      obtain ⟨z0, z1, z2, z3, z4, zf⟩ := cells5f hr9
      have zf0 := zf 0
      have zf1 := zf 1
      have zf2 := zf 2
      have zf3 := zf 3
      have zf4 := zf 4
      clear zf hx2 hown hr9 f1 f2 hrw
      go_wp2_with fail
      (try simp only [Exit.inBlock, Exit.then])
      refine bodyPost_ret (results_cell_row rfl _ _ W.heap.size _ _ (0, 0) _ rfl F1.out Tryz.underlying62 rfl (by kernel_rfl)) rfl ?_
      exact F2.out
end KT
end Go.Proofs.YtbiopedpceddeaaGreatDoor
end
section
namespace Go.Proofs.YtbiopedpceddeaaGreatDoor
open Go.ChangeShapes Go.WideShapes Go.ChangeAt Go.RowKit Go.Deep
set_option linter.unusedVariables false
set_option linter.unusedSimpArgs false
namespace KT
variable {H : Type} {enc : TypeId × Value → H}
/-- the wrap with a condition on the world, the world's shape kept -/
theorem handed_and_shaped {a : Assume} {C : Checked} {os : Os} {f : FuncId} {fn : Func} {s : ChangeSpec} {conds : List PathCond} {apart fresh handsOn again : Bool} {X : World → Array Value → Prop}
    (hX : ∀ (w w' : World) (args : Array Value), w.heap = w'.heap → X w args → X w' args)
    (own : ownKnob C.prog.godebug = none) (started : os.Started) (noInit : C.prog.inits.idxOf? f = none) (hfn : C.prog.funcs[f]? = some fn)
    (witness : ∃ (w : World) (tape : Tape) (i : Input), w.os = os ∧ (w.forCall tape i).Shaped C.prog ∧ i.vars = [] ∧ Input.okWide C.prog (w.forCall tape i) .any w.heap.size f i ∧
      ((s.pre enc C.prog fn conds apart (w.forCall tape i).memory i.args ∧ X (w.forCall tape i).memory i.args) ∧ sizedMet enc C.prog fn (OpenSpec.ofChange s) apart (w.forCall tape i).memory i.args) ∧ a.holds C.prog (lone (Frame.enter C.prog f i.args .normal) [] (w.forCall tape i)))
    (contract : ∀ (W : World) (base : Nat) (args : Array Value) (ds gs : List (DataW H)) (before : List MemPlace),
      (∀ (j : Nat) t v, fn.params[j]? = some t → args[j]? = some v → Value.okWide C.prog W .any base t v) →
      DataW.Whole enc C.prog fn.params.toList s.vars apart W args.toList ds gs before → X W args → W.ShapedOpen C.prog →
      Calls C.prog f args W fun e W' => ∃ v, e = .returned v ∧ s.post enc C.prog fn apart fresh handsOn again W args v W') :
    ReturnsInHanded a C os f .any (fun w args => (s.pre enc C.prog fn conds apart w args ∧ X w args) ∧ sizedMet enc C.prog fn (OpenSpec.ofChange s) apart w args) (s.post enc C.prog fn apart fresh handsOn again) := by
  refine returnsInHanded_of_calls own started noInit witness ?_
  intro w tape i _ hsh _ hok hpre _
  obtain ⟨_, _, _, fn', hfn', _, _, _, _, hval⟩ := hok
  have e : fn' = fn := Option.some.inj (hfn'.symm.trans hfn)
  subst e
  obtain ⟨⟨⟨ds, gs, before, hw, _⟩, hx⟩, _⟩ := hpre
  have hw' := DataW.Whole.of_heap (w' := w.forCall tape i) (by rfl) hw
  refine (contract (w.forCall tape i) w.heap.size i.args ds gs before hval hw' (hX _ _ _ (by rfl) hx) hsh).mono fun e W' ⟨v, he, hp⟩ => ?_
  subst he
  exact ChangeSpec.post_blind hp

theorem gES : Tryz.prog.globalNamed "strconv.ErrSyntax" = some 5 := by kernel_rfl
theorem gESType : (Tryz.prog.globals[5]?).map (·.type) = some 199 := by kernel_rfl
theorem gER : Tryz.prog.globalNamed "strconv.ErrRange" = some 6 := by kernel_rfl
theorem gERType : (Tryz.prog.globals[6]?).map (·.type) = some 199 := by kernel_rfl
theorem cellsEs : Tryz.prog.cellsOf 291 = 1 := by kernel_rfl
theorem cellsStr : Tryz.prog.cellsOf 9 = 1 := by kernel_rfl
theorem rowEs (u : TypeId) (h : Tryz.prog.typeName? 3 u = some "*errors.errorString") : u = 289 :=
  typeName_ptr_named (nm := "errors.errorString") (by rw [show "*" ++ "errors.errorString" = "*errors.errorString" by decide]; kernel_rfl) (by kernel_rfl) (by decide) u (by rw [show "*" ++ "errors.errorString" = "*errors.errorString" by decide]; exact h)
set_option maxRecDepth 100000 in
theorem lb_of {W : World} (h : laidMetH Tryz.prog Rows.keepTextsRow.laid W) (hsh : W.ShapedOpen Tryz.prog) : Lb W := by
  have h' : laidMet Tryz.prog (("math/bits.deBruijn32tab", Rows.laid_math_bits_deBruijn32tab) :: ("math/bits.deBruijn64tab", Rows.laid_math_bits_deBruijn64tab) :: ("internal/strconv.uint64pow10", Lib.tabData .u64 Lib.pow10Tab) :: ("unicode/utf8.acceptRanges", Rows.laid_unicode_utf8_acceptRanges) :: ("strconv.ErrRange", Rows.laid_strconv_ErrRange) :: ("strconv.ErrSyntax", Rows.laid_strconv_ErrSyntax) :: [("unicode/utf8.first", Rows.laid_unicode_utf8_first)]) W := h
  have h3 := laidMet_tail (laidMet_tail h')
  have h5 := laidMet_tail (laidMet_tail h3)
  have h6 := laidMet_tail h5
  obtain ⟨a0, s0, hv0, -, -, -⟩ := laid_sentinel h5 gER gERType Tryz.underlying199 rowEs Tryz.underlying289 Tryz.underlying291 rfl rfl Tryz.underlying9 cellsEs cellsStr
  obtain ⟨a1, s1, hv1, -, -, -⟩ := laid_sentinel h6 gES gESType Tryz.underlying199 rowEs Tryz.underlying289 Tryz.underlying291 rfl rfl Tryz.underlying9 cellsEs cellsStr
  refine ⟨Lib.tabIs_of_head g10 g10Type und10 undU64 cellsU64 cells10 h3, ?_, ⟨_, by have h0 := World.var?_cell gES hv1 0; simpa using h0, .inr ⟨_, _, rfl⟩⟩, ⟨_, by have h0 := World.var?_cell gER hv0 0; simpa using h0, .inr ⟨_, _, rfl⟩⟩⟩
  exact cell_of_shapedOpen_int (t := 3) (zero := #[.int .i64 0]) hsh (of_decide_eq_true (by kernel_rfl)) (by kernel_rfl) rfl (by kernel_rfl) (by kernel_rfl) Tryz.underlying3

theorem slice_le {P : Program} {w : World} {r : Reach} {b : Nat} {t e : TypeId} {A : Option Addr} {n c : Nat} (ht : P.underlying t = some (.slice e)) (h : Value.okWide P w r b t (.slice A n c)) : n ≤ c := by
  have h1 : Cell.okWide P w r b t (.slice A n c) := by unfold Value.okWide at h; rw [ht] at h; exact h
  have h2 : Cell.ok P w r b t (.slice A n c) := by unfold Cell.okWide at h1; rw [ht] at h1; exact h1
  unfold Cell.ok at h2
  rw [ht] at h2
  cases A with
  | none => rcases n with _ | n <;> rcases c with _ | c <;> simp at h2 ⊢
  | some a => exact h2.1

theorem readsRule {W : World} {fs : Array Field} (hfs : fs.size = 3) (hty : ∀ (j : Nat) (f : Field), fs[j]? = some f → f.type = (#[22, 22, 31]).getD j 0) : ReadsSt enc Tryz.prog W fs RlR := by
  intro n us hl hu
  have get : ∀ j, j < 3 → ∃ u y, us[j]? = some u ∧ DataW.trod enc Tryz.prog W 0 (fun _ => true) true n ((#[22, 22, 31]).getD j 0) [u] = some y := fun j hj => by
    have hj' : j < fs.size := by omega
    obtain ⟨u, y, h1, h2⟩ := hu j fs[j] (Array.getElem?_eq_getElem hj')
    rw [hty j _ (Array.getElem?_eq_getElem hj')] at h2
    exact ⟨u, y, h1, h2⟩
  obtain ⟨u0, y0, g0, h0⟩ := get 0 (by omega)
  obtain ⟨u1, y1, g1, h1⟩ := get 1 (by omega)
  obtain ⟨u2, y2, g2, h2⟩ := get 2 (by omega)
  obtain ⟨AL, nl, cl, xl, e0, sl, fl⟩ := cells_nodes h0
  obtain ⟨AR, nr, cr, xr, e1, sr, fr⟩ := cells_nodes h1
  obtain ⟨AP, np, cp, xp, e2, sp⟩ := stAt_of_cells (R := CdR) Tryz.underlying31 Tryz.underlying88 (by kernel_rfl) cellsCond (by decide) (readsCond rfl (fun j f h => by rcases j with _ | _ | _ | j <;> simp at h <;> (subst h; rfl))) h2
  rw [hfs] at hl
  refine ⟨⟨xl, xr, xp⟩, nl, cl, nr, cr, np, cp, AL, AR, AP, ?_, sl, sr, sp, fl, fr⟩
  match us, hl, g0, g1, g2 with
  | [v0, v1, v2], _, g0, g1, g2 =>
    simp at g0 g1 g2
    subst g0 g1 g2
    rw [e0, e1, e2]
instance : Inhabited R.Rl := ⟨⟨[], [], []⟩⟩

set_option maxRecDepth 100000 in
/-- a list of rules that came in -/
theorem open_rules {W : World} {r : Reach} {b0 : Nat} {v : Value} {d : DataW H} {ps : List MemPlace} (hval : Value.okWide Tryz.prog W r b0 40 v) (h : DataW.Trod enc Tryz.prog W 0 (fun _ => true) true 40 v d ps) :
    ∃ A m c rs, v = .slice A m c ∧ m ≤ c ∧ StAt 3 RlR W A m rs := by
  obtain ⟨A, m, c, xs, rfl, hs⟩ := open_st (R := RlR) Tryz.underlying40 Tryz.underlying33 (by kernel_rfl) cellsRule (by decide) (readsRule rfl (fun j f h => by rcases j with _ | _ | _ | j <;> simp at h <;> (subst h; rfl))) hval h
  exact ⟨A, m, c, xs, rfl, slice_le Tryz.underlying40 hval, hs⟩
theorem bytes_ex (s : ByteArray) : ∃ l : List UInt8, s = ⟨l.toArray⟩ ∧ l.length = s.size := ⟨s.data.toList, by cases s; simp, by cases s; simp [ByteArray.size]⟩

abbrev synS : ByteArray := { data := #[105, 110, 118, 97, 108, 105, 100, 32, 115, 121, 110, 116, 97, 120] }
abbrev rngS : ByteArray := { data := #[118, 97, 108, 117, 101, 32, 111, 117, 116, 32, 111, 102, 32, 114, 97, 110, 103, 101] }
/-- what a table of pairs of words holds -/
def pairOf : DataW Unit → List Value
  | .agg l => l.flatMap tabOf
  | _ => []
noncomputable def low : Nat := (World.holding Tryz.prog default ⟨#[], #[], []⟩).heap.size
/-- a world that meets the condition -/
noncomputable def laidWorld7 (os : Os) : World :=
  let f := fun (x : List Value) (o : Obj) => match o with
    | .cells _ t frozen => Obj.cells x.toArray t frozen
    | o => o
  let w0 := World.holding Tryz.prog os ⟨#[.cells #[.string synS] 291, .cells #[.string rngS] 291], #[], []⟩
  { w0 with heap := ((((((w0.heap.modify 0 (f (tabOf Rows.laid_math_bits_deBruijn32tab))).modify 7 (f (tabOf Rows.laid_math_bits_deBruijn64tab))).modify 1 (f (tabOf Rows.laid_internal_strconv_uint64pow10))).modify 4 (f (pairOf Rows.laid_unicode_utf8_acceptRanges))).modify 3 (f (tabOf Rows.laid_unicode_utf8_first))).modify 5 (f [.iface 289 (.pointer (some ⟨low, 0, none⟩))])).modify 6 (f [.iface 289 (.pointer (some ⟨low + 1, 0, none⟩))]) }
theorem laid_met7 (os : Os) (args : Array Value) : laidMetH Tryz.prog Rows.keepTextsRow.laid ((laidWorld7 os).forCall (fun _ _ => 0) ⟨#[], args, []⟩).memory :=
  laidMet_of_run' 8 (by kernel_rfl) (by kernel_rfl)
end KT
end Go.Proofs.YtbiopedpceddeaaGreatDoor
end
section
namespace Go.Proofs.YtbiopedpceddeaaGreatDoor
namespace KT
theorem and_mk {a b : Bool} (ha : a = true) (hb : b = true) : (a && b) = true := by rw [ha, hb]; rfl
theorem sk1 : (laidOutB Tryz.prog) = true := by kernel_rfl
theorem sk2 : (mapsRowed Tryz.prog) = true := by kernel_rfl
theorem sk6 : ((Tryz.prog.stops == [])) = true := by kernel_rfl
theorem sk8 : ((Tryz.prog.stopKnobs == [])) = true := by kernel_rfl
theorem sk22 : ((Rows.keepTextsRow.plainKeys == Tryz.prog.plainKeys)) = true := by kernel_rfl
theorem sk24 : (Tryz.prog.stopsHeard) = true := by kernel_rfl
theorem sk25 : (Tryz.prog.mayEnter) = true := by kernel_rfl
theorem sk26 : ((Rows.keepTextsRow.lifted == Tryz.prog.liftsFinal)) = true := by kernel_rfl
theorem sk27 : ((Tryz.prog.make == some Rows.keepTextsRow.make)) = true := by kernel_rfl
end KT
end Go.Proofs.YtbiopedpceddeaaGreatDoor
end
