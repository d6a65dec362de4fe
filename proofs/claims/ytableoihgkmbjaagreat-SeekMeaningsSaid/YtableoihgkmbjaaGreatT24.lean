/- The term of a row: the program. -/
import Derived.Test.YtableoihgkmbjaaGreatT23
import Derived.Test.YtableoihgkmbjaaGreatNo
namespace Go.Proofs.YtableoihgkmbjaaGreat
open Go.RowKit
set_option linter.unusedVariables false
set_option linter.unusedSimpArgs false

namespace K
def ndVar (w : Int) (i : Nat) : T.Nd := ⟨33, w, 0, [], (i : Int)⟩
def ndConst (w x : Int) : T.Nd := ⟨0, w, 0, [], x⟩
def ndStep (w : Int) (s : Stp) : T.Nd := ⟨s.1, w, 0, [s.2.1, s.2.2], 0⟩
def nds (k : Nat) (w ones : Int) (row : List Stp) : List T.Nd := (List.range k).map (ndVar w) ++ [ndConst w 1, ndConst w ones] ++ row.map (ndStep w)
def term (k : Nat) (w ones : Int) (row : List Stp) : List T.Nd := if row.length = 0 then (nds k w ones row).take 1 else nds k w ones row
theorem nds_len (k : Nat) (w ones : Int) (row : List Stp) : (nds k w ones row).length = k + 2 + row.length := by simp [nds]; omega
end K

theorem twoC (B : Nat) (W : World) (w ones : Int) (ho : 0 ≤ ones ∧ ones < 4294967296) : ∀ (k : Nat) (x : T.Nd), [K.ndConst w 1, K.ndConst w ones][k]? = some x → NdO B W ((([.int .i64 0, .int .i64 w, .int .i64 0, .slice none 0 0, .int .u32 1, .int .i64 0, .int .i64 w, .int .i64 0, .slice none 0 0, .int .u32 ones] : List Value).drop (k * 5)).take 5) x := by
  intro k x hx
  rcases k with _ | _ | k
  · simp at hx
    subst hx
    exact ⟨none, 0, rfl, SlAt.nil_ _, by show (0 : Int) ≤ 1; omega, by show (1 : Int) < _; omega, fun h => absurd rfl h⟩
  · simp at hx
    subst hx
    exact ⟨none, 0, rfl, SlAt.nil_ _, ho.1, ho.2, fun h => absurd rfl h⟩
  · simp at hx
theorem twoOne (w ones : Int) : ∀ u ∈ ([.int .i64 0, .int .i64 w, .int .i64 0, .slice none 0 0, .int .u32 1, .int .i64 0, .int .i64 w, .int .i64 0, .slice none 0 0, .int .u32 ones] : List Value), u.oneCell' = true := by
  intro u hu
  simp only [List.mem_cons, List.not_mem_nil, or_false] at hu
  rcases hu with rfl | rfl | rfl | rfl | rfl | rfl | rfl | rfl | rfl | rfl <;> rfl
/-- a node with two operands, just made -/
theorem stepNd (B : Nat) (wr : World) (w so sa sb : Int) : NdO B ((wr.alloc (.cells #[.int .i64 so, .int .i64 sa, .int .i64 sb] 46)).alloc (.cells #[.int .i64 sa, .int .i64 sb] 3)) [.int .i64 so, .int .i64 w, .int .i64 0, .slice (some ⟨wr.heap.size + 1, 0, none⟩) 2 2, .int .u32 0] (K.ndStep w (so, sa, sb)) := by
  have hr : ((wr.alloc (.cells #[.int .i64 so, .int .i64 sa, .int .i64 sb] 46)).alloc (.cells #[.int .i64 sa, .int .i64 sb] 3)).heap[wr.heap.size + 1]? = some (.cells ([sa, sb].map (Value.int .i64)).toArray 3 (0, 0)) := by
    have := heap_alloc_new (wr.alloc (.cells #[.int .i64 so, .int .i64 sa, .int .i64 sb] 46)) (.cells #[.int .i64 sa, .int .i64 sb] 3)
    rw [World.size_alloc] at this
    exact this
  exact ⟨some ⟨wr.heap.size + 1, 0, none⟩, 2, rfl, slAt_row (k := 0) hr (by show (2 : Nat) ≤ 1000000; omega), by show (0 : Int) ≤ 0; omega, by show (0 : Int) < _; omega, fun _ b off hA => by cases hA; exact .inr ⟨_, _, hr⟩⟩
theorem own_some {B : Nat} {w : World} {A : Option Addr} {n c : Nat} {nds : List T.Nd} (h : OwnNd B w (.slice A n c) nds) (hn : 0 < n) : ∃ g off, A = some ⟨g, off, none⟩ ∧ n ≤ c := by
  obtain ⟨cells, h1, _⟩ := h
  rcases h1.2 with ⟨h1, _⟩ | ⟨g, off, cap, cur, h1, _, h2, _⟩
  · injection h1 with _ h1 _; omega
  · injection h1 with e1 e2 e3
    exact ⟨g, off, e1, by omega⟩

set_option maxRecDepth 100000 in
set_option maxHeartbeats 2000000 in
theorem pnodes_any (k : Nat) (w ones : Int) (hk : k = 1 ∨ k = 2) (ho : 0 ≤ ones ∧ ones < 4294967296) (A : Option Addr) (m c : Nat) (row : List K.Stp) (W : World) (hA : StAt 3 StepR W A m row) (hm : m ≤ 100) :
    Calls Tryz.prog 23 #[.int .i64 k, .int .i64 w, .int .u32 ones, .slice A m c] W fun e w' => ∃ A' n c', e = .returned (.slice A' n c') ∧ StAt 5 NdR w' A' n (K.term k w ones row) ∧ Below W.heap.size W w' := by
  have HA := Lib.hid hA
  have Hlen := Lib.hid hA.len
  have Ho := Lib.hid ho
  have hle := hA.le
  have hk1 : 1 ≤ k := by omega
  have hk2 : k ≤ 2 := by omega
  clear hA ho hk
  go_enter Tryz.func23, Tryz.ntmps23
  go_wp2
  go_loopg [9, 14] (k + 1) (fun g v i wr => ∃ j : Nat, j ≤ k ∧ i = .int .i64 (j : Int) ∧ g + j = k + 1 ∧ Hid (OwnNd W.heap.size wr v ((List.range j).map (K.ndVar w))) ∧ Hid (Below W.heap.size W wr))
  case atStart => exact ⟨0, Nat.zero_le _, rfl, rfl, Lib.hid (OwnNd.nil_ _ _), Lib.hid (Below.refl _ _)⟩
  case round =>
    obtain ⟨j, hj, rfl, hgk, Hown, Hb⟩ := hrel
    have Hgk := Lib.hid hgk; clear hgk
    by_cases hlt : j < k
    · go_wp2_with (at_builtin; refine wpList_append_node rfl (.tmp 17) (.tmp 22) rfl W.heap.size _ _ rfl Hown.out _ (K.ndVar w j) ⟨none, 0, rfl, SlAt.nil_ _, by show (0 : Int) ≤ (j : Int); omega, by show (j : Int) < _; omega, fun h => absurd rfl h⟩ wr.heap.size rfl rfl (by simp; omega) Hb.out.size ?_; intro v' w' hown' hgr hbb)
      have Hown' := Lib.hid hown'
      have Hb' := Lib.hid (hbb _ Hb.out)
      clear hown' hgr hbb
      go_wp2
      go_roundg (gk - 1)
      case measure => have := Hgk.out; omega
      case rel => have := Hgk.out; exact ⟨j + 1, by omega, by go_num, by omega, Lib.hid (by rw [List.range_succ, List.map_append]; exact Hown'.out), Hb'⟩
    · obtain rfl : j = k := by omega
      have Hown2 := Lib.hid (Hown.out.below ((Below.refl _ _).alloc (Nat.le_refl _) (.cells #[.int .i64 0, .int .i64 w, .int .i64 0, .slice none 0 0, .int .u32 1, .int .i64 0, .int .i64 w, .int .i64 0, .slice none 0 0, .int .u32 ones] 61)))
      go_wp2_with (at_builtin; refine wpList_append_nodes rfl (.tmp 25) (.tmp 31) rfl W.heap.size _ _ rfl Hown2.out 2 [.int .i64 0, .int .i64 w, .int .i64 0, .slice none 0 0, .int .u32 1, .int .i64 0, .int .i64 w, .int .i64 0, .slice none 0 0, .int .u32 ones] [K.ndConst w 1, K.ndConst w ones] rfl rfl (twoC _ _ w ones Ho.out) (twoOne w ones) _ 2 rfl ?c1 ?c2 ?c3 ?c4; (case c1 => exact src_new _ _ _); (case c2 => (rw [List.length_map, List.length_range]; omega)); (case c3 => exact (Hb.out.alloc Hb.out.size _).size); intro v' w' hown' hgr hat hbb)
      have Hown' := Lib.hid hown'
      have Hb' := Lib.hid (hbb _ (Hb.out.alloc Hb.out.size _))
      clear hown' hgr hbb hat Hown Hown2 Hb
      go_wp2
      go_loopg [9, 35] (m + 1) (fun g v i wr => ∃ q : Nat, q ≤ m ∧ i = .int .i64 (q : Int) ∧ g + q = m + 1 ∧ Hid (OwnNd W.heap.size wr v (K.nds j w ones (row.take q))) ∧ Hid (Below W.heap.size W wr))
      case atStart => exact ⟨0, Nat.zero_le _, rfl, rfl, Lib.hid (by unfold K.nds; rw [List.take_zero, List.map_nil, List.append_nil]; exact Hown'.out), Hb'⟩
      case round =>
        obtain ⟨q, hq, rfl, hgk, Hown, Hb⟩ := hrel
        have Hgk := Lib.hid hgk; clear hgk
        by_cases hlt : q < m
        · obtain ⟨s, bs, offs, us, hs, rfl, hbs, hl3, hc, hus⟩ := (HA.out.below monoStep Hb.out).at_ hlt
          have hus' : us = cellsS s := hus
          subst hus'
          obtain ⟨so, sa, sb⟩ := s
          have h0 : wr.cell? ⟨bs, offs + q * 3, none⟩ = some (.int .i64 so) := hc 0 _ rfl
          have h1 : wr.cell? ⟨bs, offs + q * 3 + 1, none⟩ = some (.int .i64 sa) := hc 1 _ rfl
          have h2 : wr.cell? ⟨bs, offs + q * 3 + 2, none⟩ = some (.int .i64 sb) := hc 2 _ rfl
          have Htk := Lib.hid (show K.nds j w ones (row.take (q + 1)) = K.nds j w ones (row.take q) ++ [K.ndStep w (so, sa, sb)] from by unfold K.nds; rw [K.take_succ_at hs, List.map_append, ← List.append_assoc]; rfl)
          have HB2 := Lib.hid (show Below wr.heap.size wr ((wr.alloc (.cells #[.int .i64 so, .int .i64 sa, .int .i64 sb] 46)).alloc (.cells #[.int .i64 sa, .int .i64 sb] 3)) from ((Below.refl _ _).alloc (Nat.le_refl _) _).alloc (by simp) _)
          have Hown2 := Lib.hid (Hown.out.below HB2.out)
          have Hb2 := Lib.hid (Hb.out.trans (HB2.out.mono Hb.out.size))
          have Hlen2 := Lib.hid (show (K.nds j w ones (row.take q)).length ≤ 900000 from by rw [K.nds_len, List.length_take]; omega)
          clear hs hc hl3 hus hbs
          go_wp2_with (at_builtin; refine wpList_append_node rfl (.tmp 39) (.tmp 49) rfl W.heap.size _ _ rfl Hown2.out _ (K.ndStep w (so, sa, sb)) (stepNd W.heap.size wr w so sa sb) (wr.heap.size + 1 + 1) (by simp) rfl Hlen2.out Hb2.out.size ?_; intro v' w' hown' hgr hbb)
          have Hown' := Lib.hid hown'
          have Hb' := Lib.hid (hbb _ Hb2.out)
          clear hown' hgr hbb h0 h1 h2 Hown Hown2 Hb HB2
          go_wp2
          go_roundg (gk - 1)
          case measure => have := Hgk.out; omega
          case rel => have := Hgk.out; exact ⟨q + 1, by omega, by go_num, by omega, Lib.hid (by rw [Htk.out]; exact Hown'.out), Hb'⟩
        · obtain rfl : q = m := by omega
          have hown := Hown.out
          rw [List.take_of_length_le (by rw [Hlen.out]; exact Nat.le_refl _)] at hown
          obtain ⟨A9, c9, rfl⟩ := hown.form
          have hst := hown.stAt rfl
          have hn : (K.nds j w ones row).length = j + 2 + q := by rw [K.nds_len, Hlen.out]
          rw [hn] at hst hown
          have Hst := Lib.hid hst
          rw [hn]
          by_cases h0 : q = 0
          · have Ht := Lib.hid (show K.term j w ones row = (K.nds j w ones row).take 1 from by unfold K.term; rw [if_pos (by rw [Hlen.out]; exact h0)])
            obtain ⟨g9, off9, hA9, hcap⟩ := own_some hown (by omega)
            subst hA9
            have hsl := fun W' : World => run_slice_to (P := Tryz.prog) Tryz.underlying30 infoNode g9 off9 (j + 2 + q) c9 1 (by omega) W'
            have q0 : ((q : Int) == 0) = true := by simpa using h0
            clear hst hown hn
            go_wp2
            go_ret
            exact ⟨_, 1, _, rfl, by rw [Ht.out]; exact Hst.out.take (by omega), Hb.out⟩
          · have Ht := Lib.hid (show K.term j w ones row = K.nds j w ones row from by unfold K.term; rw [if_neg (by rw [Hlen.out]; exact h0)])
            have q0 : ((q : Int) == 0) = false := by simpa using h0
            clear hst hown hn
            go_wp2
            go_ret
            exact ⟨_, _, _, rfl, by rw [Ht.out]; exact Hst.out, Hb.out⟩
end Go.Proofs.YtableoihgkmbjaaGreat
