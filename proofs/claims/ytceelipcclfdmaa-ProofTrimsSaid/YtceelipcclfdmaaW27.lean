/- Walks of the program: sorting, compacting, containing. -/
import Derived.Test.YtceelipcclfdmaaW26
import Derived.Test.YtceelipcclfdmaaShelf
import Derived.Test.YtceelipcclfdmaaPlain09c
import Derived.Sort.OwnSortedInts
import Derived.Lib.RowBridge
namespace Go.Proofs.Ytceelipcclfdmaa
set_option linter.unusedVariables false
open Go.RowKit Go.Maps Go.Sort

theorem OwnAt.holds {w : World} {e : TypeId} {g off cap n : Nat} {cur : Array Value} {xs : List Int} (hg : w.heap[g]? = some (.cells cur e (0, 0))) (hcur : ∀ j u, (xs.map (Value.int .i64))[j]? = some u → cur[off + j]? = some u) : Holds (Value.int .i64) w g off xs.toArray := by
  intro j hj
  have hj' : j < xs.length := by simpa using hj
  refine ⟨?_, by simp [World.frozen?, hg]⟩
  rw [cell_of_row w g _ cur e (0, 0) hg]
  rw [hcur j (.int .i64 xs[j]) (by simp [hj'])]
  simp [hj']

theorem OwnAt.put {w : World} {e : TypeId} {g off cap n q : Nat} {os : Array Obj} {cur : Array Value} (xs : List Int) (k : Nat) (hg : w.heap[g]? = some (.cells cur e (0, 0))) (hk : k ≤ cap) (hxl : k ≤ xs.length) (hcm : cap ≤ maxLen) (hcs : off + cap * 1 ≤ cur.size) :
    OwnAt (grow (putRow (Value.int .i64) (Sort.ahead w q) g off xs.toArray) os) e 1 (.slice (some ⟨g, off, none⟩) k cap) k ((xs.take k).map (Value.int .i64)) := by
  have hlt : g < w.heap.size := (Array.getElem?_eq_some_iff.1 hg).1
  refine ⟨by simp; omega, .inr ⟨g, off, cap, putCells (Value.int .i64) off xs.toArray cur, rfl, ?_, hk, hcm, by simp [putCells]; omega, fun j u hu => ?_⟩⟩
  · rw [heap_grow_old _ _ (by simpa using hlt)]
    simp [putRow, mapBlock, Sort.ahead, Array.getElem?_modify, hg, onCells]
  · rw [List.getElem?_map, List.getElem?_take] at hu
    split at hu
    · rename_i hjk
      have hj : j < xs.length := by omega
      rw [List.getElem?_eq_getElem hj] at hu
      simp at hu
      subst hu
      simp [putCells, hj, show off + j < cur.size by omega]
    · cases hu

theorem grownBy_put {w : World} {g off q : Nat} {os : Array Obj} (d : Array Int) : w.grownBy (grow (putRow (Value.int .i64) (Sort.ahead w q) g off d) os) (some g) := by
  refine ⟨rfl, rfl, rfl, by simp, fun k hk hne => ?_⟩
  rw [heap_grow_old _ _ (by simpa using hk)]
  have : g ≠ k := fun e => hne (by rw [e])
  simp [putRow, mapBlock, Sort.ahead, Array.getElem?_modify, this]

theorem grownBy_refl (w : World) (r : Option Nat) : w.grownBy w r := ⟨rfl, rfl, rfl, Nat.le_refl _, fun _ _ _ => rfl⟩

def SomeSort (w : World) (v : Value) (n : Nat) (xs : List Int) (e : Ending) (w' : World) : Prop := e = .returned (.tuple #[]) ∧ OwnAt w' 3 1 v n ((srt xs).map (Value.int .i64)) ∧ w.grownBy w' v.ownBlock
theorem sort_own (v : Value) (n : Nat) (xs : List Int) (w : World) (h : OwnAt w 3 1 v n (xs.map (Value.int .i64))) (hn : n < 4611686018427387904) :
    Calls Try.prog 35 #[v] w (SomeSort w v n xs) := by
  have hl : xs.length = n := by simpa using h.1
  rcases h.2 with ⟨rfl, rfl⟩ | ⟨g, off, cap, cur, rfl, hg, hnc, hcm, hcs, hcur⟩
  · obtain rfl := List.length_eq_zero_iff.1 hl
    refine (Try.slices_Sort_int_none none 0 w).mono ?_
    rintro e w' ⟨rfl, rfl⟩
    exact ⟨rfl, by unfold srt; simpa using h, grownBy_refl _ _⟩
  · have hlt : g < w.heap.size := (Array.getElem?_eq_some_iff.1 hg).1
    have con := Try.slices_Sort_int g off cap xs w (OwnAt.holds (cap := cap) (n := n) hg hcur) hlt (by omega)
    rw [hl] at con
    refine con.mono ?_
    rintro e w' ⟨rfl, q, os, rfl⟩
    refine ⟨rfl, ?_, grownBy_put _⟩
    have h3 := OwnAt.put (q := q) (os := os) (n := n) (srt xs) n hg hnc (by rw [length_srt]; omega) hcm hcs
    rwa [List.take_of_length_le (by rw [length_srt]; omega)] at h3

def SomeCompact (w : World) (v : Value) (xs : List Int) (e : Ending) (w' : World) : Prop := ∃ v', e = .returned v' ∧ v'.ownBlock = v.ownBlock ∧ OwnAt w' 3 1 v' (Lib.compact xs).length ((Lib.compact xs).map (Value.int .i64)) ∧ w.grownBy w' v.ownBlock
theorem compact_own (v : Value) (n : Nat) (xs : List Int) (w : World) (h : OwnAt w 3 1 v n (xs.map (Value.int .i64))) (hn : n < 4611686018427387904) :
    Calls Try.prog 44 #[v] w (SomeCompact w v xs) := by
  have hl : xs.length = n := by simpa using h.1
  rcases h.2 with ⟨rfl, rfl⟩ | ⟨g, off, cap, cur, rfl, hg, hnc, hcm, hcs, hcur⟩
  · obtain rfl := List.length_eq_zero_iff.1 hl
    refine (Try.slices_Compact_int_empty none 0 w).mono ?_
    rintro e w' ⟨rfl, rfl⟩
    exact ⟨_, rfl, rfl, by simpa [Lib.compact, Lib.compactUpTo] using h, grownBy_refl _ _⟩
  · have hlt : g < w.heap.size := (Array.getElem?_eq_some_iff.1 hg).1
    have con := Try.slices_Compact_int g off cap xs w (OwnAt.holds (cap := cap) (n := n) hg hcur) (by omega) (by omega)
    rw [hl] at con
    refine con.mono ?_
    rintro e w' ⟨rfl, q, rfl⟩
    have hle := Lib.compact_length_le xs
    refine ⟨_, rfl, rfl, ?_, ?_⟩
    · have h3 := OwnAt.put (q := q) (os := #[]) (n := n) (Lib.compact xs ++ List.replicate (n - (Lib.compact xs).length) 0) (Lib.compact xs).length hg (by omega) (by simp) hcm hcs
      rw [grow_empty] at h3
      simpa using h3
    · have h3 := grownBy_put (w := w) (g := g) (off := off) (q := q) (os := #[]) (Lib.compact xs ++ List.replicate (n - (Lib.compact xs).length) 0).toArray
      rw [grow_empty] at h3
      exact h3

set_option maxHeartbeats 400000 in
theorem index_any (A : Option Addr) (m c : Nat) (xs : List Int) (x : Int) (w : World) (hA : SlAt (IntR .i64) w A m xs) :
    Calls Try.prog 63 #[.slice A m c, .int .i64 x] w fun e w' => ∃ i : Int, e = .returned (.int .i64 i) ∧ decide (0 ≤ i) = decide (x ∈ xs) ∧ w = w' := by
  have hl := hA.le
  have HA := Lib.hid hA; clear hA
  go_enter Try.func63, Try.ntmps63
  go_wp2
  go_loop [8] (fun i => ∃ k : Nat, k ≤ m ∧ i = .int .i64 k ∧ Hid (x ∉ xs.take k)) (fun i => m - (intOf i).toNat)
  case atStart => exact ⟨0, Nat.zero_le _, rfl, by show _ ∉ _; simp⟩
  case round =>
    obtain ⟨k, hk, rfl, HT⟩ := hrel
    by_cases hlt : k < m
    · obtain ⟨y, b, off, u, hx, rfl, _, h1, rfl⟩ := HA.out.at_ hlt
      have Hx := Lib.hid hx; clear hx
      by_cases he : x = y
      · subst he
        go_wp2
        go_ret
        exact ⟨k, rfl, by simp [List.mem_of_getElem? Hx.out], rfl⟩
      · have hb : (x == y) = false := by simpa using he
        have He := Lib.hid he; clear he
        go_wp2
        go_round
        case rel => exact ⟨k + 1, by omega, by go_num, by show _ ∉ _; rw [take_succ_of Hx.out, List.mem_append]; rintro (h | h); exact HT.out h; exact He.out (List.mem_singleton.1 h)⟩
        case measure => simp [intOf]; omega
    · go_wp2
      go_ret
      have h3 := HT.out
      rw [take_all HA.out.len (by omega)] at h3
      exact ⟨-1, rfl, by simp [h3], rfl⟩

theorem contains_any (A : Option Addr) (m c : Nat) (xs : List Int) (x : Int) (w : World) (hA : SlAt (IntR .i64) w A m xs) :
    Calls Try.prog 43 #[.slice A m c, .int .i64 x] w fun e w' => e = .returned (.bool (decide (x ∈ xs))) ∧ w = w' := by
  have Hcon := Lib.hid (index_any A m c xs x w hA)
  clear hA
  go_enter Try.func43, Try.ntmps43
  go_wp2_with fail
  refine Hcon.out.mono ?_
  rintro e w' ⟨i, rfl, hi, rfl⟩
  go_wp2
  go_ret
  refine ⟨ret_bool ?_, rfl⟩
  rw [← hi]
end Go.Proofs.Ytceelipcclfdmaa
