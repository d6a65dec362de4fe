/- Walks of the library at this program: Clone, Grow, Concat. -/
import Derived.Test.YtceelipcclfdmaaW38
import Derived.Test.YtceelipcclfdmaaShelf2
import Derived.Test.YtceelipcclfdmaaPlain09d
namespace Go.Proofs.Ytceelipcclfdmaa
open Go.RowKit Go.Maps Go.Sort
set_option linter.unusedVariables false

theorem OwnAt.of_row {w : World} {base : Nat} {e : TypeId} {v : Value} {n : Nat} {xs : List Value} (h : w.ownsRow base e 1 v n xs) : OwnAt w e 1 v n xs ∧ ∀ g, v.ownBlock = some g → base ≤ g := by
  obtain ⟨h1, h2⟩ := h
  rcases h2 with ⟨rfl, rfl⟩ | ⟨g, cap, cur, rfl, hb, hg, hn, hm, hs, ht⟩
  · exact ⟨⟨h1, .inl ⟨rfl, rfl⟩⟩, fun g hg => by simp [Value.ownBlock] at hg⟩
  · refine ⟨⟨h1, .inr ⟨g, 0, cap, cur, rfl, hg, hn, hm, by omega, fun j u hu => ?_⟩⟩, fun g' hg' => ?_⟩
    · have hj := (List.getElem?_eq_some_iff.1 hu).1
      rw [← ht, List.getElem?_take] at hu
      split at hu
      · rw [Nat.zero_add, ← Array.getElem?_toList]; exact hu
      · cases hu
    · have : g = g' := by simpa [Value.ownBlock] using hg'
      omega

def SomeOwn (w : World) (e : TypeId) (n : Nat) (xs : List Value) (en : Ending) (w' : World) : Prop := ∃ v', en = .returned v' ∧ OwnAt w' e 1 v' n xs ∧ Below w.heap.size w w' ∧ ∀ g, v'.ownBlock = some g → w.heap.size ≤ g

theorem clone_own (A : Option Addr) (n c : Nat) (xs : List Int) (w : World) (hA : SlAt (IntR .i64) w A n xs) (hn : n ≤ 100000000) :
    Calls Try.prog 49 #[.slice A n c] w (SomeOwn w 3 n (xs.map (Value.int .i64))) := by
  have hl := hA.len
  cases A with
  | none =>
    have h0 : n = 0 := by
      rcases Nat.eq_zero_or_pos n with h | h
      · exact h
      · obtain ⟨x, b, off, u, _, hh, _⟩ := hA.at_ h
        cases hh
    subst h0
    obtain rfl := List.length_eq_zero_iff.1 hl
    refine (Try.slices_Clone_int_nil 0 c w).mono ?_
    rintro e w' ⟨rfl, rfl⟩
    exact ⟨_, rfl, OwnAt.nil_ _ _ _, Below.refl _ _, fun g hg => by simp [Value.ownBlock] at hg⟩
  | some a =>
    rcases Nat.eq_zero_or_pos n with h | h
    · subst h
      obtain rfl := List.length_eq_zero_iff.1 hl
      refine (Try.slices_Clone_int_zero a c w).mono ?_
      rintro e w' ⟨v', rfl, h1, _, h3⟩
      exact ⟨v', rfl, (OwnAt.of_row h1).1, h3, (OwnAt.of_row h1).2⟩
    · obtain ⟨x, b, off, u, _, hh, _⟩ := hA.at_ h
      cases hh
      refine (Try.slices_Clone_int b off n c xs w (by omega) (by omega) (fun j hj => ?_)).mono ?_
      · obtain ⟨y, b', off', u', hy, hh, _, hc, rfl⟩ := hA.at_ (k := j) (by omega)
        cases hh
        rw [hc, List.getD, hy]; rfl
      · rintro e w' ⟨v', rfl, h1, _, h3⟩
        rw [List.take_of_length_le (by omega)] at h1
        exact ⟨v', rfl, (OwnAt.of_row h1).1, h3, (OwnAt.of_row h1).2⟩

theorem size_zeroCells' (z : Value) (n : Nat) (hz : z.cells.size = 1) : (Builtin.zeroCells z.cells n).size = n := by
  simp [Builtin.zeroCells, hz]

theorem grow_nil (T : Nat) (w : World) (hT : T ≤ 1000000) :
    Calls Try.prog 64 #[.slice none 0 0, .int .i64 (T : Int)] w (SomeOwn w 23 0 []) := by
  rcases Nat.eq_zero_or_pos T with h | h
  · subst h
    refine (Try.slices_Grow_room none 0 0 0 w (Nat.le_refl _) (by omega) (by omega) (by omega)).mono ?_
    rintro e w' ⟨rfl, rfl⟩
    exact ⟨_, rfl, OwnAt.nil_ _ _ _, Below.refl _ _, fun g hg => by simp [Value.ownBlock] at hg⟩
  · obtain ⟨i, hi, hz, hsz, hby⟩ := info_parts Try.infoSl
    refine (Any8.slices_Grow_grow Try.laysNm84_f64 i (.slice none 0 0) hi hz (by omega) none 0 0 T [] w (Nat.le_refl _) (by omega) (by rw [hby]; omega) (by omega) (by simp) (fun _ => rfl) (fun a ha => by cases ha)).mono ?_
    rintro e w' ⟨rfl, rfl⟩
    have hge := grownCap_ge w (0 + T) 0 23
    have hle := grownCap_le_maxLen w (0 + T) 0 23 (by simp only [maxLen]; omega)
    refine ⟨_, rfl, ⟨rfl, .inr ⟨w.heap.size, 0, _, _, rfl, heap_alloc_new w.drew _, Nat.zero_le _, hle, ?_, fun j u hu => by simp at hu⟩⟩, ((Below.refl _ _).drew).alloc (Nat.le_refl _) _, fun g hg => ?_⟩
    · change 0 + grownCap w (0 + T) 0 23 * 1 ≤ (([] : List Value).toArray ++ Builtin.zeroCells (Value.slice none 0 0).cells (0 + T - 0) ++ Builtin.zeroCells (Value.slice none 0 0).cells (grownCap w (0 + T) 0 23 - (0 + T))).size
      generalize grownCap w (0 + T) 0 23 = G at hge ⊢
      simp only [Array.size_append, size_zeroCells' _ _ (show (Value.slice none 0 0).cells.size = 1 from rfl)]
      simp
      omega
    · have : w.heap.size = g := by simpa [Value.ownBlock] using hg
      omega
end Go.Proofs.Ytceelipcclfdmaa
