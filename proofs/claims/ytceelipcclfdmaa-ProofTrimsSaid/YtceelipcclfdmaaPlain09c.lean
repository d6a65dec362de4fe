/- Plain laws: lists in strict order; the clause that two clauses make. No program. -/
import Derived.Test.YtceelipcclfdmaaPlain09b
import Derived.Lib.RowBridge
namespace Go.Proofs.Ytceelipcclfdmaa

/-- Two lists in strict order that have the same members are one. -/
theorem inc_eq : ∀ {l l' : List Int}, l.Pairwise (· < ·) → l'.Pairwise (· < ·) → (∀ x, x ∈ l ↔ x ∈ l') → l = l'
  | [], [], _, _, _ => rfl
  | [], y :: r, _, _, h => absurd ((h y).2 (List.mem_cons_self ..)) (by simp)
  | x :: r, [], _, _, h => absurd ((h x).1 (List.mem_cons_self ..)) (by simp)
  | x :: r, y :: r', h1, h2, h => by
    rw [List.pairwise_cons] at h1 h2
    have hxy : x = y := by
      rcases List.mem_cons.1 ((h x).1 (List.mem_cons_self ..)) with e | e
      · exact e
      · rcases List.mem_cons.1 ((h y).2 (List.mem_cons_self ..)) with e' | e'
        · exact e'.symm
        · have := h1.1 y e'
          have := h2.1 x e
          omega
    subst hxy
    congr 1
    refine inc_eq h1.2 h2.2 fun z => ⟨fun hz => ?_, fun hz => ?_⟩
    · rcases List.mem_cons.1 ((h z).1 (List.mem_cons_of_mem _ hz)) with e | e
      · have := h1.1 z hz; omega
      · exact e
    · rcases List.mem_cons.1 ((h z).2 (List.mem_cons_of_mem _ hz)) with e | e
      · have := h2.1 z hz; omega
      · exact e

/-- Of a list in order, no element twice: in strict order, the same members. -/
theorem compact_inc (d : Array Int) (hs : ∀ i j, i ≤ j → j < d.size → d[i]! ≤ d[j]!) : ∀ m, m ≤ d.size →
    (Lib.compactUpTo d m).Pairwise (· < ·) ∧ (∀ x ∈ Lib.compactUpTo d m, ∃ j, j < m ∧ x = d[j]!) ∧ ∀ j, j < m → d[j]! ∈ Lib.compactUpTo d m
  | 0, _ => ⟨by simp [Lib.compactUpTo], fun x hx => by simp [Lib.compactUpTo] at hx, fun j hj => by omega⟩
  | m + 1, hm => by
    obtain ⟨h1, h2, h3⟩ := compact_inc d hs m (by omega)
    rw [Lib.compactUpTo_succ]
    by_cases hk : Lib.keeps d m = true
    · rw [if_pos hk]
      refine ⟨?_, fun x hx => ?_, fun j hj => ?_⟩
      · rw [List.pairwise_append]
        refine ⟨h1, by simp, fun x hx y hy => ?_⟩
        rw [List.mem_singleton.1 hy]
        obtain ⟨j, hj, rfl⟩ := h2 x hx
        have hle := hs j (m - 1) (by omega) (by omega)
        have hle2 := hs (m - 1) m (by omega) (by omega)
        have hne : d[m]! ≠ d[m - 1]! := by
          have : m = 0 ∨ d[m]! ≠ d[m - 1]! := by simpa [Lib.keeps] using hk
          rcases this with h | h
          · omega
          · exact h
        omega
      · rcases List.mem_append.1 hx with hx | hx
        · obtain ⟨j, hj, e⟩ := h2 x hx; exact ⟨j, by omega, e⟩
        · exact ⟨m, by omega, List.mem_singleton.1 hx⟩
      · rcases Nat.lt_or_ge j m with h | h
        · exact List.mem_append_left _ (h3 j h)
        · obtain rfl : j = m := by omega
          exact List.mem_append_right _ (by simp)
    · rw [if_neg hk, List.append_nil]
      refine ⟨h1, fun x hx => ?_, fun j hj => ?_⟩
      · obtain ⟨j, hj, e⟩ := h2 x hx; exact ⟨j, by omega, e⟩
      · rcases Nat.lt_or_ge j m with h | h
        · exact h3 j h
        · obtain rfl : j = m := by omega
          have : ¬ (j = 0 ∨ d[j]! ≠ d[j - 1]!) := by simpa [Lib.keeps] using hk
          have hj0 : j ≠ 0 := fun e => this (.inl e)
          have he : d[j]! = d[j - 1]! := Decidable.byContradiction fun e => this (.inr e)
          rw [he]; exact h3 (j - 1) (by omega)

def srt (xs : List Int) : List Int := xs.mergeSort fun x y => decide (x ≤ y)
theorem length_srt (xs : List Int) : (srt xs).length = xs.length := by unfold srt; exact List.length_mergeSort _
theorem mem_srt (xs : List Int) (x : Int) : x ∈ srt xs ↔ x ∈ xs := (List.mergeSort_perm xs _).mem_iff
theorem srt_pairwise (xs : List Int) : (srt xs).Pairwise (· ≤ ·) := by
  have h := List.pairwise_mergeSort (le := fun x y : Int => decide (x ≤ y)) (fun a b c h1 h2 => by simp only [decide_eq_true_eq] at *; omega) (fun a b => by simp only [Bool.or_eq_true, decide_eq_true_eq]; omega) xs
  exact h.imp fun {a b} h => by simpa using h
theorem srt_inc {xs : List Int} (hn : xs.Nodup) : (srt xs).Pairwise (· < ·) := by
  have h1 := srt_pairwise xs
  have h2 : (srt xs).Nodup := (List.mergeSort_perm xs _).nodup_iff.2 hn
  exact (h1.and h2).imp fun {a b} h => by have := h.1; have := h.2; omega

theorem compact_srt (xs : List Int) : (Lib.compact (srt xs)).Pairwise (· < ·) ∧ ∀ x, x ∈ Lib.compact (srt xs) ↔ x ∈ xs := by
  have hp := srt_pairwise xs
  rw [List.pairwise_iff_getElem] at hp
  have hs : ∀ i j, i ≤ j → j < (srt xs).toArray.size → (srt xs).toArray[i]! ≤ (srt xs).toArray[j]! := by
    intro i j hij hj
    have hj' : j < (srt xs).length := by simpa using hj
    rw [getElem!_pos _ i (by simpa using (by omega : i < (srt xs).length)), getElem!_pos _ j hj]
    rcases Nat.lt_or_ge i j with h | h
    · simpa using hp i j (by omega) hj' h
    · obtain rfl : i = j := by omega
      exact Int.le_refl _
  obtain ⟨h1, h2, h3⟩ := compact_inc (srt xs).toArray hs (srt xs).length (by simp)
  refine ⟨h1, fun x => ⟨fun hx => ?_, fun hx => ?_⟩⟩
  · obtain ⟨j, hj, rfl⟩ := h2 x hx
    rw [getElem!_pos _ j (by simpa using hj)]
    exact (mem_srt xs _).1 (by simp)
  · obtain ⟨j, hj, e⟩ := List.mem_iff_getElem.1 ((mem_srt xs x).2 hx)
    have := h3 j hj
    rw [getElem!_pos _ j (by simpa using hj)] at this
    rw [← e]
    show (srt xs)[j] ∈ Lib.compactUpTo (srt xs).toArray (srt xs).length
    simpa using this

namespace S
def resP (a b : List Int) (v : Int) (l : Int) : Bool := (l != v && decide (l ∈ a)) || (l != -v && decide (l ∈ b))
def resList (a b : List Int) (v : Int) : List Int := Lib.compact (srt (a.filter (fun x => x != v) ++ b.filter (fun x => x != -v)))
def rng (N j : Nat) : List Int := (List.range j).map fun (j : Nat) => -(N : Int) + (j : Int)
theorem rng_succ (N k : Nat) : rng N (k + 1) = rng N k ++ [-(N : Int) + k] := by simp [rng, List.range_succ]
theorem rng_inc (N j : Nat) : (rng N j).Pairwise (· < ·) := by
  unfold rng
  rw [List.pairwise_map]
  exact List.pairwise_lt_range.imp fun {a b} h => by omega
theorem mem_rng {N j : Nat} {x : Int} : x ∈ rng N j ↔ -(N : Int) ≤ x ∧ x < -(N : Int) + j := by
  unfold rng
  rw [List.mem_map]
  constructor
  · rintro ⟨k, hk, rfl⟩
    have := List.mem_range.1 hk
    omega
  · rintro ⟨h1, h2⟩
    exact ⟨(x + N).toNat, by rw [List.mem_range]; omega, by omega⟩

theorem mem_resList {a b : List Int} {v x : Int} : x ∈ resList a b v ↔ resP a b v x = true := by
  unfold resList resP
  rw [(compact_srt _).2]
  simp only [List.mem_append, List.mem_filter, Bool.or_eq_true, Bool.and_eq_true, decide_eq_true_eq]
  constructor
  · rintro (⟨h1, h2⟩ | ⟨h1, h2⟩)
    · exact .inl ⟨h2, h1⟩
    · exact .inr ⟨h2, h1⟩
  · rintro (⟨h1, h2⟩ | ⟨h1, h2⟩)
    · exact .inl ⟨h2, h1⟩
    · exact .inr ⟨h2, h1⟩

/-- The reference's list is the program's. -/
theorem resList_eq {N : Nat} {a b : List Int} {v : Int} (ha : isClause N a = true) (hb : isClause N b = true) : (rng N (2 * N + 1)).filter (resP a b v) = resList a b v := by
  refine inc_eq ((rng_inc _ _).filter _) (compact_srt _).1 fun x => ?_
  rw [mem_resList, List.mem_filter]
  refine ⟨fun h => h.2, fun h => ⟨mem_rng.2 ?_, h⟩⟩
  have hx : x ∈ a ∨ x ∈ b := by
    unfold resP at h
    simp only [Bool.or_eq_true, Bool.and_eq_true, decide_eq_true_eq] at h
    rcases h with h | h
    · exact .inl h.2
    · exact .inr h.2
  have hl : isLit N x = true := by
    rcases hx with h | h
    · exact List.all_eq_true.1 ha x h
    · exact List.all_eq_true.1 hb x h
  have : -(N : Int) ≤ x ∧ x ≤ N ∧ x ≠ 0 := by simpa [isLit] using hl
  omega

theorem resList_clause {n : Int} {a b : List Int} {v : Int} (ha : isClause n a = true) (hb : isClause n b = true) : isClause n (resList a b v) = true := by
  unfold isClause
  rw [List.all_eq_true]
  intro x hx
  rw [mem_resList] at hx
  unfold resP at hx
  simp only [Bool.or_eq_true, Bool.and_eq_true, decide_eq_true_eq] at hx
  rcases hx with h | h
  · exact List.all_eq_true.1 ha x h.2
  · exact List.all_eq_true.1 hb x h.2

/-- It follows. -/
theorem res_fol {a b : List Int} {v : Int} (ha : v ∈ a) (hb : -v ∈ b) : fol [a, b] (resList a b v) = true := by
  have hneg : ∀ m ∈ resList a b v, Der [a, b] (negs (resList a b v)) (-m) := fun m hm => .given_ (List.mem_map.2 ⟨m, hm, rfl⟩)
  have d1 : Der [a, b] (negs (resList a b v)) v := .unit_ (c := a) (by simp) ha fun m hm hne => hneg m (mem_resList.2 (by
    unfold resP; simp only [Bool.or_eq_true, Bool.and_eq_true, decide_eq_true_eq, bne_iff_ne]; exact .inl ⟨hne, hm⟩))
  have d2 : Der [a, b] (negs (resList a b v)) (-v) := .unit_ (c := b) (by simp) hb fun m hm hne => hneg m (mem_resList.2 (by
    unfold resP; simp only [Bool.or_eq_true, Bool.and_eq_true, decide_eq_true_eq, bne_iff_ne]; exact .inr ⟨hne, hm⟩))
  exact fol_iff.2 (incons_of d1 d2)
end S
end Go.Proofs.Ytceelipcclfdmaa
