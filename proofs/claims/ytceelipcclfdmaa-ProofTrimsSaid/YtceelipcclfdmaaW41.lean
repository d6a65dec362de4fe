/- Walks of the program: Trim. -/
import Derived.Test.YtceelipcclfdmaaW40
import Derived.Deep.RegionWith
namespace Go.Proofs.Ytceelipcclfdmaa
open Go.RowKit Go.Maps Go.Sort
set_option linter.unusedVariables false

noncomputable def S.trimOf (n : Int) (cs l : List (List Int)) : List (List Int) × Int := if (S.check n cs l).2 ≠ 0 then ([], (S.check n cs l).2) else (S.trim cs l, 0)
def SomeTabE (w : World) (r : List (List Int) × Int) (e : Ending) (w' : World) : Prop := ∃ A m c, e = .returned (.tuple #[.slice A m c, .int .i64 r.2]) ∧ SlAt (SlR (IntR .i64)) w' A m r.1 ∧ Below w.heap.size w w'

theorem tot_small {cs : List (List Int)} (h1 : cs.length ≤ 400) (h2 : ∀ x ∈ cs, x.length ≤ 100) : tot cs ≤ 40000 := by
  have h3 : tot cs ≤ 100 * cs.length := by
    clear h1
    induction cs with
    | nil => simp [tot]
    | cons y r ih =>
      have h4 := h2 y (List.mem_cons_self ..)
      have h5 := ih fun x hx => h2 x (List.mem_cons_of_mem _ hx)
      simp [tot] at h5 ⊢
      omega
  omega

theorem RowOwn.elems {w : World} {us : List Value} {xs : List (List Int)} (h : Elems RowOwn w us xs) : Elems (SlR (IntR .i64)) w us xs := h.map_ fun u x hu => RowOwn.slR hu

theorem Elems.erase {α : Type} {R : World → Value → α → Prop} {w : World} {us : List Value} {xs : List α} (h : Elems R w us xs) (k : Nat) : Elems R w (us.take k ++ us.drop (k + 1)) (xs.eraseIdx k) := by
  rw [← List.eraseIdx_eq_take_drop_succ]
  refine ⟨?_, fun j x u hx hu => ?_⟩
  · rw [List.length_eraseIdx, List.length_eraseIdx, h.1]
  · rw [List.getElem?_eraseIdx] at hx hu
    split at hx
    · rename_i hj; rw [if_pos hj] at hu; exact h.2 j x u hx hu
    · rename_i hj; rw [if_neg hj] at hu; exact h.2 (j + 1) x u hx hu

/-- the two parts of a slice of the call's own around a place -/
theorem OwnAt.parts {w : World} {e : TypeId} {n k : Nat} {v : Value} {us : List Value} (h : OwnAt w e 1 v n us) (hk : k < n) :
    ∃ g off cap A2, v = .slice (some ⟨g, off, none⟩) n cap ∧ n ≤ cap ∧ cap ≤ maxLen ∧ SrcR w (.slice (some ⟨g, off, none⟩) k cap) (us.take k) ∧ SrcR w (.slice A2 (n - (k + 1)) (cap - (k + 1))) (us.drop (k + 1)) ∧
      A2 = (if cap = k + 1 then some ⟨g, off, none⟩ else some ⟨g, off + (k + 1), none⟩) := by
  have hl := h.1
  rcases h.2 with ⟨rfl, h0⟩ | ⟨g, off, cap, cur, rfl, hg, hnc, hcm, hcs, hcur⟩
  · omega
  refine ⟨g, off, cap, _, rfl, hnc, hcm, ⟨_, _, by rw [List.length_take, show min k us.length = k by omega], fun j x hx => ⟨g, off, rfl, ?_⟩⟩, ⟨_, _, by rw [List.length_drop, hl, Nat.mul_one], fun j x hx => ?_⟩, rfl⟩
  · rw [cell_of_row w g _ cur e (0, 0) hg]
    rw [List.getElem?_take] at hx
    split at hx
    · exact hcur j x hx
    · cases hx
  · have hj := (List.getElem?_eq_some_iff.1 hx).1
    rw [List.length_drop] at hj
    rw [List.getElem?_drop] at hx
    by_cases hck : cap = k + 1
    · omega
    · rw [if_neg hck]
      refine ⟨g, off + (k + 1), rfl, ?_⟩
      rw [cell_of_row w g _ cur e (0, 0) hg, Nat.add_assoc]
      exact hcur _ x hx

theorem run_slice_to {P : Program} {t e : TypeId} {z : Value} {bytes : Nat} (ht : P.underlying t = some (.slice e)) (hinfo : (P.info? e).map (fun i => (i.zero, i.size, i.bytes)) = some (some z, 1, bytes)) (g off n cap k : Nat) (hk : k ≤ cap) (w : World) :
    (Instr.slice t (.slice (some ⟨g, off, none⟩) n cap) none (some (.int .i64 (k : Int))) none).run P w = .ok (.slice (some ⟨g, off, none⟩) k cap) w := by
  obtain ⟨i, hi, hz, hsz, hby⟩ := info_parts hinfo
  simp [Instr.slice, Instr.sliceBounds, Instr.sliceBound, run_underlying ht, asIntOf, sizeOf, typeInfo, hi, hsz, hk, addr_add_zero]
theorem run_slice_fromN {P : Program} {t e : TypeId} {z : Value} {bytes : Nat} (ht : P.underlying t = some (.slice e)) (hinfo : (P.info? e).map (fun i => (i.zero, i.size, i.bytes)) = some (some z, 1, bytes)) (g off n cap K : Nat) (hk : K ≤ n) (w : World) :
    (Instr.slice t (.slice (some ⟨g, off, none⟩) n cap) (some (.int .i64 (K : Int))) none none).run P w = .ok (.slice (if cap = K then some ⟨g, off, none⟩ else some ⟨g, off + K, none⟩) (n - K) (cap - K)) w := by
  obtain ⟨i, hi, hz, hsz, hby⟩ := info_parts hinfo
  simp [Instr.slice, Instr.sliceBounds, Instr.sliceBound, run_underlying ht, asIntOf, sizeOf, typeInfo, hi, hsz, hk]
  by_cases hck : cap = K
  · simp [hck]
  · simp [hck, addr_add_zero]
theorem run_slice_from' {P : Program} {t e : TypeId} {z : Value} {bytes : Nat} (ht : P.underlying t = some (.slice e)) (hinfo : (P.info? e).map (fun i => (i.zero, i.size, i.bytes)) = some (some z, 1, bytes)) (g off n cap k : Nat) (hk : k + 1 ≤ n) (w : World) :
    (Instr.slice t (.slice (some ⟨g, off, none⟩) n cap) (some (.int .i64 ((k : Int) + 1))) none none).run P w = .ok (.slice (if cap = k + 1 then some ⟨g, off, none⟩ else some ⟨g, off + (k + 1), none⟩) (n - (k + 1)) (cap - (k + 1))) w :=
  run_slice_fromN ht hinfo g off n cap (k + 1) hk w
end Go.Proofs.Ytceelipcclfdmaa
