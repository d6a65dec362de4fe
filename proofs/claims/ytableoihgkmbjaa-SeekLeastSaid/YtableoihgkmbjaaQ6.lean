/- The walk through all rows of a length: what lies in its variables. -/
import Derived.Test.YtableoihgkmbjaaQ4s
import Derived.Test.YtableoihgkmbjaaQ5
import Derived.Test.YtableoihgkmbjaaRf
import Derived.Test.YtableoihgkmbjaaSp
namespace Go.Proofs.Ytableoihgkmbjaa
open Go.RowKit
set_option linter.unusedVariables false

/-- the blocks of the variables: row, length, columns, yield, grow, s, walk -/
structure Bk where
  R : Nat
  L : Nat
  C : Nat
  Y : Nat
  G : Nat
  S : Nat
  V : Nat

def Bk.caps (b : Bk) : Array Value := #[.pointer (some ⟨b.R, 0, none⟩), .pointer (some ⟨b.L, 0, none⟩), .pointer (some ⟨b.C, 0, none⟩), .pointer (some ⟨b.Y, 0, none⟩), .pointer (some ⟨b.G, 0, none⟩), .pointer (some ⟨b.S, 0, none⟩), .pointer (some ⟨b.V, 0, none⟩)]

/-- the variables that no one writes -/
structure FInv (k w n : Nat) (b : Bk) (l : Nat) (A : World) : Prop where
  yd : A.heap[b.Y]? = some (.cells #[.func (.yield l) #[] #[]] 69 (0, 0))
  fn : A.heap[b.G]? = some (.cells #[.func (.func 36) #[] #[]] 71 (0, 0))
  wk : A.heap[b.V]? = some (.cells #[.func (.func 37) #[] b.caps] 25 (0, 0))
  sp : A.heap[b.S]? = some (.cells #[.int .i64 k, .int .i64 w] 44 (0, 0))
  le : A.heap[b.L]? = some (.cells #[.int .i64 n] 3 (0, 0))

/-- the row and the columns, as they stand at a row -/
structure SInv (k w n : Nat) (b : Bk) (l B0 : Nat) (r : List K.Stp) (A : World) : Prop where
  fix : FInv k w n b l A
  row : ∃ Ar cr, A.heap[b.R]? = some (.cells #[.slice Ar r.length cr] 26 (0, 0)) ∧ OwnAt A 42 3 (.slice Ar r.length cr) r.length (flatS r) ∧ ∀ g, (Value.slice Ar r.length cr).ownBlock = some g → B0 ≤ g
  col : ∃ Ac cc us, A.heap[b.C]? = some (.cells #[.slice Ac (k + 2 + r.length) cc] 50 (0, 0)) ∧ OwnAt A 24 1 (.slice Ac (k + 2 + r.length) cc) (k + 2 + r.length) us ∧ Elems (ColC B0) A us (K.cols k w r) ∧ ∀ g, (Value.slice Ac (k + 2 + r.length) cc).ownBlock = some g → B0 ≤ g

/-- where the blocks lie -/
structure BkAt (b : Bk) (B0 : Nat) : Prop where
  R : B0 ≤ b.R
  C : B0 ≤ b.C
  Y : B0 ≤ b.Y
  G : B0 ≤ b.G
  V : B0 ≤ b.V

section
variable {k w n : Nat} {b : Bk} {l B0 : Nat} {r : List K.Stp} {A A' : World}

theorem FInv.keep (h : FInv k w n b l A) (hk : ∀ g o, A.heap[g]? = some o → (g = b.Y ∨ g = b.G ∨ g = b.V ∨ g = b.S ∨ g = b.L) → A'.heap[g]? = some o) : FInv k w n b l A' :=
  ⟨hk _ _ h.yd (by simp), hk _ _ h.fn (by simp), hk _ _ h.wk (by simp), hk _ _ h.sp (by simp), hk _ _ h.le (by simp)⟩

/-- each block of the walk's stays: then all of it stays -/
theorem SInv.keep (hb : BkAt b B0) (h : SInv k w n b l B0 r A) (hk : ∀ g o, A.heap[g]? = some o → (B0 ≤ g ∨ g = b.S ∨ g = b.L) → A'.heap[g]? = some o) : SInv k w n b l B0 r A' := by
  obtain ⟨hf, ⟨Ar, cr, h1, h2, h3⟩, ⟨Ac, cc, us, c1, c2, c3, c4⟩⟩ := h
  have own : ∀ (e : TypeId) (s m : Nat) (v : Value) (xs : List Value), OwnAt A e s v m xs → (∀ g, v.ownBlock = some g → B0 ≤ g) → OwnAt A' e s v m xs := fun e s m v xs ho hg => ho.same fun g hgv => by
    obtain ⟨cur, hc⟩ := ho.typed g hgv
    exact (hk g _ hc (.inl (hg g hgv))).trans hc.symm
  refine ⟨hf.keep fun g o hg hor => hk g o hg ?_, ⟨Ar, cr, hk _ _ h1 (.inl hb.R), own _ _ _ _ _ h2 h3, h3⟩, ⟨Ac, cc, us, hk _ _ c1 (.inl hb.C), own _ _ _ _ _ c2 c4, c3.map_ fun u x hu => ?_, c4⟩⟩
  · rcases hor with rfl | rfl | rfl | rfl | rfl
    · exact .inl hb.Y
    · exact .inl hb.G
    · exact .inl hb.V
    · exact .inr (.inl rfl)
    · exact .inr (.inr rfl)
  · obtain ⟨q, e1, e2, e3⟩ := hu
    exact ⟨q, e1, e2, hk _ _ e3 (.inl e2)⟩
theorem SInv.below (hb : BkAt b B0) (h : SInv k w n b l B0 r A) (hB : Below A.heap.size A A') : SInv k w n b l B0 r A' :=
  h.keep hb fun g o hg _ => (hB.block g (Array.getElem?_eq_some_iff.1 hg).1).trans hg
theorem SInv.kpt (hb : BkAt b B0) (h : SInv k w n b l B0 r A) (hK : Kpt B0 A A') (hS : A'.heap[b.S]? = some (.cells #[.int .i64 k, .int .i64 w] 44 (0, 0))) (hL : A'.heap[b.L]? = some (.cells #[.int .i64 n] 3 (0, 0))) : SInv k w n b l B0 r A' := by
  refine h.keep hb fun g o hg hor => ?_
  rcases hor with h1 | rfl | rfl
  · exact (hK.block g h1 (Array.getElem?_eq_some_iff.1 hg).1).trans hg
  · rw [h.fix.sp] at hg; rw [← hg]; exact hS
  · rw [h.fix.le] at hg; rw [← hg]; exact hL

theorem SInv.meaning (hk : k = 1 ∨ k = 2) (hsz : K.size k w ≤ 64) (h : SInv k w n b l B0 r A) : ∃ Ac cc q, A.heap[b.C]? = some (.cells #[.slice Ac (k + 2 + r.length) cc] 50 (0, 0)) ∧
    (∃ b1 off, Ac = some ⟨b1, off, none⟩ ∧ b1 < A.heap.size ∧ A.cell? ⟨b1, off + (if r.length = 0 then 0 else k + 2 + r.length - 1), none⟩ = some (.slice (some ⟨q, 0, none⟩) (K.size k w) (K.size k w))) ∧ SlAt (IntR .u32) A (some ⟨q, 0, none⟩) (K.size k w) (K.meaning k w r) := by
  obtain ⟨_, _, ⟨Ac, cc, us, c1, c2, c3, c4⟩⟩ := h
  have hi : (if r.length = 0 then 0 else k + 2 + r.length - 1) < k + 2 + r.length := by split <;> omega
  obtain ⟨b1, off, u, hA, hb1, hcell, hu⟩ := c2.at1 hi
  obtain ⟨q, rfl, hq, hrow⟩ := c3.2 _ _ _ (K.meaning_cols hk r) hu
  have hml := K.meaning_len k w r
  refine ⟨Ac, cc, q, c1, ⟨b1, off, hA, hb1, by rw [hcell, hml]⟩, ?_⟩
  refine ⟨hml, by omega, fun j x hx => ⟨q, 0, .int .u32 x, rfl, (Array.getElem?_eq_some_iff.1 hrow).1, ?_, rfl⟩⟩
  rw [cell_of_row A q _ _ _ (0, 0) hrow, Nat.zero_add, List.getElem?_toArray, List.getElem?_map, hx]
  rfl
end
end Go.Proofs.Ytableoihgkmbjaa
