/- Own law: a drawn region whose calls may make memory: whatever lies over a world. -/
import Derived.Test.YtableoihgkmbjaaGreatRg
namespace Go.Proofs.YtableoihgkmbjaaGreat
open Go.RowKit

/-- worlds that keep what W holds, as the values of one function -/
structure Ov (W : World) where
  f : World → World
  below : ∀ u, Below W.heap.size W (f u)
  eq : ∀ u, Below W.heap.size W u → f u = u

theorem ov_ex (W : World) : Nonempty (Ov W) := by
  have h : ∀ u : World, ∃ v : World, Below W.heap.size W v ∧ (Below W.heap.size W u → v = u) := fun u => by
    by_cases h : Below W.heap.size W u
    · exact ⟨u, h, fun _ => rfl⟩
    · exact ⟨W, Below.refl _ _, fun h' => absurd h' h⟩
  obtain ⟨f, hf⟩ := Classical.axiomOfChoice h
  exact ⟨⟨f, fun u => (hf u).1, fun u => (hf u).2⟩⟩

theorem cell_below {W : World} {b o : Nat} {v : Value} (h : W.cell? ⟨b, o, none⟩ = some v) : b < W.heap.size := by
  rcases Nat.lt_or_ge b W.heap.size with h' | h'
  · exact h'
  · simp [World.cell?, Array.getElem?_eq_none h'] at h

theorem Ov.cell {W : World} (ov : Ov W) {b o : Nat} {v : Value} (h : W.cell? ⟨b, o, none⟩ = some v) (u : World) : (ov.f u).cell? ⟨b, o, none⟩ = some v :=
  ((ov.below u).cell (p := ⟨b, o, none⟩) (cell_below h)).trans h

theorem calls_over {P : Program} {f : FuncId} {args : Array Value} {W u : World} {ov : Ov W} {v : Value} (h : Calls P f args (ov.f u) fun e w' => e = .returned v ∧ Below (ov.f u).heap.size (ov.f u) w') :
    Calls P f args (ov.f u) fun e w'' => e = .returned v ∧ ∃ m, w'' = ov.f m :=
  h.mono fun _ w'' ⟨he, hb⟩ => ⟨he, w'', (ov.eq _ ((ov.below u).trans (hb.mono (ov.below u).size))).symm⟩
theorem calls_over_same {P : Program} {f : FuncId} {args : Array Value} {W u : World} {ov : Ov W} {v : Value} (h : Calls P f args (ov.f u) fun e w' => e = .returned v ∧ ov.f u = w') :
    Calls P f args (ov.f u) fun e w'' => e = .returned v ∧ ∃ m, w'' = ov.f m :=
  h.mono fun _ w'' ⟨he, hb⟩ => ⟨he, u, hb.symm⟩
theorem calls_over_dr {P : Program} {f : FuncId} {args : Array Value} {W u : World} {ov : Ov W} {v : Value} (h : Calls P f args (ov.f u) fun e w' => e = .returned v ∧ Dr (ov.f u) w') :
    Calls P f args (ov.f u) fun e w'' => e = .returned v ∧ ∃ m, w'' = ov.f m :=
  calls_over (h.mono fun _ w'' ⟨he, hb⟩ => ⟨he, hb.below _⟩)

def lastOf : List Oper → List Oper
  | [] => []
  | o :: l => match l with
    | [] => [o]
    | _ => lastOf l
def headOf : List Oper → List Oper
  | [] => []
  | o :: l => match l with
    | [] => []
    | _ => o :: headOf l
theorem headOf_take (l : List Oper) : headOf l = l.take (l.length - 1) := by
  induction l with
  | nil => rfl
  | cons o l ih =>
    cases l with
    | nil => rfl
    | cons o' l => show o :: headOf (o' :: l) = _; rw [ih]; simp
theorem lastOf_drop (l : List Oper) : lastOf l = l.drop (l.length - 1) := by
  induction l with
  | nil => rfl
  | cons o l ih =>
    cases l with
    | nil => rfl
    | cons o' l => show lastOf (o' :: l) = _; rw [ih]; simp

/-- A drawn region with a tail: its head reads and calls, its last operation is whatever. -/
theorem wp_region_ov {P : Program} {id : Nat} {Q : Exit → Act → World → Prop} {a : Act} {w : World} {l : List Oper} (ov : Ov w) (hm : P.follows .mixedOrders = true) (hB : (Rg.fineB .any l.toArray (l.length - 1) && decide (l.length - 1 + 1 = l.length)) = true)
    (h : wpQuiet P l.toArray (fun w' => ∃ u, w' = ov.f u) (fun a' => ∀ w', (∃ u, w' = ov.f u) → ∀ K : Act → World → Prop, (∀ a w, Q .normal a w → K a w) → wpList P l.toArray (Rg.onlyK K) (lastOf l) a' w') (headOf l) a) : (Code.region id l.toArray true).wp P Q a w := by
  rw [headOf_take, lastOf_drop] at h
  exact Rg.wp_region (fun w' => ∃ u, w' = ov.f u) _ hm hB ⟨w.drew, (ov.eq w.drew ⟨rfl, rfl, rfl, Nat.le_refl _, fun _ _ => rfl⟩).symm⟩ h

/-- A drawn region that reads and calls. -/
theorem wp_region_ovq {P : Program} {id : Nat} {Q : Exit → Act → World → Prop} {a : Act} {w : World} {l : List Oper} (ov : Ov w) (hm : P.follows .mixedOrders = true) (hB : Region.lexB .any l.toArray = true)
    (h : wpQuiet P l.toArray (fun w' => ∃ u, w' = ov.f u) (fun a' => ∀ w', (∃ u, w' = ov.f u) → Q .normal a' w') l a) : (Code.region id l.toArray true).wp P Q a w :=
  wp_region_quiet (C := fun w' => ∃ u, w' = ov.f u) hm hB ⟨w.drew, (ov.eq w.drew ⟨rfl, rfl, rfl, Nat.le_refl _, fun _ _ => rfl⟩).symm⟩ (by simpa using h)
end Go.Proofs.YtableoihgkmbjaaGreat
