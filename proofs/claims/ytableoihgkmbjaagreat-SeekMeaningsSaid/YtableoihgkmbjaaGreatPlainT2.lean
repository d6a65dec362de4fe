/- Plain words of the layer of terms: clashes of variables. No program. -/
import Derived.Test.YtableoihgkmbjaaGreatPlainT
namespace Go.Proofs.YtableoihgkmbjaaGreat.T
set_option linter.unusedVariables false
set_option linter.unusedSimpArgs false
/-- what is asked of the nodes where their variables are gone through -/
def okVars (t : List Nd) : Prop := ∀ y ∈ t, 0 ≤ y.imm ∧ (y.op = 33 → y.imm < 4 ∧ 1 ≤ y.w)
theorem okVars.take {t : List Nd} (h : okVars t) (j : Nat) : okVars (t.take j) := fun y hy => h y (List.mem_of_mem_take hy)
theorem widths_mem {t : List Nd} {v : Nat} {z : Int} : (widths t)[v]? = some z → z ≠ 0 → ∃ (i : Nat) (y : Nd), t[i]? = some y ∧ y.op = 33 ∧ y.imm.toNat = v ∧ y.w = z := by
  refine snocInd (P := fun t => (widths t)[v]? = some z → z ≠ 0 → ∃ (i : Nat) (y : Nd), t[i]? = some y ∧ y.op = 33 ∧ y.imm.toNat = v ∧ y.w = z) (fun h hz => ?_) (fun t x ih h hz => ?_) t
  · exfalso
    have hv : v < 4 := (List.getElem?_eq_some_iff.1 h).1
    have : v = 0 ∨ v = 1 ∨ v = 2 ∨ v = 3 := by omega
    rcases this with rfl | rfl | rfl | rfl <;> exact hz (Option.some.inj h).symm
  · have go : (widths t)[v]? = some z → ∃ (i : Nat) (y : Nd), (t ++ [x])[i]? = some y ∧ y.op = 33 ∧ y.imm.toNat = v ∧ y.w = z := fun h' => by
      obtain ⟨i, y, h1, h2⟩ := ih h' hz
      exact ⟨i, y, by rw [List.getElem?_append_left (List.getElem?_eq_some_iff.1 h1).1]; exact h1, h2⟩
    rw [widths_snoc] at h
    split at h
    · rename_i hx
      by_cases he : x.imm.toNat = v
      · have hl := widths_len t
        have hv : v < 4 := by have := (List.getElem?_eq_some_iff.1 h).1; rw [List.length_set] at this; omega
        rw [he, List.getElem?_set_self (by omega)] at h
        exact ⟨t.length, x, by simp, hx, he, Option.some.inj h⟩
      · rw [List.getElem?_set_ne he] at h; exact go h
    · exact go h
theorem clash_other {t : List Nd} {x : Nd} (h : clashes t = false) (hx : x.op ≠ 33) : clashes (t ++ [x]) = false := by
  rw [clashes_iff] at h ⊢
  intro i j a b hij ha hb
  by_cases hj : j < t.length
  · rw [List.getElem?_append_left hj] at hb
    rw [List.getElem?_append_left (by omega)] at ha
    exact h i j a b hij ha hb
  · have : j = t.length := by have := (List.getElem?_eq_some_iff.1 hb).1; simp at this; omega
    subst this
    simp at hb
    subst hb
    unfold clash
    simp [hx]
theorem clash_good {t : List Nd} {x : Nd} (h : clashes t = false) (ht : okVars t) (hx : x.op = 33) (h0 : 0 ≤ x.imm) {v : Int} (hv : (widths t)[x.imm.toNat]? = some v) (hg : v = 0 ∨ v = x.w) : clashes (t ++ [x]) = false := by
  have h' := h
  rw [clashes_iff] at h ⊢
  intro i j a b hij ha hb
  by_cases hj : j < t.length
  · rw [List.getElem?_append_left hj] at hb
    rw [List.getElem?_append_left (by omega)] at ha
    exact h i j a b hij ha hb
  · have : j = t.length := by have := (List.getElem?_eq_some_iff.1 hb).1; simp at this; omega
    subst this
    simp at hb
    subst hb
    rw [List.getElem?_append_left hij] at ha
    unfold clash
    by_cases ho : a.op = 33
    · by_cases he : a.imm = x.imm
      · have hm := ht a (List.mem_of_getElem? ha)
        have := widths_at h' (fun y hy => (ht y hy).1) ha ho (hm.2 ho).1
        rw [he, hv] at this
        have hw := Option.some.inj this
        have := (hm.2 ho).2
        have : a.w = x.w := by omega
        simp [this]
      · simp [he]
    · simp [ho]
theorem clash_bad {t : List Nd} {x : Nd} (ht : okVars t) (hx : x.op = 33) (h0 : 0 ≤ x.imm) {v : Int} (hv : (widths t)[x.imm.toNat]? = some v) (h1 : v ≠ 0) (h2 : v ≠ x.w) : clashes (t ++ [x]) = true := by
  cases e : clashes (t ++ [x])
  · exfalso
    obtain ⟨i, y, hy, ho, hi, hw⟩ := widths_mem hv h1
    have hlt := (List.getElem?_eq_some_iff.1 hy).1
    have := clashes_iff.1 e i t.length y x hlt (by rw [List.getElem?_append_left hlt]; exact hy) (by simp)
    have hy0 := (ht y (List.mem_of_getElem? hy)).1
    have he : y.imm = x.imm := by omega
    unfold clash at this
    simp [ho, hx, he, hw] at this
    exact h2 this
  · rfl
theorem clashes_take {t : List Nd} {j : Nat} (h : clashes (t.take j) = true) : clashes t = true := by
  cases e : clashes t
  · exfalso
    have : clashes (t.take j) = false := clashes_iff.2 fun i k a b hik ha hb => by
      rw [List.getElem?_take] at ha hb
      split at ha
      · split at hb
        · exact clashes_iff.1 e i k a b hik ha hb
        · cases hb
      · cases ha
    rw [h] at this
    cases this
  · rfl
/-- the nodes of a term of right shapes -/
theorem okVars_of {z : Bool} {t : List Nd} (h : ∀ i x, t[i]? = some x → shaped z i x = true) (h0 : ∀ y ∈ t, 0 ≤ y.imm) : okVars t := fun y hy => by
  refine ⟨h0 y hy, fun ho => ?_⟩
  obtain ⟨i, hi⟩ := List.mem_iff_getElem?.1 hy
  obtain ⟨_, _, h3, _, h5, _⟩ := shaped_args (h i y hi)
  unfold immOk at h5
  rw [if_neg (by omega), if_pos ho] at h5
  exact ⟨by simpa using h5, h3⟩
end Go.Proofs.YtableoihgkmbjaaGreat.T
