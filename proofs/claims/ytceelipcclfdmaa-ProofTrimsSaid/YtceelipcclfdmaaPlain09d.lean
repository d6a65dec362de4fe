/- Plain laws of trimming: what is left is a proof; nothing more can be left out. No program. -/
import Derived.Test.YtceelipcclfdmaaPlain09b
namespace Go.Proofs.Ytceelipcclfdmaa.S

theorem bad_mono {cs cs' : List (List Int)} (h : ∀ c ∈ cs, c ∈ cs') : ∀ {l : List (List Int)}, bad cs l = none → bad cs' l = none := by
  intro l
  induction l generalizing cs cs' with
  | nil => intro _; rfl
  | cons x r ih =>
    intro hb
    rw [bad] at hb ⊢
    split at hb
    · rename_i hf
      rw [if_pos (fol_mono h hf)]
      have hr : bad (cs ++ [x]) r = none := by simpa using hb
      rw [ih (cs' := cs' ++ [x]) (fun c hc => by
        rcases List.mem_append.1 hc with hc | hc
        · exact List.mem_append_left _ (h c hc)
        · exact List.mem_append_right _ hc) hr]
      rfl
    · cases hb

theorem bad_append {cs p s : List (List Int)} : bad cs (p ++ s) = none ↔ bad cs p = none ∧ bad (cs ++ p) s = none := by
  induction p generalizing cs with
  | nil => simp [bad]
  | cons x r ih =>
    rw [List.cons_append, bad, bad]
    by_cases hf : fol cs x = true
    · rw [if_pos hf, if_pos hf]
      have := ih (cs := cs ++ [x])
      simp only [Option.map_eq_none_iff]
      rw [this, List.append_assoc]
      rfl
    · rw [if_neg hf, if_neg hf]
      simp

theorem bad_cons {cs s : List (List Int)} {x : List Int} : bad cs (x :: s) = none ↔ fol cs x = true ∧ bad (cs ++ [x]) s = none := by
  rw [bad]
  by_cases hf : fol cs x = true
  · rw [if_pos hf]; simp [hf]
  · rw [if_neg hf]; simp [hf]

theorem failure_none {cs l : List (List Int)} : failure cs l = none ↔ bad cs l = none ∧ l.getLast? = some [] := by
  unfold failure
  cases hb : bad cs l with
  | none => by_cases h : l.getLast? = some [] <;> simp [h]
  | some k => simp

/-- A clause that followed at its place may be put back. -/
theorem bad_insert {cs p s : List (List Int)} {x : List Int} (h : bad cs (p ++ s) = none) (hx : fol (cs ++ p) x = true) : bad cs (p ++ x :: s) = none := by
  rw [bad_append] at h ⊢
  refine ⟨h.1, bad_cons.2 ⟨hx, bad_mono (fun c hc => List.mem_append_left _ hc) h.2⟩⟩

theorem last_append {α : Type} (a : List α) {b : List α} (h : b ≠ []) : (a ++ b).getLast? = b.getLast? := by
  rw [List.getLast?_append]
  cases hb : b.getLast? with
  | none => exact absurd (List.getLast?_eq_none_iff.1 hb) h
  | some x => rfl

def Tight (cs : List (List Int)) (k : Nat) (l : List (List Int)) : Prop := ∀ j, k ≤ j → j + 1 < l.length → failure cs (l.eraseIdx j) ≠ none

theorem tight_step {cs l : List (List Int)} {k : Nat} (hl : failure cs l = none) (ht : Tight cs (k + 1) l) (hk : k + 1 < l.length) (he : failure cs (l.eraseIdx k) = none) : Tight cs k (l.eraseIdx k) := by
  intro j hkj hj hf
  have hlen : (l.eraseIdx k).length = l.length - 1 := by rw [List.length_eraseIdx]; simp [show k < l.length by omega]
  rw [hlen] at hj
  refine ht (j + 1) (by omega) (by omega) ?_
  have hkl : k < l.length := by omega
  obtain ⟨p, x, s, hl', hp⟩ : ∃ p x s, l = p ++ x :: s ∧ p.length = k := ⟨l.take k, l[k], l.drop (k + 1), by
    rw [← List.drop_eq_getElem_cons hkl, List.take_append_drop], by simp; omega⟩
  subst hl'
  subst hp
  have e1 : (p ++ x :: s).eraseIdx p.length = p ++ s := by
    rw [List.eraseIdx_append_of_length_le (Nat.le_refl _)]; simp
  rw [e1] at hf
  have e2 : (p ++ s).eraseIdx j = p ++ s.eraseIdx (j - p.length) := List.eraseIdx_append_of_length_le hkj _
  have e3 : (p ++ x :: s).eraseIdx (j + 1) = p ++ x :: s.eraseIdx (j - p.length) := by
    rw [List.eraseIdx_append_of_length_le (by omega), show j + 1 - p.length = (j - p.length) + 1 by omega]; rfl
  rw [e2] at hf
  rw [e3]
  rw [failure_none] at hf hl ⊢
  have hx : fol (cs ++ p) x = true := (bad_cons.1 (bad_append.1 hl.1).2).1
  refine ⟨bad_insert hf.1 hx, ?_⟩
  have hne : s.eraseIdx (j - p.length) ≠ [] := by
    intro h0
    have hh : (s.eraseIdx (j - p.length)).length = 0 := by rw [h0]; rfl
    simp at hj
    rw [List.length_eraseIdx] at hh
    split at hh <;> omega
  have e4 : (p ++ x :: s.eraseIdx (j - p.length)).getLast? = (s.eraseIdx (j - p.length)).getLast? := by
    rw [show p ++ x :: s.eraseIdx (j - p.length) = (p ++ [x]) ++ s.eraseIdx (j - p.length) by simp, last_append _ hne]
  rw [e4]
  have := hf.2
  rwa [last_append _ hne] at this

theorem trimTo_tight {cs : List (List Int)} : ∀ (k : Nat) {l : List (List Int)}, failure cs l = none → Tight cs k l → k < l.length → failure cs (trimTo cs k l) = none ∧ Tight cs 0 (trimTo cs k l) ∧ (trimTo cs k l).length ≤ l.length ∧ 0 < (trimTo cs k l).length
  | 0, l, hl, ht, hk => ⟨hl, ht, Nat.le_refl _, hk⟩
  | k + 1, l, hl, ht, hk => by
    rw [trimTo]
    have hlen : (l.eraseIdx k).length = l.length - 1 := by rw [List.length_eraseIdx]; simp [show k < l.length by omega]
    by_cases he : failure cs (l.eraseIdx k) = none
    · rw [if_pos he]
      obtain ⟨h1, h2, h3, h4⟩ := trimTo_tight k he (tight_step hl ht hk he) (by omega)
      exact ⟨h1, h2, by omega, h4⟩
    · rw [if_neg he]
      refine trimTo_tight k hl (fun j hj hj2 => ?_) (by omega)
      rcases Nat.lt_or_ge k j with h | h
      · exact ht j h hj2
      · obtain rfl : j = k := by omega
        exact he

theorem proof_length {cs l : List (List Int)} (h : failure cs l = none) : 0 < l.length := by
  cases l with
  | nil => have := (failure_none.1 h).2; cases this
  | cons x r => simp

theorem trimTo_stays {cs : List (List Int)} {f : List (List Int)} (ht : Tight cs 0 f) : ∀ k, k < f.length → trimTo cs k f = f
  | 0, _ => rfl
  | k + 1, hk => by
    rw [trimTo, if_neg (ht k (Nat.zero_le _) hk)]
    exact trimTo_stays ht k (by omega)

/-- What is left of a proof is one, no longer than it, and trimming it again changes nothing. -/
theorem trim_proof {cs l : List (List Int)} (h : failure cs l = none) : failure cs (trim cs l) = none ∧ trim cs (trim cs l) = trim cs l ∧ (trim cs l).length ≤ l.length := by
  have h0 := proof_length h
  obtain ⟨h1, h2, h3, h4⟩ := trimTo_tight (l.length - 1) h (fun j hj hj2 => by omega) (by omega)
  refine ⟨h1, ?_, h3⟩
  show trimTo cs ((trim cs l).length - 1) (trim cs l) = trim cs l
  exact trimTo_stays h2 _ (by
    have : 0 < (trim cs l).length := h4
    show (trim cs l).length - 1 < (trim cs l).length
    omega)

theorem trimTo_sub {cs : List (List Int)} : ∀ (k : Nat) {l : List (List Int)}, ∀ x ∈ trimTo cs k l, x ∈ l
  | 0, _, x, hx => hx
  | k + 1, l, x, hx => by
    rw [trimTo] at hx
    have := trimTo_sub k x hx
    split at this
    · exact List.mem_of_mem_eraseIdx this
    · exact this
theorem trim_sub {cs l : List (List Int)} : ∀ x ∈ trim cs l, x ∈ l := trimTo_sub _
end Go.Proofs.Ytceelipcclfdmaa.S
