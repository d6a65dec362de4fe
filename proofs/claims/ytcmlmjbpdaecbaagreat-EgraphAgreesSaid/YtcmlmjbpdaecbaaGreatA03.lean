/- Merged: QPlainE4, QPlainE5, QPlainE6, QPlainE7. -/
import Derived.Test.YtcmlmjbpdaecbaaGreatA02
set_option linter.unusedVariables false
set_option linter.unusedSimpArgs false
section
namespace Go.Proofs.YtcmlmjbpdaecbaaGreat
set_option linter.unusedVariables false
set_option linter.unusedSimpArgs false
namespace E

/-- a round: what is known so far, and what is left; whether two classes were made one -/
def pass : List Nat → List (Opn × Nat) → List (Opn × Nat) → List Nat × List (Opn × Nat) × Bool
  | p, kn, [] => (p, kn, false)
  | p, kn, e :: es =>
    match kn.find? (fun k => decide (k.1 = can p e.1)) with
    | none => pass p (kn ++ [(can p e.1, root p e.2)]) es
    | some k => if root p k.2 = root p e.2 then pass p kn es else ((pass (join p k.2 e.2) kn es).1, (pass (join p k.2 e.2) kn es).2.1, true)

def In (p : List Nat) (l : List (Opn × Nat)) : Prop := ∀ e ∈ l, e.2 < p.length
structure Told (p : List Nat) (kn es : List (Opn × Nat)) (r : List Nat × List (Opn × Nat) × Bool) : Prop where
  down : Down r.1
  len : r.1.length = p.length
  coarse : Coarse p r.1
  inn : In r.1 r.2.1
  rep : ∀ e, e ∈ kn ∨ e ∈ es → ∃ k ∈ r.2.1, can r.1 k.1 = can r.1 e.1 ∧ root r.1 k.2 = root r.1 e.2

theorem pass_told : ∀ (es : List (Opn × Nat)) {p : List Nat} {kn : List (Opn × Nat)}, Down p → In p kn → In p es → Told p kn es (pass p kn es) := by
  intro es
  induction es with
  | nil =>
    intro p kn hd hk _
    exact ⟨hd, rfl, Coarse.rfl_ p, hk, fun e he => ⟨e, he.resolve_right (by simp), rfl, rfl⟩⟩
  | cons e es ih =>
    intro p kn hd hk he
    have hes : In p es := fun x hx => he x (List.mem_cons_of_mem _ hx)
    have he2 := he e (List.mem_cons_self ..)
    unfold pass
    cases hf : kn.find? (fun k => decide (k.1 = can p e.1)) with
    | none =>
      dsimp only
      have hk2 : In p (kn ++ [(can p e.1, root p e.2)]) := fun x hx => by
        rcases List.mem_append.1 hx with hx | hx
        · exact hk x hx
        · simp at hx; subst hx; exact root_lt he2
      have t := ih hd hk2 hes
      refine ⟨t.down, t.len, t.coarse, t.inn, fun x hx => ?_⟩
      rcases hx with hx | hx
      · exact t.rep x (.inl (List.mem_append_left _ hx))
      · rcases List.mem_cons.1 hx with rfl | hx
        · obtain ⟨k, h1, h2, h3⟩ := t.rep (can p x.1, root p x.2) (.inl (by simp))
          exact ⟨k, h1, h2.trans (t.coarse.can (can_can hd x.1)), h3.trans (t.coarse.root hd x.2)⟩
        · exact t.rep x (.inr hx)
    | some k =>
      dsimp only
      have hkm := List.mem_of_find?_eq_some hf
      have hke : k.1 = can p e.1 := by
        have := List.find?_some hf
        simpa using this
      have hk2 := hk k hkm
      split
      · rename_i h
        have t := ih hd hk hes
        refine ⟨t.down, t.len, t.coarse, t.inn, fun x hx => ?_⟩
        rcases hx with hx | hx
        · exact t.rep x (.inl hx)
        · rcases List.mem_cons.1 hx with rfl | hx
          · obtain ⟨k', h1, h2, h3⟩ := t.rep k (.inl hkm)
            refine ⟨k', h1, h2.trans ?_, h3.trans (t.coarse _ _ h)⟩
            rw [hke]
            exact t.coarse.can (can_can hd x.1)
          · exact t.rep x (.inr hx)
      · obtain ⟨j1, j2, _⟩ := join_spec hd hk2 he2
        obtain ⟨j3, j4⟩ := join_coarse hd hk2 he2
        have t := ih (p := join p k.2 e.2) (kn := kn) j1 (fun x hx => by rw [j2]; exact hk x hx) (fun x hx => by rw [j2]; exact hes x hx)
        refine ⟨t.down, t.len.trans j2, j3.trans t.coarse, t.inn, fun x hx => ?_⟩
        rcases hx with hx | hx
        · exact t.rep x (.inl hx)
        · rcases List.mem_cons.1 hx with rfl | hx
          · obtain ⟨k', h1, h2, h3⟩ := t.rep k (.inl hkm)
            refine ⟨k', h1, h2.trans ?_, h3.trans (t.coarse _ _ j4)⟩
            rw [hke]
            exact (j3.trans t.coarse).can (can_can hd x.1)
          · exact t.rep x (.inr hx)

/-- where nothing was made one, the parents stay, and no two operations are equal -/
theorem pass_quiet : ∀ (es : List (Opn × Nat)) {p : List Nat} {kn : List (Opn × Nat)}, Down p → (kn.map Prod.fst).Nodup → (∀ k ∈ kn, can p k.1 = k.1) → (pass p kn es).2.2 = false → (pass p kn es).1 = p ∧ ((pass p kn es).2.1.map Prod.fst).Nodup ∧ ∀ k ∈ (pass p kn es).2.1, can p k.1 = k.1 := by
  intro es
  induction es with
  | nil => intro p kn _ hn hc _; exact ⟨rfl, hn, hc⟩
  | cons e es ih =>
    intro p kn hd hn hc
    unfold pass
    cases hf : kn.find? (fun k => decide (k.1 = can p e.1)) with
    | none =>
      dsimp only
      refine ih hd ?_ ?_
      · rw [List.map_append, List.nodup_append]
        refine ⟨hn, by simp, fun a ha b hb => ?_⟩
        simp at hb
        subst hb
        obtain ⟨k, hk, rfl⟩ := List.mem_map.1 ha
        have := List.find?_eq_none.1 hf k hk
        simpa using this
      · intro k hk
        rcases List.mem_append.1 hk with hk | hk
        · exact hc k hk
        · simp at hk; subst hk; exact can_can hd e.1
    | some k =>
      dsimp only
      split
      · exact ih hd hn hc
      · intro h; cases h
end E
end Go.Proofs.YtcmlmjbpdaecbaaGreat
end
section
namespace Go.Proofs.YtcmlmjbpdaecbaaGreat
set_option linter.unusedVariables false
set_option linter.unusedSimpArgs false
namespace E

theorem countP_less {α : Type} {P Q : α → Bool} : ∀ (l : List α), (∀ x ∈ l, Q x = true → P x = true) → (∃ x ∈ l, P x = true ∧ Q x = false) → l.countP Q < l.countP P := by
  intro l
  induction l with
  | nil => intro _ h; obtain ⟨x, hx, _⟩ := h; cases hx
  | cons a l ih =>
    intro h1 h2
    have hle : l.countP Q ≤ l.countP P := List.countP_mono_left fun x hx => h1 x (List.mem_cons_of_mem _ hx)
    rw [List.countP_cons, List.countP_cons]
    obtain ⟨x, hx, hp, hq⟩ := h2
    rcases List.mem_cons.1 hx with rfl | hx
    · rw [if_pos hp, hq]
      simp
      omega
    · have := ih (fun x hx => h1 x (List.mem_cons_of_mem _ hx)) ⟨x, hx, hp, hq⟩
      have ha := h1 a (List.mem_cons_self ..)
      cases hQ : Q a
      · simp
        split <;> omega
      · rw [ha hQ]
        simp
        omega

def roots (p : List Nat) : Nat := (List.range p.length).countP fun c => decide (root p c = c)
theorem root_back {p p' : List Nat} (h : Coarse p p') (hd : Down p) {c : Nat} (e : root p' c = c) : root p c = c := by
  have h1 := h.root hd c
  have h2 := root_le p c
  have h3 := root_le p' (root p c)
  omega
theorem pass_fewer : ∀ (es : List (Opn × Nat)) {p : List Nat} {kn : List (Opn × Nat)}, Down p → In p kn → In p es → (pass p kn es).2.2 = true → ∃ m, m < p.length ∧ root p m = m ∧ root (pass p kn es).1 m ≠ m := by
  intro es
  induction es with
  | nil => intro p kn _ _ _ h; cases h
  | cons e es ih =>
    intro p kn hd hk he
    have hes : In p es := fun x hx => he x (List.mem_cons_of_mem _ hx)
    have he2 := he e (List.mem_cons_self ..)
    unfold pass
    cases hf : kn.find? (fun k => decide (k.1 = can p e.1)) with
    | none =>
      dsimp only
      exact ih hd (fun x hx => by
        rcases List.mem_append.1 hx with hx | hx
        · exact hk x hx
        · simp at hx; subst hx; exact root_lt he2) hes
    | some k =>
      dsimp only
      have hk2 := hk k (List.mem_of_find?_eq_some hf)
      split
      · exact ih hd hk hes
      · rename_i hne
        intro _
        obtain ⟨j1, j2, j5⟩ := join_spec hd hk2 he2
        have t := pass_told es (p := join p k.2 e.2) (kn := kn) j1 (fun x hx => by rw [j2]; exact hk x hx) (fun x hx => by rw [j2]; exact hes x hx)
        have hm : max (root p k.2) (root p e.2) < p.length := by
          have h1 := root_lt hk2
          have h2 := root_lt he2
          omega
        have hr : root p (max (root p k.2) (root p e.2)) = max (root p k.2) (root p e.2) := by
          rcases Nat.le_total (root p k.2) (root p e.2) with hl | hl
          · rw [Nat.max_eq_right hl]; exact root_root hd _
          · rw [Nat.max_eq_left hl]; exact root_root hd _
        refine ⟨_, hm, hr, fun h => ?_⟩
        have h1 := root_back t.coarse j1 h
        rw [j5, if_pos hr] at h1
        omega
theorem pass_roots {es kn : List (Opn × Nat)} {p : List Nat} (hd : Down p) (hk : In p kn) (he : In p es) (h : (pass p kn es).2.2 = true) : roots (pass p kn es).1 < roots p := by
  have t := pass_told es hd hk he
  obtain ⟨m, h1, h2, h3⟩ := pass_fewer es hd hk he h
  unfold roots
  rw [t.len]
  exact countP_less _ (fun x hx hq => by simp only [decide_eq_true_eq] at hq ⊢; exact root_back t.coarse hd hq) ⟨m, List.mem_range.2 h1, by simpa using h2, by simpa using h3⟩
end E
end Go.Proofs.YtcmlmjbpdaecbaaGreat
end
section
namespace Go.Proofs.YtcmlmjbpdaecbaaGreat
set_option linter.unusedVariables false
set_option linter.unusedSimpArgs false
namespace E

structure Eqv (R : Nat → Nat → Prop) : Prop where
  refl : ∀ a, R a a
  symm : ∀ a b, R a b → R b a
  trans : ∀ a b c, R a b → R b c → R a c
def Rel (R : Nat → Nat → Prop) (a b : Int) : Prop := (a < 0 ∧ a = b) ∨ (0 ≤ a ∧ 0 ≤ b ∧ R a.toNat b.toNat)
def Sim (R : Nat → Nat → Prop) (x y : Opn) : Prop := (x.op = y.op ∧ x.w = y.w ∧ x.imm = y.imm) ∧ Rel R x.a0 y.a0 ∧ Rel R x.a1 y.a1 ∧ Rel R x.a2 y.a2
section
variable {R : Nat → Nat → Prop}
theorem Rel.symm (h : Eqv R) {a b : Int} (r : Rel R a b) : Rel R b a := by
  rcases r with ⟨h1, h2⟩ | ⟨h1, h2, h3⟩
  · exact .inl ⟨h2 ▸ h1, h2.symm⟩
  · exact .inr ⟨h2, h1, h.symm _ _ h3⟩
theorem Rel.trans (h : Eqv R) {a b c : Int} (r : Rel R a b) (s : Rel R b c) : Rel R a c := by
  rcases r with ⟨h1, h2⟩ | ⟨h1, h2, h3⟩
  · subst h2; exact s
  · rcases s with ⟨k1, k2⟩ | ⟨k1, k2, k3⟩
    · omega
    · exact .inr ⟨h1, k2, h.trans _ _ _ h3 k3⟩
theorem Sim.symm (h : Eqv R) {x y : Opn} (s : Sim R x y) : Sim R y x := ⟨⟨s.1.1.symm, s.1.2.1.symm, s.1.2.2.symm⟩, s.2.1.symm h, s.2.2.1.symm h, s.2.2.2.symm h⟩
theorem Sim.trans (h : Eqv R) {x y z : Opn} (s : Sim R x y) (u : Sim R y z) : Sim R x z := ⟨⟨s.1.1.trans u.1.1, s.1.2.1.trans u.1.2.1, s.1.2.2.trans u.1.2.2⟩, s.2.1.trans h u.2.1, s.2.2.1.trans h u.2.2.1, s.2.2.2.trans h u.2.2.2⟩
/-- each class and what it has become are equal -/
def Sound (R : Nat → Nat → Prop) (p : List Nat) : Prop := ∀ c, R c (root p c)
theorem rel_cr {p : List Nat} (hs : Sound R p) (a : Int) : Rel R a (cr p a) := by
  unfold cr
  split
  · rename_i h; exact .inl ⟨h, rfl⟩
  · rename_i h; exact .inr ⟨by omega, by omega, by rw [Int.toNat_natCast]; exact hs _⟩
theorem sim_can {p : List Nat} (hs : Sound R p) (x : Opn) : Sim R x (can p x) := ⟨⟨rfl, rfl, rfl⟩, rel_cr hs _, rel_cr hs _, rel_cr hs _⟩
/-- an operation that stands for one of the first ones -/
def Good (R : Nat → Nat → Prop) (E0 : List (Opn × Nat)) (e : Opn × Nat) : Prop := ∃ y ∈ E0, Sim R e.1 y.1 ∧ R e.2 y.2
def Cong (R : Nat → Nat → Prop) (E0 : List (Opn × Nat)) : Prop := ∀ y ∈ E0, ∀ z ∈ E0, Sim R y.1 z.1 → R y.2 z.2

theorem pass_sound {E0 : List (Opn × Nat)} (hq : Eqv R) (hc : Cong R E0) : ∀ (es : List (Opn × Nat)) {p : List Nat} {kn : List (Opn × Nat)}, Down p → In p kn → In p es → Sound R p → (∀ e ∈ kn, Good R E0 e) → (∀ e ∈ es, Good R E0 e) → Sound R (pass p kn es).1 ∧ ∀ k ∈ (pass p kn es).2.1, Good R E0 k := by
  intro es
  induction es with
  | nil => intro p kn _ _ _ hs hk _; exact ⟨hs, hk⟩
  | cons e es ih =>
    intro p kn hd hk he hs gk ge
    have hes : In p es := fun x hx => he x (List.mem_cons_of_mem _ hx)
    have he2 := he e (List.mem_cons_self ..)
    have ges : ∀ x ∈ es, Good R E0 x := fun x hx => ge x (List.mem_cons_of_mem _ hx)
    obtain ⟨z, hz, z1, z2⟩ := ge e (List.mem_cons_self ..)
    unfold pass
    cases hf : kn.find? (fun k => decide (k.1 = can p e.1)) with
    | none =>
      dsimp only
      refine ih hd (fun x hx => ?_) hes hs (fun x hx => ?_) ges
      · rcases List.mem_append.1 hx with hx | hx
        · exact hk x hx
        · simp at hx; subst hx; exact root_lt he2
      · rcases List.mem_append.1 hx with hx | hx
        · exact gk x hx
        · simp at hx
          subst hx
          exact ⟨z, hz, ((sim_can hs e.1).symm hq).trans hq z1, hq.trans _ _ _ (hq.symm _ _ (hs e.2)) z2⟩
    | some k =>
      dsimp only
      have hkm := List.mem_of_find?_eq_some hf
      have hke : k.1 = can p e.1 := by
        have := List.find?_some hf
        simpa using this
      have hk2 := hk k hkm
      split
      · exact ih hd hk hes hs gk ges
      · obtain ⟨y, hy, y1, y2⟩ := gk k hkm
        have hR : R k.2 e.2 := by
          rw [hke] at y1
          have h1 : Sim R y.1 z.1 := (y1.symm hq).trans hq (((sim_can hs e.1).symm hq).trans hq z1)
          exact hq.trans _ _ _ y2 (hq.trans _ _ _ (hc y hy z hz h1) (hq.symm _ _ z2))
        obtain ⟨j1, j2, j5⟩ := join_spec hd hk2 he2
        have hab : R (root p k.2) (root p e.2) := hq.trans _ _ _ (hq.symm _ _ (hs _)) (hq.trans _ _ _ hR (hs _))
        have hmm : R (max (root p k.2) (root p e.2)) (min (root p k.2) (root p e.2)) := by
          rcases Nat.le_total (root p k.2) (root p e.2) with hl | hl
          · rw [Nat.max_eq_right hl, Nat.min_eq_left hl]; exact hq.symm _ _ hab
          · rw [Nat.max_eq_left hl, Nat.min_eq_right hl]; exact hab
        have hs2 : Sound R (join p k.2 e.2) := fun c => by
          rw [j5]
          split
          · rename_i h; have := hs c; rw [h] at this; exact hq.trans _ _ _ this hmm
          · exact hs c
        exact ih j1 (fun x hx => by rw [j2]; exact hk x hx) (fun x hx => by rw [j2]; exact hes x hx) hs2 gk ges
end
end E
end Go.Proofs.YtcmlmjbpdaecbaaGreat
end
section
namespace Go.Proofs.YtcmlmjbpdaecbaaGreat
set_option linter.unusedVariables false
set_option linter.unusedSimpArgs false
namespace E

theorem key_one : ∀ {l : List (Opn × Nat)}, (l.map Prod.fst).Nodup → ∀ a ∈ l, ∀ b ∈ l, a.1 = b.1 → a = b := by
  intro l
  induction l with
  | nil => intro _ a ha; cases ha
  | cons x l ih =>
    intro hn a ha b hb e
    rw [List.map_cons, List.nodup_cons] at hn
    rcases List.mem_cons.1 ha with e1 | ha1
    · rcases List.mem_cons.1 hb with e2 | hb1
      · rw [e1, e2]
      · exact absurd (show x.1 ∈ l.map Prod.fst from List.mem_map.2 ⟨b, hb1, by rw [← e, e1]⟩) hn.1
    · rcases List.mem_cons.1 hb with e2 | hb1
      · exact absurd (show x.1 ∈ l.map Prod.fst from List.mem_map.2 ⟨a, ha1, by rw [e, e2]⟩) hn.1
      · exact ih hn.2 a ha1 b hb1 e

def Eq1 (p : List Nat) (a b : Nat) : Prop := root p a = root p b
theorem eq1_eqv (p : List Nat) : Eqv (Eq1 p) := ⟨fun _ => rfl, fun _ _ h => h.symm, fun _ _ _ h k => h.trans k⟩
theorem cr_of_rel {p : List Nat} {a b : Int} (h : Rel (Eq1 p) a b) : cr p a = cr p b := by
  unfold cr
  rcases h with ⟨h1, h2⟩ | ⟨h1, h2, h3⟩
  · subst h2; rfl
  · rw [if_neg (by omega), if_neg (by omega)]
    exact congrArg _ h3
theorem can_of_sim {p : List Nat} {x y : Opn} (h : Sim (Eq1 p) x y) : can p x = can p y := by
  unfold can
  obtain ⟨⟨h1, h2, h3⟩, h4, h5, h6⟩ := h
  rw [h1, h2, h3, cr_of_rel h4, cr_of_rel h5, cr_of_rel h6]
/-- the parents join equal operations -/
theorem quiet_cong {p : List Nat} {kn E0 : List (Opn × Nat)} (hrep : ∀ e ∈ E0, ∃ k ∈ kn, can p k.1 = can p e.1 ∧ root p k.2 = root p e.2) (hn : (kn.map Prod.fst).Nodup) (hc : ∀ k ∈ kn, can p k.1 = k.1) : Cong (Eq1 p) E0 := by
  intro y hy z hz h
  obtain ⟨a, ha, a1, a2⟩ := hrep y hy
  obtain ⟨b, hb, b1, b2⟩ := hrep z hz
  have e := can_of_sim h
  have hab : a = b := key_one hn a ha b hb (by rw [← hc a ha, ← hc b hb, a1, b1, e])
  subst hab
  exact a2.symm.trans b2
end E
end Go.Proofs.YtcmlmjbpdaecbaaGreat
end
