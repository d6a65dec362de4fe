/- Merged: RU10, RPlainV. -/
import Derived.Test.YtbiopedpceddeaaGreatDoorL12
import Derived.Test.YtbiopedpceddeaaGreatDoorL05
import Derived.Test.YtbiopedpceddeaaGreatDoorL10
set_option linter.unusedVariables false
set_option linter.unusedSimpArgs false
section
namespace Go.Proofs.YtbiopedpceddeaaGreatDoor
set_option linter.unusedVariables false
set_option linter.unusedSimpArgs false
namespace R
theorem unk_left {p : List T.Nd} {i : Nat} (hi : i < 6) : (unk false p).getD i false = if i < 4 then occ p 33 i else occ p 34 ((i : Int) - 4) := by
  unfold unk unkTo occ
  rw [List.getD_eq_getElem?_getD, List.getElem?_map, List.getElem?_range hi]
  have e : (p.zip (need p)).take p.length = p.zip (need p) := List.take_of_length_le (by rw [List.length_zip]; omega)
  rw [e]
  simp only [Option.map_some, Option.getD_some, Bool.false_or]
  by_cases h : i < 4
  · rw [if_pos h]
    congr 1
    funext q
    unfold lab
    rw [if_pos h, Bool.and_assoc]
  · rw [if_neg h]
    congr 1
    funext q
    unfold lab
    rw [if_neg h, Bool.and_assoc]
theorem unk_right {p : List T.Nd} {i : Nat} (hi : i < 6) : (unk true p).getD i false = p.any (lab i) := by
  unfold unk unkTo
  rw [List.getD_eq_getElem?_getD, List.getElem?_map, List.getElem?_range hi]
  have e : (p.zip (need p)).take p.length = p.zip (need p) := List.take_of_length_le (by rw [List.length_zip]; omega)
  rw [e]
  simp only [Option.map_some, Option.getD_some, Bool.true_or, Bool.true_and]
  have h : ∀ (l : List T.Nd) (b : List Bool), l.length ≤ b.length → ((l.zip b).any fun q => lab i q.1) = l.any (lab i) := by
    intro l
    induction l with
    | nil => intro b _; rfl
    | cons x l ih =>
      intro b hb
      cases b with
      | nil => simp at hb
      | cons c b => rw [List.zip_cons_cons, List.any_cons, List.any_cons, ih b (by simpa using hb)]
  exact h _ _ (by rw [need_len]; exact Nat.le_refl _)
/-- what stands on the right stands on the left -/
def within (r : Rl) : Bool := (List.range 6).all fun i => !(unk true r.right).getD i false || (unk false r.left).getD i false
theorem within_iff {r : Rl} (h : ∀ x ∈ r.right, (x.op = 33 ∨ x.op = 34) → 0 ≤ x.imm ∧ x.imm < 2) : (r.right.all fun x => (!decide (x.op = 33 ∨ x.op = 34)) || occ r.left x.op x.imm) = within r := by
  rw [Bool.eq_iff_iff]
  unfold within
  rw [List.all_eq_true, List.all_eq_true]
  constructor
  · intro hh i hi
    have hi6 : i < 6 := by simpa using hi
    rw [unk_right hi6, unk_left hi6]
    cases ha : r.right.any (lab i)
    · rfl
    obtain ⟨x, hx, hl⟩ := List.any_eq_true.1 ha
    have := hh x hx
    unfold lab at hl
    by_cases h4 : i < 4
    · rw [if_pos h4] at hl ⊢
      simp only [Bool.and_eq_true, decide_eq_true_eq] at hl
      obtain ⟨o, m⟩ := hl
      rw [← m, ← o]
      simpa [o] using this
    · rw [if_neg h4] at hl ⊢
      simp only [Bool.and_eq_true, decide_eq_true_eq] at hl
      obtain ⟨o, m⟩ := hl
      rw [← m, ← o]
      simpa [o] using this
  · intro hh x hx
    by_cases ho : x.op = 33 ∨ x.op = 34
    · obtain ⟨h0, h2⟩ := h x hx ho
      obtain ⟨v, hv⟩ : ∃ v : Nat, x.imm = v := ⟨x.imm.toNat, by omega⟩
      rcases ho with ho | ho
      · have := hh v (by simp; omega)
        rw [unk_right (by omega), unk_left (by omega), if_pos (by omega)] at this
        have ha : r.right.any (lab v) = true := List.any_eq_true.2 ⟨x, hx, by unfold lab; rw [if_pos (by omega)]; simp [ho, hv]⟩
        rw [ha] at this
        rw [ho, hv]
        simpa using this
      · have := hh (4 + v) (by simp; omega)
        have e : ((4 + v : Nat) : Int) - 4 = (v : Int) := by omega
        rw [unk_right (by omega), unk_left (by omega), if_neg (by omega), e] at this
        have ha : r.right.any (lab (4 + v)) = true := List.any_eq_true.2 ⟨x, hx, by unfold lab; rw [if_neg (by omega), e]; simp [ho, hv]⟩
        rw [ha] at this
        rw [ho, hv]
        simpa using this
    · simp [ho]
theorem pnode_imm {p : List T.Nd} {right : Bool} {k : Nat} {x : T.Nd} (h : pnode p right k x = true) (ho : x.op = 33 ∨ x.op = 34) : x.imm < 2 := by
  unfold pnode at h
  simp only [Bool.and_eq_true] at h
  have := h.2
  unfold pimmOk at this
  rw [if_neg (by omega), if_pos ho] at this
  simp only [Bool.and_eq_true, decide_eq_true_eq] at this
  exact this.2
theorem pnode_args {p : List T.Nd} {right : Bool} {k : Nat} {x : T.Nd} (h : pnode p right k x = true) : ∀ a ∈ x.args, 0 ≤ a ∧ a < (k : Int) := by
  unfold pnode at h
  simp only [Bool.and_eq_true] at h
  have := h.1.2
  unfold T.argsOk at this
  intro a ha
  have := List.all_eq_true.1 this a ha
  simpa using this
theorem pnode_len {p : List T.Nd} {right : Bool} {k : Nat} {x : T.Nd} (h : pnode p right k x = true) : (x.args.length : Int) = par x.op ∧ 0 ≤ par x.op := by
  unfold pnode at h
  simp only [Bool.and_eq_true, decide_eq_true_eq] at h
  obtain ⟨⟨⟨⟨⟨⟨h1, h2⟩, h3⟩, h4⟩, h5⟩, h6⟩, h7⟩ := h
  exact ⟨h2, h1⟩
theorem pnode_ar {p : List T.Nd} {right : Bool} {k : Nat} {x : T.Nd} (h : pnode p right k x = true) (h1 : 1 ≤ x.op) (h2 : x.op ≤ 18) : (x.args.length : Int) = T.ar x.op := by
  obtain ⟨e1, e2⟩ := pnode_len h
  by_cases hr : 16 ≤ x.op ∧ x.op ≤ 18
  · rw [par_none hr] at e2; omega
  · rw [e1, par_rar hr]
    unfold rar
    rw [if_neg (by omega), if_neg (by omega)]
end R
end Go.Proofs.YtbiopedpceddeaaGreatDoor
end
section
namespace Go.Proofs.YtbiopedpceddeaaGreatDoor
set_option linter.unusedVariables false
set_option linter.unusedSimpArgs false
namespace R
open T (Nd F)

/-- a valid term with flags -/
structure TOk (t : List Nd) : Prop where
  pos : 1 ≤ t.length
  len : t.length ≤ 300
  sh : ∀ k x, t[k]? = some x → tnode k x = true
  ty : ∀ x ∈ t, T.typed t x = true

/-- a valid rule -/
structure ROk (r : Rl) : Prop where
  lpos : 1 ≤ r.left.length
  llen : r.left.length ≤ 12
  rpos : 1 ≤ r.right.length
  rlen : r.right.length ≤ 12
  plen : r.pre.length ≤ 4
  lp : ∀ k x, r.left[k]? = some x → pnode r.left false k x = true
  rp : ∀ k x, r.right[k]? = some x → pnode r.right true k x = true
  cd : r.pre.all cdOk = true
  lt : ∀ x ∈ r.left, T.typed r.left x = true
  rt : ∀ x ∈ r.right, T.typed r.right x = true
  root : rootW r.left ≤ 1
  same : rootW r.right = rootW r.left
  occ : ∀ x ∈ r.right, (x.op = 33 ∨ x.op = 34) → occ r.left x.op x.imm = true
  cocc : ∀ c ∈ r.pre, R.occ r.left 34 c.hole = true

theorem tok_of {t : List Nd} (h : fvalid t = 0) : TOk t := by
  rw [fvalid_eq] at h
  split at h
  · cases h
  · rename_i h1
    split at h
    · cases h
    · rename_i h2
      split at h
      · cases h
      · rename_i h3
        have h2 := Bool.not_eq_false _ ▸ h2
        have h3 := Bool.not_eq_false _ ▸ h3
        exact ⟨by omega, by omega, tnode_all.1 h2, fun x hx => List.all_eq_true.1 h3 x hx⟩

theorem all_zip {p : List Nd} {f : Nat → Nd → Bool} : (p.zipIdx.all fun q => f q.2 q.1) = true ↔ ∀ k x, p[k]? = some x → f k x = true := by
  rw [List.all_eq_true]
  constructor
  · intro h i x hx
    exact h (x, i) (List.mem_zipIdx_iff_getElem?.2 hx)
  · rintro h ⟨x, i⟩ hp
    exact h i x (List.mem_zipIdx_iff_getElem?.1 hp)

theorem rok_of {r : Rl} (h : rvalid r = 0) : ROk r := by
  unfold rvalid at h
  split at h
  · cases h
  rename_i h1
  split at h
  · cases h
  rename_i h2
  split at h
  · cases h
  rename_i h3
  split at h
  · cases h
  rename_i h4
  split at h
  · cases h
  rename_i h5
  simp only [Bool.not_eq_false, Bool.and_eq_true, decide_eq_true_eq] at h2 h3 h4 h5
  refine ⟨by omega, by omega, by omega, by omega, by omega, all_zip.1 h2.1, all_zip.1 h2.2, h3, fun x hx => List.all_eq_true.1 h4.1.1.1 x hx, fun x hx => List.all_eq_true.1 h4.1.1.2 x hx, h4.1.2, h4.2, fun x hx ho => ?_, fun c hc => List.all_eq_true.1 h5.2 c hc⟩
  have := List.all_eq_true.1 h5.1 x hx
  simp only [ho, decide_true, Bool.not_true, Bool.false_or] at this
  exact this

theorem shaped_parts {z : Bool} {k : Nat} {x : Nd} (h : T.shaped z k x = true) : 0 ≤ T.ar x.op ∧ 1 ≤ x.w ∧ x.w ≤ 32 ∧ (x.args.length : Int) = T.ar x.op ∧ T.immOk x = true ∧ (x.op = 14 → x.w = 1) ∧ ∀ a ∈ x.args, 0 ≤ a ∧ a < (k : Int) := by
  unfold T.shaped at h
  simp only [Bool.and_eq_true, decide_eq_true_eq, Bool.or_eq_true, Bool.not_eq_true', decide_eq_false_iff_not] at h
  obtain ⟨⟨⟨⟨⟨⟨⟨h1, h2⟩, h3⟩, h4⟩, h5⟩, h6⟩, h7⟩, h8⟩ := h
  refine ⟨h1, h2, h3, h5, h6, fun e => h7.elim (fun h => absurd e h) id, fun a ha => ?_⟩
  unfold T.argsOk at h8
  have := List.all_eq_true.1 h8 a ha
  simpa using this

theorem ar_bd {op : Int} (h : 0 ≤ T.ar op) : 0 ≤ op ∧ op ≤ 33 ∧ T.ar op ≤ 3 := by
  unfold T.ar at h ⊢
  repeat' split at h
  all_goals first | omega | skip
  all_goals simp_all
  all_goals omega

theorem flOk_bd {op fl : Int} (h : flOk op fl = true) : 0 ≤ fl ∧ fl ≤ 4 := by
  unfold flOk at h
  split at h
  · simp at h; omega
  · split at h
    · simp at h; omega
    · simp at h; omega

section
variable {t : List Nd}
theorem TOk.parts (h : TOk t) {k : Nat} {x : Nd} (hx : t[k]? = some x) : flOk x.op x.fl = true ∧ T.shaped false k x = true := by
  have := h.sh k x hx
  unfold tnode at this
  simpa using this
theorem TOk.ord (h : TOk t) : T.Ord t := fun k x hx => (shaped_parts (h.parts hx).2).2.2.2.2.2.2
theorem TOk.at_ (h : TOk t) {x : Nd} (hx : x ∈ t) : (0 ≤ x.op ∧ x.op ≤ 33) ∧ (1 ≤ x.w ∧ x.w ≤ 32) ∧ (0 ≤ x.fl ∧ x.fl ≤ 4) ∧ (x.args.length : Int) = T.ar x.op ∧ x.args.length ≤ 3 ∧ T.immOk x = true := by
  obtain ⟨k, hk⟩ := List.mem_iff_getElem?.1 hx
  have h1 := h.parts hk
  have h2 := shaped_parts h1.2
  have h3 := ar_bd h2.1
  exact ⟨⟨h3.1, h3.2.1⟩, ⟨h2.2.1, h2.2.2.1⟩, flOk_bd h1.1, h2.2.2.2.1, by omega, h2.2.2.2.2.1⟩
end

/-- constants are words of their width -/
def WordF : F → Prop
  | .nil => True
  | .cons op w _ imm kids rest => (op = 0 → 0 ≤ imm ∧ B.isW w imm = true) ∧ WordF kids ∧ WordF rest

theorem rep_word {t : List Nd} (h : ∀ x ∈ t, x.op = 0 → 0 ≤ x.imm ∧ B.isW x.w x.imm = true) {la : List Int} {f : F} (r : T.Rep t la f) : WordF f := by
  induction r with
  | nil => trivial
  | cons h0 hx _ _ ih1 ih2 => exact ⟨h _ (List.mem_of_getElem? hx), ih1, ih2⟩
theorem rep_bare {p : List Nd} (h : ∀ x ∈ p, (x.op = 33 ∨ x.op = 34) → x.w = 0) {la : List Int} {f : F} (r : T.Rep p la f) : Bare f := by
  induction r with
  | nil => trivial
  | cons h0 hx _ _ ih1 ih2 => exact ⟨h _ (List.mem_of_getElem? hx), ih1, ih2⟩
theorem rep_leafy {p : List Nd} (h : ∀ x ∈ p, x.op = 33 → x.args = []) {la : List Int} {f : F} (r : T.Rep p la f) : Leafy f := by
  induction r with
  | nil => trivial
  | cons h0 hx hk _ ih1 ih2 =>
    refine ⟨fun e => ?_, ih1, ih2⟩
    have := h _ (List.mem_of_getElem? hx) e
    rw [this] at hk
    cases hk
    rfl

theorem TOk.word {t : List Nd} (h : TOk t) (hi : ∀ x ∈ t, 0 ≤ x.imm) : ∀ x ∈ t, x.op = 0 → 0 ≤ x.imm ∧ B.isW x.w x.imm = true := fun x hx e => by
  refine ⟨hi x hx, ?_⟩
  have := (h.at_ hx).2.2.2.2.2
  unfold T.immOk at this
  rw [if_pos e] at this
  exact this

theorem pnode_bare {p : List Nd} {right : Bool} {k : Nat} {x : Nd} (h : pnode p right k x = true) (ho : x.op = 33 ∨ x.op = 34) : x.w = 0 := by
  unfold pnode at h
  simp only [Bool.and_eq_true] at h
  have h := h.2
  unfold pimmOk at h
  rw [if_neg (by omega), if_pos ho] at h
  simp at h
  exact h.1
theorem pnode_leaf {p : List Nd} {right : Bool} {k : Nat} {x : Nd} (h : pnode p right k x = true) (ho : x.op = 33 ∨ x.op = 34) : x.args = [] := by
  have := (pnode_len h).1
  have e : par x.op = 0 := by rcases ho with e | e <;> rw [e] <;> decide
  rw [e] at this
  exact List.eq_nil_of_length_eq_zero (by omega)
theorem pnode_ord {p : List Nd} {right : Bool} (h : ∀ k x, p[k]? = some x → pnode p right k x = true) : T.Ord p := fun k x hx => pnode_args (h k x hx)
theorem pnode_flags {p : List Nd} {right : Bool} {k : Nat} {x : Nd} (h : pnode p right k x = true) : flOk x.op x.fl = true := by
  unfold pnode at h
  simp only [Bool.and_eq_true, decide_eq_true_eq] at h
  exact h.1.1.2

/-- what is bound to holes are words -/
def St.Ok (w : Int) (s : St) : Prop := ∀ i n, s.h i = some n → 0 ≤ n ∧ B.isW w n = true
theorem St.none_ok (w : Int) : St.none.Ok w := fun i n h => by cases h
theorem bindV_h {s s' : St} {i : Int} {f : F} (h : bindV s i f = some s') : s'.h = s.h := by
  unfold bindV at h
  split at h
  · cases h; rfl
  · split at h
    · cases h; rfl
    · cases h
theorem bindH_ok {w : Int} {s s' : St} {i n : Int} (hs : s.Ok w) (hn : 0 ≤ n ∧ B.isW w n = true) (h : bindH s i n = some s') : s'.Ok w := by
  unfold bindH at h
  split at h
  · cases h
    intro j m hm
    simp only [St.setH] at hm
    split at hm
    · cases hm; exact hn
    · exact hs j m hm
  · split at h
    · cases h; exact hs
    · cases h

theorem fit_ok {w : Int} : ∀ (p t : F), Bare p → WordF t → ∀ (s s' : St), s.Ok w → fit w p t s = some s' → s'.Ok w := by
  intro p
  induction p with
  | nil => intro t _ _ s s' hs h; cases t <;> simp [fit] at h; subst h; exact hs
  | cons pop pw pfl pimm pk pr ih1 ih2 =>
    intro t hb hw s s' hs h
    obtain ⟨h0, hb1, hb2⟩ := hb
    cases t with
    | nil => simp [fit] at h
    | cons op tw fl imm tk tr =>
      obtain ⟨w0, w1, w2⟩ := hw
      simp only [fit] at h
      by_cases e0 : tw ≠ (if pw = 0 then w else pw)
      · rw [if_pos e0] at h; cases h
      rw [if_neg e0] at h
      split at h
      · obtain ⟨s1, h1, h2⟩ := Option.bind_eq_some_iff.1 h
        have := bindV_h h1
        refine ih2 tr hb2 w2 s1 s' (fun i n hi => ?_) h2
        rw [this] at hi
        exact hs i n hi
      · split at h
        · split at h
          · rename_i e1 e2 e3
            obtain ⟨s1, h1, h2⟩ := Option.bind_eq_some_iff.1 h
            refine ih2 tr hb2 w2 s1 s' (bindH_ok hs ?_ h1) h2
            have e4 := h0 (.inr e2)
            rw [if_pos e4] at e0
            have e5 : tw = w := Decidable.byContradiction e0
            rw [← e5]
            exact w0 e3
          · cases h
        · by_cases e5 : op ≠ pop ∨ imm ≠ immAt pop (if pw = 0 then w else pw) pimm ∨ fl ≠ pfl ∨ pk.len ≠ tk.len
          · rw [if_pos e5] at h; cases h
          · rw [if_neg e5] at h
            obtain ⟨s1, h1, h2⟩ := Option.bind_eq_some_iff.1 h
            exact ih2 tr hb2 w2 s1 s' (ih1 tk hb1 w1 s s1 hs h1) h2

def W32 : F → Prop
  | .nil => True
  | .cons _ w _ _ kids rest => w ≤ 32 ∧ W32 kids ∧ W32 rest
theorem rep_w32 {t : List Nd} (h : ∀ x ∈ t, x.w ≤ 32) {la : List Int} {f : F} (r : T.Rep t la f) : W32 f := by
  induction r with
  | nil => trivial
  | cons h0 hx _ _ ih1 ih2 => exact ⟨h _ (List.mem_of_getElem? hx), ih1, ih2⟩
theorem wd1_le : ∀ (p t : F), W32 t → wd1 p t ≤ 32 := by
  intro p
  induction p with
  | nil => intro t _; cases t <;> simp [wd1]
  | cons pop pw pfl pimm pk pr ih1 ih2 =>
    intro t hw
    cases t with
    | nil => simp [wd1]
    | cons op tw fl imm tk tr =>
      obtain ⟨w0, w1, w2⟩ := hw
      have i1 := ih1 tk w1
      have i2 := ih2 tr w2
      simp only [wd1]
      repeat' split
      all_goals omega

/-- the numbers of the holes -/
def St.hs (s : St) : List Int := [(s.h 0).getD 0, (s.h 1).getD 0]
/-- a rule's left side and a term, compared -/
def mtw (r : Rl) (t : List Nd) (fp ft : F) : Int := if rootW r.left = 1 then wd1 fp ft else rootW t
def mfit (r : Rl) (t : List Nd) (fp ft : F) : Option St := if 0 < mtw r t fp ft then fit (mtw r t fp ft) fp ft St.none else none
def mtch (r : Rl) (cond : Int → List Int → Cd → Bool) (t : List Nd) (fp ft : F) : Option St := (mfit r t fp ft).bind fun s => if (r.pre.all (cond (mtw r t fp ft) s.hs)) = true then some s else none
end R
end Go.Proofs.YtbiopedpceddeaaGreatDoor
end
