/- Plain: a pattern and a term: what is bound, both ways of looking for it. -/
import Derived.Test.YtcmlmjbpdaecbaaH03
set_option linter.unusedVariables false
set_option linter.unusedSimpArgs false
namespace Go.Proofs.Ytcmlmjbpdaecbaa
set_option linter.unusedVariables false
set_option linter.unusedSimpArgs false
namespace T
deriving instance DecidableEq for F
def F.len : F → Nat
  | .nil => 0
  | .cons _ _ _ _ _ rest => rest.len + 1

theorem Rep.len {t : List Nd} {la : List Int} {f : F} (r : Rep t la f) : f.len = la.length := by
  induction r with
  | nil => rfl
  | cons _ _ _ _ _ ih => simp [F.len, ih]

/-- the tree of one node -/
def canon (f : F) : List Nd := (cnn f []).1

theorem canon_inj {o1 w1 f1 i1 o2 w2 f2 i2 : Int} {k1 k2 : F} (h : canon (.cons o1 w1 f1 i1 k1 .nil) = canon (.cons o2 w2 f2 i2 k2 .nil)) : F.cons o1 w1 f1 i1 k1 .nil = F.cons o2 w2 f2 i2 k2 .nil := by
  have a1 := cnn_told (.cons o1 w1 f1 i1 k1 .nil) List.nodup_nil ord_nil
  have a2 := cnn_told (.cons o2 w2 f2 i2 k2 .nil) List.nodup_nil ord_nil
  have b1 := (cnn_last o1 w1 f1 i1 k1).1
  have b2 := (cnn_last o2 w2 f2 i2 k2).1
  unfold canon at h
  have r1 := a1.rep
  have r2 := a2.rep
  rw [b1] at r1
  rw [b2, ← h] at r2
  exact r1.det r2
end T

namespace R
open T (Nd F)

/-- what is bound -/
structure St where
  v : Int → Option F
  h : Int → Option Int

def St.setV (s : St) (i : Int) (f : F) : St := ⟨fun j => if j = i then some f else s.v j, s.h⟩
def St.setH (s : St) (i : Int) (n : Int) : St := ⟨s.v, fun j => if j = i then some n else s.h j⟩
def St.none : St := ⟨fun _ => Option.none, fun _ => Option.none⟩

/-- binds a variable -/
def bindV (s : St) (i : Int) (f : F) : Option St :=
  match s.v i with
  | .none => some (s.setV i f)
  | .some g => if g = f then some s else .none
def bindH (s : St) (i : Int) (n : Int) : Option St :=
  match s.h i with
  | .none => some (s.setH i n)
  | .some m => if m = n then some s else .none

def immAt (op w imm : Int) : Int := if op = 0 then imm % B.pw w else imm

/-- the program's way: from the root down, all at once -/
def fit (w : Int) : F → F → St → Option St
  | .cons pop pw pfl pimm pk pr, .cons op tw fl imm tk tr, s =>
    let w' := if pw = 0 then w else pw
    if tw ≠ w' then .none
    else if pop = 33 then (bindV s pimm (.cons op tw fl imm tk .nil)).bind (fit w pr tr)
    else if pop = 34 then (if op = 0 then (bindH s pimm imm).bind (fit w pr tr) else .none)
    else if op ≠ pop ∨ imm ≠ immAt pop w' pimm ∨ fl ≠ pfl ∨ pk.len ≠ tk.len then .none
    else (fit w pk tk s).bind (fit w pr tr)
  | .nil, .nil, s => some s
  | _, _, _ => .none

/-- a node of a pattern without its operands, and a tree -/
structure Pr where
  op : Int
  w : Int
  fl : Int
  imm : Int
  top : Int
  tw : Int
  tfl : Int
  timm : Int
  tk : F

/-- the reference's way: first the pairs -/
def prs : F → F → Option (List Pr)
  | .cons pop pw pfl pimm pk pr, .cons op tw fl imm tk tr =>
    if pop = 33 then (prs pr tr).map (⟨pop, pw, pfl, pimm, op, tw, fl, imm, tk⟩ :: ·)
    else if pop = 34 then (if op = 0 then (prs pr tr).map (⟨pop, pw, pfl, pimm, op, tw, fl, imm, tk⟩ :: ·) else .none)
    else if op ≠ pop ∨ pk.len ≠ tk.len then .none
    else (prs pk tk).bind fun l => (prs pr tr).map fun m => ⟨pop, pw, pfl, pimm, op, tw, fl, imm, tk⟩ :: (l ++ m)
  | .nil, .nil => some []
  | _, _ => .none

def bnd (w : Int) (s : St) (x : Pr) : Option St :=
  if x.op = 33 then (if x.tw ≠ w then .none else bindV s x.imm (.cons x.top x.tw x.tfl x.timm x.tk .nil))
  else if x.op = 34 then (if x.tw ≠ w then .none else bindH s x.imm x.timm)
  else
    let w' := if x.w = 0 then w else x.w
    if x.tw = w' ∧ x.timm = immAt x.op w' x.imm ∧ x.tfl = x.fl then some s else .none

def bnds (w : Int) : List Pr → St → Option St
  | [], s => some s
  | x :: l, s => (bnd w s x).bind (bnds w l)

theorem bnds_app (w : Int) (l m : List Pr) (s : St) : bnds w (l ++ m) s = (bnds w l s).bind (bnds w m) := by
  induction l generalizing s with
  | nil => rfl
  | cons x l ih =>
    simp only [List.cons_append, bnds]
    cases bnd w s x with
    | none => rfl
    | some s' => simp [ih]

/-- in a pattern variables and holes have no width of their own -/
def Bare : F → Prop
  | .nil => True
  | .cons op w _ _ kids rest => ((op = 33 ∨ op = 34) → w = 0) ∧ Bare kids ∧ Bare rest

theorem fit_prs (w : Int) : ∀ (p t : F), Bare p → ∀ (s : St), fit w p t s = (prs p t).bind fun l => bnds w l s := by
  intro p
  induction p with
  | nil => intro t _ s; cases t <;> simp [fit, prs, bnds]
  | cons pop pw pfl pimm pk pr ih1 ih2 =>
    intro t hb s
    obtain ⟨h0, hb1, hb2⟩ := hb
    cases t with
    | nil => simp [fit, prs]
    | cons op tw fl imm tk tr =>
      have i1 := ih1 tk hb1
      have i2 := ih2 tr hb2
      simp only [fit, prs]
      by_cases e1 : pop = 33
      · have := h0 (.inl e1)
        simp only [if_pos e1, this, if_true]
        cases hq : prs pr tr with
        | none =>
          simp only [hq, Option.map_none, Option.bind_none]
          split
          · rfl
          · cases bindV s pimm (.cons op tw fl imm tk .nil) with
            | none => rfl
            | some s' => simp [i2, hq]
        | some l =>
          simp only [hq, Option.map_some, Option.bind_some, bnds, bnd, if_pos e1]
          split
          · rfl
          · cases bindV s pimm (.cons op tw fl imm tk .nil) with
            | none => rfl
            | some s' => simp [i2, hq]
      · rw [if_neg e1, if_neg e1]
        by_cases e2 : pop = 34
        · have := h0 (.inr e2)
          simp only [if_pos e2, this, if_true]
          by_cases e3 : op = 0
          · simp only [if_pos e3]
            cases hq : prs pr tr with
            | none =>
              simp only [hq, Option.map_none, Option.bind_none]
              split
              · rfl
              · cases bindH s pimm imm with
                | none => rfl
                | some s' => simp [i2, hq]
            | some l =>
              simp only [hq, Option.map_some, Option.bind_some, bnds, bnd, if_neg e1, if_pos e2]
              split
              · rfl
              · cases bindH s pimm imm with
                | none => rfl
                | some s' => simp [i2, hq]
          · simp [e3]
        · rw [if_neg e2, if_neg e2]
          by_cases e4 : op ≠ pop ∨ pk.len ≠ tk.len
          · rw [if_pos e4]
            have : op ≠ pop ∨ imm ≠ immAt pop (if pw = 0 then w else pw) pimm ∨ fl ≠ pfl ∨ pk.len ≠ tk.len := by
              rcases e4 with e | e
              · exact .inl e
              · exact .inr (.inr (.inr e))
            simp [this]
          · have e5 : op = pop ∧ pk.len = tk.len := by
              constructor
              · exact Decidable.byContradiction fun h => e4 (.inl h)
              · exact Decidable.byContradiction fun h => e4 (.inr h)
            rw [if_neg e4]
            generalize hw' : (if pw = 0 then w else pw) = w'
            have hfit : (if tw ≠ w' then Option.none else if op ≠ pop ∨ imm ≠ immAt pop w' pimm ∨ fl ≠ pfl ∨ pk.len ≠ tk.len then Option.none else (fit w pk tk s).bind (fit w pr tr)) = (if tw = w' ∧ imm = immAt pop w' pimm ∧ fl = pfl then (fit w pk tk s).bind (fit w pr tr) else Option.none) := by
              by_cases a1 : tw = w'
              · by_cases a2 : imm = immAt pop w' pimm
                · by_cases a3 : fl = pfl <;> simp [a1, a2, a3, e5.1, e5.2]
                · simp [a1, a2]
              · simp [a1]
            rw [hfit]
            cases hp : prs pk tk with
            | none =>
              simp only [Option.bind_none, i1, hp]
              split <;> rfl
            | some l =>
              cases hq : prs pr tr with
              | none =>
                simp only [Option.bind_some, Option.map_none, Option.bind_none, i1, hp]
                split
                · cases bnds w l s with
                  | none => rfl
                  | some s' => simp [i2, hq]
                · rfl
              | some m =>
                simp only [Option.bind_some, Option.map_some, bnds, bnd, if_neg e1, if_neg e2, hw', i1, hp]
                by_cases e7 : tw = w' ∧ imm = immAt pop w' pimm ∧ fl = pfl
                · rw [if_pos e7, if_pos e7]
                  simp only [Option.bind_some]
                  rw [bnds_app]
                  cases bnds w l s with
                  | none => rfl
                  | some s' => simp [i2, hq]
                · rw [if_neg e7, if_neg e7]
                  rfl

/-- the width at the first variable or hole -/
def wd1 : F → F → Int
  | .cons pop _ _ _ pk pr, .cons _ tw _ _ tk tr =>
    if 0 < (if pop = 33 ∨ pop = 34 then tw else if pk.len ≠ tk.len then 0 else wd1 pk tk) then (if pop = 33 ∨ pop = 34 then tw else if pk.len ≠ tk.len then 0 else wd1 pk tk) else wd1 pr tr
  | _, _ => 0

def wd2 : List Pr → Int
  | [] => 0
  | x :: l => if x.op = 33 ∨ x.op = 34 then x.tw else wd2 l

theorem wd2_app (l m : List Pr) (h : ∀ x ∈ l, 0 < x.tw) : wd2 (l ++ m) = if 0 < wd2 l then wd2 l else wd2 m := by
  induction l with
  | nil => simp [wd2]
  | cons x l ih =>
    have ih := ih fun y hy => h y (by simp [hy])
    have hx := h x (by simp)
    simp only [List.cons_append, wd2]
    by_cases e : x.op = 33 ∨ x.op = 34
    · simp [e, hx]
    · simp only [if_neg e]
      exact ih

/-- all widths are above 0 -/
def Wide : F → Prop
  | .nil => True
  | .cons _ w _ _ kids rest => 0 < w ∧ Wide kids ∧ Wide rest

theorem prs_wide : ∀ (p t : F), Wide t → ∀ l, prs p t = some l → ∀ x ∈ l, 0 < x.tw := by
  intro p
  induction p with
  | nil => intro t _ l h; cases t <;> simp [prs] at h; subst h; simp
  | cons pop pw pfl pimm pk pr ih1 ih2 =>
    intro t hw l h
    cases t with
    | nil => simp [prs] at h
    | cons op tw fl imm tk tr =>
      obtain ⟨w0, w1, w2⟩ := hw
      have i1 := ih1 tk w1
      have i2 := ih2 tr w2
      simp only [prs] at h
      have fin : ∀ m, prs pr tr = some m → ∀ x ∈ (⟨pop, pw, pfl, pimm, op, tw, fl, imm, tk⟩ : Pr) :: m, 0 < x.tw := by
        intro m hm x hx
        rcases List.mem_cons.1 hx with rfl | hx
        · exact w0
        · exact i2 m hm x hx
      split at h
      · obtain ⟨m, hm, rfl⟩ := Option.map_eq_some_iff.1 h
        exact fin m hm
      · split at h
        · split at h
          · obtain ⟨m, hm, rfl⟩ := Option.map_eq_some_iff.1 h
            exact fin m hm
          · cases h
        · split at h
          · cases h
          · obtain ⟨k, hk, h⟩ := Option.bind_eq_some_iff.1 h
            obtain ⟨m, hm, rfl⟩ := Option.map_eq_some_iff.1 h
            intro x hx
            rcases List.mem_cons.1 hx with rfl | hx
            · exact w0
            · rcases List.mem_append.1 hx with hx | hx
              · exact i1 k hk x hx
              · exact i2 m hm x hx

theorem wd_prs : ∀ (p t : F), Wide t → ∀ l, prs p t = some l → wd1 p t = wd2 l := by
  intro p
  induction p with
  | nil => intro t _ l h; cases t <;> simp [prs] at h; subst h; rfl
  | cons pop pw pfl pimm pk pr ih1 ih2 =>
    intro t hw l h
    cases t with
    | nil => simp [prs] at h
    | cons op tw fl imm tk tr =>
      obtain ⟨w0, w1, w2⟩ := hw
      have i1 := ih1 tk w1
      have i2 := ih2 tr w2
      simp only [prs] at h
      simp only [wd1]
      split at h
      · rename_i e
        obtain ⟨m, hm, rfl⟩ := Option.map_eq_some_iff.1 h
        simp [wd2, e, w0]
      · rename_i e1
        split at h
        · rename_i e
          split at h
          · obtain ⟨m, hm, rfl⟩ := Option.map_eq_some_iff.1 h
            simp [wd2, e, w0]
          · cases h
        · rename_i e2
          split at h
          · cases h
          · rename_i e3
            obtain ⟨k, hk, h⟩ := Option.bind_eq_some_iff.1 h
            obtain ⟨m, hm, rfl⟩ := Option.map_eq_some_iff.1 h
            have e4 : pk.len = tk.len := Decidable.byContradiction fun h => e3 (.inr h)
            have e5 : ¬ (pop = 33 ∨ pop = 34) := by rintro (h | h) <;> contradiction
            simp only [if_neg e5, e4, ne_eq, not_true_eq_false, if_false, wd2]
            rw [wd2_app _ _ (prs_wide pk tk w1 k hk), i1 k hk, i2 m hm]

/-- variables replaced by trees -/
def sub (b : Int → F) : F → F
  | .nil => .nil
  | .cons op w fl imm kids rest => if op = 33 then (b imm).app (sub b rest) else .cons op w fl imm (sub b kids) (sub b rest)
end R
end Go.Proofs.Ytcmlmjbpdaecbaa
