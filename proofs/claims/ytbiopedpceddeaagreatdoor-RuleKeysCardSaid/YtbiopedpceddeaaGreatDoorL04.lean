/- Merged: RT1, ROpenN, RPlainS, RPlainM, RPlainR. -/
import Derived.Test.YtbiopedpceddeaaGreatDoorL03
import Derived.RangeFuncCalls
import Derived.Test.YtbiopedpceddeaaGreatDoorL02
import Derived.BigGuardPart
import Derived.Laws.StructEq
set_option linter.unusedVariables false
set_option linter.unusedSimpArgs false
section
namespace Go.Proofs.YtbiopedpceddeaaGreatDoor
open Go.RowKit
set_option linter.unusedVariables false
set_option linter.unusedSimpArgs false

/-- the cells of a node -/
def ndC (x : T.Nd) (A : Option Addr) (c : Nat) : List Value := [.int .i64 x.op, .int .i64 x.w, .int .i64 x.fl, .slice A x.args.length c, .int .u32 x.imm]
/-- five cells read as a node -/
def NdR (W : World) (us : List Value) (x : T.Nd) : Prop := ∃ A c, us = ndC x A c ∧ SlAt (IntR .i64) W A x.args.length x.args ∧ 0 ≤ x.imm ∧ x.imm < 4294967296
theorem monoNd : MonoL NdR := by
  rintro w w' us x hb ⟨A, c, rfl, h, h2⟩
  exact ⟨A, c, rfl, h.below (monoInt _) hb, h2⟩

theorem ret_ib {a b : Int} {x y : Bool} (h1 : a = b) (h2 : x = y) : Ending.returned (.tuple #[.int .i64 a, .bool x]) = .returned (.tuple #[.int .i64 b, .bool y]) := by rw [h1, h2]

theorem ar_cases (op : Int) : (op = 0 ∧ T.ar op = 0) ∨ (op = 33 ∧ T.ar op = 0) ∨ (1 ≤ op ∧ op ≤ 14 ∧ T.ar op = 2) ∨ (op = 15 ∧ T.ar op = 3) ∨ (16 ≤ op ∧ op ≤ 18 ∧ T.ar op = 1) ∨ (¬ op = 0 ∧ ¬ op = 33 ∧ ¬ (1 ≤ op ∧ op ≤ 14) ∧ ¬ op = 15 ∧ ¬ (16 ≤ op ∧ op ≤ 18) ∧ T.ar op = -1) := by
  unfold T.ar
  by_cases h0 : op = 0
  · exact .inl ⟨h0, by rw [if_pos (.inl h0)]⟩
  by_cases h33 : op = 33
  · exact .inr (.inl ⟨h33, by rw [if_pos (.inr h33)]⟩)
  rw [if_neg (by omega)]
  by_cases h14 : 1 ≤ op ∧ op ≤ 14
  · exact .inr (.inr (.inl ⟨h14.1, h14.2, by rw [if_pos h14]⟩))
  rw [if_neg h14]
  by_cases h15 : op = 15
  · exact .inr (.inr (.inr (.inl ⟨h15, by rw [if_pos h15]⟩)))
  rw [if_neg h15]
  by_cases h18 : 16 ≤ op ∧ op ≤ 18
  · exact .inr (.inr (.inr (.inr (.inl ⟨h18.1, h18.2, by rw [if_pos h18]⟩))))
  rw [if_neg h18]
  exact .inr (.inr (.inr (.inr (.inr ⟨h0, h33, h14, h15, h18, rfl⟩))))

/-- the node as a value -/
def ndV (x : T.Nd) (A : Option Addr) (c : Nat) : Value := .agg #[.int .i64 x.op, .int .i64 x.w, .int .i64 x.fl, .slice A x.args.length c, .int .u32 x.imm]

end Go.Proofs.YtbiopedpceddeaaGreatDoor
end
section
namespace Go.Proofs.YtbiopedpceddeaaGreatDoor
open Go.ChangeShapes Go.WideShapes Go.ChangeAt Go.RowKit Go.Deep
set_option linter.unusedVariables false
set_option linter.unusedSimpArgs false

theorem cellsIntN : Tryz.prog.cellsOf 3 = 1 := by kernel_rfl
theorem cellsNode : Tryz.prog.cellsOf 62 = 5 := by kernel_rfl

end Go.Proofs.YtbiopedpceddeaaGreatDoor
end
section
namespace Go.Proofs.YtbiopedpceddeaaGreatDoor
set_option linter.unusedVariables false
set_option linter.unusedSimpArgs false
namespace T

/-- what nodes stand for: a forest -/
inductive F where
  | nil
  | cons (op w fl imm : Int) (kids rest : F)

def F.app : F → F → F
  | .nil, g => g
  | .cons op w fl imm kids rest, g => .cons op w fl imm kids (rest.app g)
def F.ht : F → Nat
  | .nil => 0
  | .cons _ _ _ _ kids rest => max (kids.ht + 1) rest.ht

def addN (out : List Nd) (y : Nd) : List Nd × Int := (if y ∈ out then out else out ++ [y], (out.idxOf y : Int))

/-- a forest told onto a list of nodes -/
def cnn : F → List Nd → List Nd × List Int
  | .nil, out => (out, [])
  | .cons op w fl imm kids rest, out =>
    ((cnn rest (addN (cnn kids out).1 ⟨op, w, fl, (cnn kids out).2, imm⟩).1).1,
      (addN (cnn kids out).1 ⟨op, w, fl, (cnn kids out).2, imm⟩).2 :: (cnn rest (addN (cnn kids out).1 ⟨op, w, fl, (cnn kids out).2, imm⟩).1).2)

/-- the nodes of these numbers stand for a forest -/
inductive Rep (t : List Nd) : List Int → F → Prop where
  | nil : Rep t [] .nil
  | cons {a : Int} {la : List Int} {x : Nd} {kids rest : F} (h0 : 0 ≤ a) (hx : t[a.toNat]? = some x) (hk : Rep t x.args kids) (hr : Rep t la rest) : Rep t (a :: la) (.cons x.op x.w x.fl x.imm kids rest)

/-- each operand stands ahead -/
def Ord (t : List Nd) : Prop := ∀ (k : Nat) (x : Nd), t[k]? = some x → ∀ a ∈ x.args, 0 ≤ a ∧ a < (k : Int)

theorem Rep.mono {t u : List Nd} (h : ∀ (i : Nat) (x : Nd), t[i]? = some x → u[i]? = some x) {la : List Int} {f : F} (r : Rep t la f) : Rep u la f := by
  induction r with
  | nil => exact .nil
  | cons h0 hx _ _ ih1 ih2 => exact .cons h0 (h _ _ hx) ih1 ih2

theorem Rep.det {t : List Nd} {la : List Int} {f g : F} (r : Rep t la f) : Rep t la g → f = g := by
  induction r generalizing g with
  | nil => intro s; cases s; rfl
  | cons h0 hx _ _ ih1 ih2 =>
    intro s
    cases s with
    | cons h0' hx' hk' hr' =>
      rw [hx] at hx'
      cases hx'
      rw [ih1 hk', ih2 hr']

theorem Rep.app {t : List Nd} {la bs : List Int} {f g : F} (r : Rep t la f) (s : Rep t bs g) : Rep t (la ++ bs) (f.app g) := by
  induction r with
  | nil => exact s
  | cons h0 hx hk _ _ ih2 => exact .cons h0 hx hk ih2

theorem Rep.ex {t : List Nd} (ho : Ord t) : ∀ (n : Nat), n ≤ t.length → ∀ (la : List Int), (∀ a ∈ la, 0 ≤ a ∧ a < (n : Int)) → ∃ f, Rep t la f := by
  intro n
  induction n with
  | zero =>
    intro _ la h
    cases la with
    | nil => exact ⟨_, .nil⟩
    | cons a la => have := h a (by simp); omega
  | succ n ih =>
    intro hn la h
    induction la with
    | nil => exact ⟨_, .nil⟩
    | cons a la ih2 =>
      obtain ⟨g, hg⟩ := ih2 (fun b hb => h b (by simp [hb]))
      have ha := h a (by simp)
      have hl : a.toNat < t.length := by omega
      have hx := List.getElem?_eq_getElem hl
      obtain ⟨f, hf⟩ := ih (by omega) (t[a.toNat]).args (fun b hb => by have := ho _ _ hx b hb; omega)
      exact ⟨_, .cons ha.1 hx hf hg⟩

theorem Rep.one {t : List Nd} (ho : Ord t) {k : Nat} (hk : k < t.length) : ∃ f, Rep t [(k : Int)] f := Rep.ex ho (k + 1) hk _ (fun a ha => by simp at ha; omega)

theorem addN_spec {out : List Nd} {y : Nd} (hn : out.Nodup) : out <+: (addN out y).1 ∧ (addN out y).1.Nodup ∧ 0 ≤ (addN out y).2 ∧ (addN out y).2 < (addN out y).1.length ∧ (addN out y).1[(addN out y).2.toNat]? = some y := by
  unfold addN
  by_cases h : y ∈ out
  · rw [if_pos h]
    have hl := List.idxOf_lt_length_of_mem h
    exact ⟨List.prefix_rfl, hn, by omega, by dsimp only; omega, by dsimp only; rw [Int.toNat_natCast, List.getElem?_eq_getElem hl]; simp⟩
  · rw [if_neg h]
    have e : List.idxOf y out = out.length := List.idxOf_eq_length h
    refine ⟨List.prefix_append _ _, ?_, by omega, by dsimp only; rw [e]; simp; omega, by dsimp only; rw [e]; simp⟩
    rw [List.nodup_append]
    exact ⟨hn, by simp, fun a ha b hb => by simp at hb; subst hb; exact fun e => h (e ▸ ha)⟩

theorem addN_ord {out : List Nd} {y : Nd} (ho : Ord out) (hy : ∀ a ∈ y.args, 0 ≤ a ∧ a < (out.length : Int)) : Ord (addN out y).1 := by
  unfold addN
  by_cases h : y ∈ out
  · rw [if_pos h]; exact ho
  · rw [if_neg h]
    intro k x hx a ha
    rcases Nat.lt_or_ge k out.length with hk | hk
    · rw [List.getElem?_append_left hk] at hx; exact ho k x hx a ha
    · rw [List.getElem?_append_right hk] at hx
      have : k - out.length = 0 := by
        rcases Nat.eq_zero_or_pos (k - out.length) with e | e
        · exact e
        · rw [List.getElem?_eq_none (by simp; omega)] at hx; cases hx
      rw [this] at hx
      simp at hx
      subst hx
      have := hy a ha
      omega

theorem pre_at {α : Type} {l m : List α} (h : l <+: m) (i : Nat) (x : α) (hx : l[i]? = some x) : m[i]? = some x := by
  obtain ⟨u, rfl⟩ := h
  rw [List.getElem?_append_left (List.getElem?_eq_some_iff.1 hx).1]
  exact hx

theorem pre_le {α : Type} {l m : List α} (h : l <+: m) : l.length ≤ m.length := h.length_le

theorem idx_at {out : List Nd} (hn : out.Nodup) {a : Nat} {x : Nd} (hx : out[a]? = some x) : x ∈ out ∧ out.idxOf x = a := by
  obtain ⟨hl, e⟩ := List.getElem?_eq_some_iff.1 hx
  refine ⟨List.mem_of_getElem? hx, ?_⟩
  subst e
  exact hn.idxOf_getElem a hl

/-- what is there already is not told again -/
theorem cnn_stable {out : List Nd} (hn : out.Nodup) {la : List Int} {f : F} (r : Rep out la f) : cnn f out = (out, la) := by
  induction r with
  | nil => rfl
  | @cons a la x kids rest h0 hx _ _ ih1 ih2 =>
    obtain ⟨hm, hi⟩ := idx_at hn hx
    have e : addN out ⟨x.op, x.w, x.fl, x.args, x.imm⟩ = (out, a) := by
      show addN out x = _
      unfold addN
      rw [if_pos hm, hi, Int.toNat_of_nonneg h0]
    simp only [cnn, ih1, e, ih2]

structure Told (out : List Nd) (r : List Nd × List Int) (f : F) : Prop where
  pre : out <+: r.1
  nd : r.1.Nodup
  ord : Ord r.1
  rep : Rep r.1 r.2 f
  lo : ∀ a ∈ r.2, 0 ≤ a ∧ a < (r.1.length : Int)

theorem cnn_told (f : F) : ∀ {out : List Nd}, out.Nodup → Ord out → Told out (cnn f out) f := by
  induction f with
  | nil => intro out hn ho; exact ⟨List.prefix_rfl, hn, ho, .nil, fun a ha => by simp [cnn] at ha⟩
  | cons op w fl imm kids rest ih1 ih2 =>
    intro out hn ho
    obtain ⟨p1, n1, o1, r1, l1⟩ := ih1 hn ho
    simp only [cnn]
    generalize hc1 : cnn kids out = c1 at *
    obtain ⟨p2, n2, z2, l2, g2⟩ := addN_spec (y := ⟨op, w, fl, c1.2, imm⟩) n1
    have o2 := addN_ord (y := ⟨op, w, fl, c1.2, imm⟩) o1 l1
    generalize hc2 : addN c1.1 ⟨op, w, fl, c1.2, imm⟩ = c2 at *
    obtain ⟨p3, n3, o3, r3, l3⟩ := ih2 n2 o2
    generalize hc3 : cnn rest c2.1 = c3 at *
    have hp : c1.1 <+: c3.1 := p2.trans p3
    refine ⟨p1.trans hp, n3, o3, ?_, ?_⟩
    · exact Rep.cons (x := ⟨op, w, fl, c1.2, imm⟩) z2 (pre_at p3 _ _ g2) (r1.mono (pre_at hp)) r3
    · intro a ha
      rcases List.mem_cons.1 ha with rfl | ha
      · have := pre_le p3; dsimp only; omega
      · exact l3 a ha

theorem cnn_app (f g : F) : ∀ (out : List Nd), cnn (f.app g) out = ((cnn g (cnn f out).1).1, (cnn f out).2 ++ (cnn g (cnn f out).1).2) := by
  induction f with
  | nil => intro out; rfl
  | cons op w fl imm kids rest _ ih2 => intro out; simp only [F.app, cnn, ih2]; rfl

/-- of these nodes none is higher -/
def Low (out : List Nd) (h : Nat) : Prop := ∀ (i : Int) (f : F), Rep out [i] f → f.ht ≤ h

theorem ord_nil : Ord [] := fun k x h => by simp at h
theorem low_nil (h : Nat) : Low [] h := fun i f r => by cases r with | cons h0 hx _ _ => simp at hx

theorem Rep.cut {out u : List Nd} (ho : Ord out) {i : Int} {f : F} (hi : i < (out.length : Int)) (r : Rep (out ++ u) [i] f) : Rep out [i] f := by
  have h0 : 0 ≤ i := by cases r with | cons h0 _ _ _ => exact h0
  obtain ⟨g, hg⟩ := Rep.ex ho out.length (Nat.le_refl _) [i] (fun a ha => by simp at ha; omega)
  have := (hg.mono (u := out ++ u) (fun k x hx => pre_at (List.prefix_append _ _) k x hx)).det r
  rw [← this]; exact hg

theorem low_add {out : List Nd} {y : Nd} {h : Nat} {kids : F} (ho : Ord out) (hy : ∀ a ∈ y.args, 0 ≤ a ∧ a < (out.length : Int)) (hk : Rep out y.args kids) (hl : Low out h) : Low (addN out y).1 (max h (kids.ht + 1)) := by
  unfold addN
  by_cases hm : y ∈ out
  · rw [if_pos hm]; intro i f r; have := hl i f r; omega
  · rw [if_neg hm]
    intro i f r
    rcases Int.lt_or_le i out.length with hi | hi
    · have := hl i f (r.cut ho hi); omega
    · cases r with
      | @cons _ _ x kids' rest h0 hx hk' hr =>
        cases hr
        have hi' : i.toNat = out.length := by
          have := (List.getElem?_eq_some_iff.1 hx).1
          simp at this
          omega
        rw [hi'] at hx
        simp at hx
        subst hx
        have e := (hk.mono (u := out ++ [y]) (fun k x hx => pre_at (List.prefix_append _ _) k x hx)).det hk'
        subst e
        simp only [F.ht]
        omega

theorem cnn_low (f : F) : ∀ {out : List Nd} {h : Nat}, out.Nodup → Ord out → Low out h → Low (cnn f out).1 (max h f.ht) := by
  induction f with
  | nil => intro out h _ _ hl i f r; have := hl i f r; omega
  | cons op w fl imm kids rest ih1 ih2 =>
    intro out h hn ho hl
    have t1 := cnn_told kids hn ho
    have l1 := ih1 hn ho hl
    simp only [cnn]
    have s2 := addN_spec (y := ⟨op, w, fl, (cnn kids out).2, imm⟩) t1.nd
    have o2 := addN_ord (y := ⟨op, w, fl, (cnn kids out).2, imm⟩) t1.ord t1.lo
    have l2 := low_add (y := ⟨op, w, fl, (cnn kids out).2, imm⟩) t1.ord t1.lo t1.rep l1
    have l3 := ih2 s2.2.1 o2 l2
    intro i g r
    have := l3 i g r
    simp only [F.ht]
    omega

/-- the root of a tree that is told alone stands at the end -/
theorem cnn_last (op w fl imm : Int) (kids : F) : (cnn (.cons op w fl imm kids .nil) []).2 = [((cnn (.cons op w fl imm kids .nil) []).1.length : Int) - 1] ∧ 1 ≤ (cnn (.cons op w fl imm kids .nil) []).1.length := by
  have t1 := cnn_told kids List.nodup_nil ord_nil
  have l1 := cnn_low kids List.nodup_nil ord_nil (low_nil 0)
  simp only [cnn]
  have hm : (⟨op, w, fl, (cnn kids []).2, imm⟩ : Nd) ∉ (cnn kids []).1 := by
    intro hm
    obtain ⟨i, hi⟩ := List.mem_iff_getElem?.1 hm
    have := l1 i _ (Rep.cons (x := ⟨op, w, fl, (cnn kids []).2, imm⟩) (by omega) (by rw [Int.toNat_natCast]; exact hi) t1.rep .nil)
    simp only [F.ht] at this
    omega
  unfold addN
  rw [if_neg hm, List.idxOf_eq_length hm]
  simp
end T
end Go.Proofs.YtbiopedpceddeaaGreatDoor
end
section
namespace Go.Proofs.YtbiopedpceddeaaGreatDoor
set_option linter.unusedVariables false
set_option linter.unusedSimpArgs false
namespace T
deriving instance DecidableEq for F
def F.len : F → Nat
  | .nil => 0
  | .cons _ _ _ _ _ rest => rest.len + 1

theorem Rep.len {t : List Nd} {la : List Int} {f : F} (r : Rep t la f) : f.len = la.length := by
  induction r with
  | nil => rfl
  | cons _ _ _ _ _ ih => simp [F.len, ih]

/-- the tree of one node -/
def canon (f : F) : List Nd := (cnn f []).1

theorem canon_inj {o1 w1 f1 i1 o2 w2 f2 i2 : Int} {k1 k2 : F} (h : canon (.cons o1 w1 f1 i1 k1 .nil) = canon (.cons o2 w2 f2 i2 k2 .nil)) : F.cons o1 w1 f1 i1 k1 .nil = F.cons o2 w2 f2 i2 k2 .nil := by
  have a1 := cnn_told (.cons o1 w1 f1 i1 k1 .nil) List.nodup_nil ord_nil
  have a2 := cnn_told (.cons o2 w2 f2 i2 k2 .nil) List.nodup_nil ord_nil
  have b1 := (cnn_last o1 w1 f1 i1 k1).1
  have b2 := (cnn_last o2 w2 f2 i2 k2).1
  unfold canon at h
  have r1 := a1.rep
  have r2 := a2.rep
  rw [b1] at r1
  rw [b2, ← h] at r2
  exact r1.det r2
end T

namespace R
open T (Nd F)

/-- what is bound -/
structure St where
  v : Int → Option F
  h : Int → Option Int

def St.setV (s : St) (i : Int) (f : F) : St := ⟨fun j => if j = i then some f else s.v j, s.h⟩
def St.setH (s : St) (i : Int) (n : Int) : St := ⟨s.v, fun j => if j = i then some n else s.h j⟩
def St.none : St := ⟨fun _ => Option.none, fun _ => Option.none⟩

/-- binds a variable -/
def bindV (s : St) (i : Int) (f : F) : Option St :=
  match s.v i with
  | .none => some (s.setV i f)
  | .some g => if g = f then some s else .none
def bindH (s : St) (i : Int) (n : Int) : Option St :=
  match s.h i with
  | .none => some (s.setH i n)
  | .some m => if m = n then some s else .none

def immAt (op w imm : Int) : Int := if op = 0 then imm % B.pw w else imm

/-- the program's way: from the root down, all at once -/
def fit (w : Int) : F → F → St → Option St
  | .cons pop pw pfl pimm pk pr, .cons op tw fl imm tk tr, s =>
    let w' := if pw = 0 then w else pw
    if tw ≠ w' then .none
    else if pop = 33 then (bindV s pimm (.cons op tw fl imm tk .nil)).bind (fit w pr tr)
    else if pop = 34 then (if op = 0 then (bindH s pimm imm).bind (fit w pr tr) else .none)
    else if op ≠ pop ∨ imm ≠ immAt pop w' pimm ∨ fl ≠ pfl ∨ pk.len ≠ tk.len then .none
    else (fit w pk tk s).bind (fit w pr tr)
  | .nil, .nil, s => some s
  | _, _, _ => .none

/-- in a pattern variables and holes have no width of their own -/
def Bare : F → Prop
  | .nil => True
  | .cons op w _ _ kids rest => ((op = 33 ∨ op = 34) → w = 0) ∧ Bare kids ∧ Bare rest

/-- the width at the first variable or hole -/
def wd1 : F → F → Int
  | .cons pop _ _ _ pk pr, .cons _ tw _ _ tk tr =>
    if 0 < (if pop = 33 ∨ pop = 34 then tw else if pk.len ≠ tk.len then 0 else wd1 pk tk) then (if pop = 33 ∨ pop = 34 then tw else if pk.len ≠ tk.len then 0 else wd1 pk tk) else wd1 pr tr
  | _, _ => 0

/-- variables replaced by trees -/
def sub (b : Int → F) : F → F
  | .nil => .nil
  | .cons op w fl imm kids rest => if op = 33 then (b imm).app (sub b rest) else .cons op w fl imm (sub b kids) (sub b rest)
end R
end Go.Proofs.YtbiopedpceddeaaGreatDoor
end
section
namespace Go.Proofs.YtbiopedpceddeaaGreatDoor
set_option linter.unusedVariables false
set_option linter.unusedSimpArgs false
namespace R
open T (Nd F)

structure Cd where
  kind : Int
  hole : Int
  imm : Int
deriving DecidableEq, Inhabited
structure Rl where
  left : List Nd
  right : List Nd
  pre : List Cd
deriving DecidableEq, Inhabited

def flOk (op fl : Int) : Bool :=
  if op = 1 ∨ op = 2 ∨ op = 3 ∨ op = 11 then decide (0 ≤ fl) && decide (fl ≤ 3)
  else if op = 4 ∨ op = 6 ∨ op = 12 ∨ op = 13 then decide (fl = 0) || decide (fl = 4)
  else decide (fl = 0)
/-- operands of an operation of patterns -/
def par (op : Int) : Int := if op = 34 then 0 else if op = 35 then 1 else if 16 ≤ op ∧ op ≤ 18 then -1 else T.ar op
def pimmOk (p : List Nd) (right : Bool) (x : Nd) : Bool :=
  if x.op = 0 then decide (x.w = 0) || B.isW x.w x.imm
  else if x.op = 33 ∨ x.op = 34 then decide (x.w = 0) && decide (x.imm < 2)
  else if x.op = 35 then right && decide (x.w = 0) && decide (x.imm = 0) && decide ((p.getD (x.args.getD 0 0).toNat default).op = 34)
  else if x.op = 14 then decide (x.w = 1) && decide (x.imm ≤ 9)
  else decide (x.imm = 0)
/-- a node of a pattern is right, but for the widths of its operands -/
def pnode (p : List Nd) (right : Bool) (k : Nat) (x : Nd) : Bool :=
  decide (0 ≤ par x.op) && decide ((x.args.length : Int) = par x.op) && decide (0 ≤ x.w) && decide (x.w ≤ 32) && flOk x.op x.fl && T.argsOk k x.args && pimmOk p right x
def cdOk (c : Cd) : Bool := decide (0 ≤ c.kind) && decide (c.kind ≤ 4) && decide (0 ≤ c.hole) && decide (c.hole < 2) && (decide (c.kind = 4) || decide (c.imm = 0))

/-- a term with flags -/
def fvalid (t : List Nd) : Int :=
  if t.length < 1 ∨ 300 < t.length then 3
  else if (t.all fun x => flOk x.op x.fl) = false then 1
  else T.valid false t

def need1 (p : List Nd) (o : List Bool) (k : Nat) : List Bool := (p.getD k default).args.foldl (fun o a => o.set a.toNat (o.getD a.toNat false || o.getD k false)) o
/-- which nodes lead to the root -/
def need (p : List Nd) : List Bool := (List.range p.length).reverse.foldl (need1 p) ((List.replicate p.length false).set (p.length - 1) true)
/-- a node that leads to the root is of this kind -/
def occ (p : List Nd) (op imm : Int) : Bool := (p.zip (need p)).any fun q => q.2 && decide (q.1.op = op) && decide (q.1.imm = imm)

def rootW (p : List Nd) : Int := (p.getD (p.length - 1) default).w

def rvalid (r : Rl) : Int :=
  if r.left.length < 1 ∨ 12 < r.left.length ∨ r.right.length < 1 ∨ 12 < r.right.length ∨ 4 < r.pre.length then 3
  else if ((r.left.zipIdx.all fun q => pnode r.left false q.2 q.1) && (r.right.zipIdx.all fun q => pnode r.right true q.2 q.1)) = false then 1
  else if (r.pre.all cdOk) = false then 1
  else if ((r.left.all (T.typed r.left)) && (r.right.all (T.typed r.right)) && decide (rootW r.left ≤ 1) && decide (rootW r.right = rootW r.left)) = false then 6
  else if ((r.right.all fun x => (!decide (x.op = 33 ∨ x.op = 34)) || occ r.left x.op x.imm) && (r.pre.all fun c => occ r.left 34 c.hole)) = false then 7
  else 0

end R
end Go.Proofs.YtbiopedpceddeaaGreatDoor
end
