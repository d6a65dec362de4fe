/- Plain: shared terms: lists of nodes without equal ones, in the order in which they are told first. -/
import Derived.Test.YtcmlmjbpdaecbaaH02
set_option linter.unusedVariables false
set_option linter.unusedSimpArgs false
namespace Go.Proofs.Ytcmlmjbpdaecbaa
set_option linter.unusedVariables false
set_option linter.unusedSimpArgs false
namespace T

/-- what nodes stand for: a forest -/
inductive F where
  | nil
  | cons (op w fl imm : Int) (kids rest : F)

def F.app : F → F → F
  | .nil, g => g
  | .cons op w fl imm kids rest, g => .cons op w fl imm kids (rest.app g)
def F.ht : F → Nat
  | .nil => 0
  | .cons _ _ _ _ kids rest => max (kids.ht + 1) rest.ht

def addN (out : List Nd) (y : Nd) : List Nd × Int := (if y ∈ out then out else out ++ [y], (out.idxOf y : Int))

/-- a forest told onto a list of nodes -/
def cnn : F → List Nd → List Nd × List Int
  | .nil, out => (out, [])
  | .cons op w fl imm kids rest, out =>
    ((cnn rest (addN (cnn kids out).1 ⟨op, w, fl, (cnn kids out).2, imm⟩).1).1,
      (addN (cnn kids out).1 ⟨op, w, fl, (cnn kids out).2, imm⟩).2 :: (cnn rest (addN (cnn kids out).1 ⟨op, w, fl, (cnn kids out).2, imm⟩).1).2)

/-- the nodes of these numbers stand for a forest -/
inductive Rep (t : List Nd) : List Int → F → Prop where
  | nil : Rep t [] .nil
  | cons {a : Int} {la : List Int} {x : Nd} {kids rest : F} (h0 : 0 ≤ a) (hx : t[a.toNat]? = some x) (hk : Rep t x.args kids) (hr : Rep t la rest) : Rep t (a :: la) (.cons x.op x.w x.fl x.imm kids rest)

/-- each operand stands ahead -/
def Ord (t : List Nd) : Prop := ∀ (k : Nat) (x : Nd), t[k]? = some x → ∀ a ∈ x.args, 0 ≤ a ∧ a < (k : Int)

theorem Rep.mono {t u : List Nd} (h : ∀ (i : Nat) (x : Nd), t[i]? = some x → u[i]? = some x) {la : List Int} {f : F} (r : Rep t la f) : Rep u la f := by
  induction r with
  | nil => exact .nil
  | cons h0 hx _ _ ih1 ih2 => exact .cons h0 (h _ _ hx) ih1 ih2

theorem Rep.det {t : List Nd} {la : List Int} {f g : F} (r : Rep t la f) : Rep t la g → f = g := by
  induction r generalizing g with
  | nil => intro s; cases s; rfl
  | cons h0 hx _ _ ih1 ih2 =>
    intro s
    cases s with
    | cons h0' hx' hk' hr' =>
      rw [hx] at hx'
      cases hx'
      rw [ih1 hk', ih2 hr']

theorem Rep.app {t : List Nd} {la bs : List Int} {f g : F} (r : Rep t la f) (s : Rep t bs g) : Rep t (la ++ bs) (f.app g) := by
  induction r with
  | nil => exact s
  | cons h0 hx hk _ _ ih2 => exact .cons h0 hx hk ih2

theorem Rep.ex {t : List Nd} (ho : Ord t) : ∀ (n : Nat), n ≤ t.length → ∀ (la : List Int), (∀ a ∈ la, 0 ≤ a ∧ a < (n : Int)) → ∃ f, Rep t la f := by
  intro n
  induction n with
  | zero =>
    intro _ la h
    cases la with
    | nil => exact ⟨_, .nil⟩
    | cons a la => have := h a (by simp); omega
  | succ n ih =>
    intro hn la h
    induction la with
    | nil => exact ⟨_, .nil⟩
    | cons a la ih2 =>
      obtain ⟨g, hg⟩ := ih2 (fun b hb => h b (by simp [hb]))
      have ha := h a (by simp)
      have hl : a.toNat < t.length := by omega
      have hx := List.getElem?_eq_getElem hl
      obtain ⟨f, hf⟩ := ih (by omega) (t[a.toNat]).args (fun b hb => by have := ho _ _ hx b hb; omega)
      exact ⟨_, .cons ha.1 hx hf hg⟩

theorem Rep.one {t : List Nd} (ho : Ord t) {k : Nat} (hk : k < t.length) : ∃ f, Rep t [(k : Int)] f := Rep.ex ho (k + 1) hk _ (fun a ha => by simp at ha; omega)

theorem addN_spec {out : List Nd} {y : Nd} (hn : out.Nodup) : out <+: (addN out y).1 ∧ (addN out y).1.Nodup ∧ 0 ≤ (addN out y).2 ∧ (addN out y).2 < (addN out y).1.length ∧ (addN out y).1[(addN out y).2.toNat]? = some y := by
  unfold addN
  by_cases h : y ∈ out
  · rw [if_pos h]
    have hl := List.idxOf_lt_length_of_mem h
    exact ⟨List.prefix_rfl, hn, by omega, by dsimp only; omega, by dsimp only; rw [Int.toNat_natCast, List.getElem?_eq_getElem hl]; simp⟩
  · rw [if_neg h]
    have e : List.idxOf y out = out.length := List.idxOf_eq_length h
    refine ⟨List.prefix_append _ _, ?_, by omega, by dsimp only; rw [e]; simp; omega, by dsimp only; rw [e]; simp⟩
    rw [List.nodup_append]
    exact ⟨hn, by simp, fun a ha b hb => by simp at hb; subst hb; exact fun e => h (e ▸ ha)⟩

theorem addN_ord {out : List Nd} {y : Nd} (ho : Ord out) (hy : ∀ a ∈ y.args, 0 ≤ a ∧ a < (out.length : Int)) : Ord (addN out y).1 := by
  unfold addN
  by_cases h : y ∈ out
  · rw [if_pos h]; exact ho
  · rw [if_neg h]
    intro k x hx a ha
    rcases Nat.lt_or_ge k out.length with hk | hk
    · rw [List.getElem?_append_left hk] at hx; exact ho k x hx a ha
    · rw [List.getElem?_append_right hk] at hx
      have : k - out.length = 0 := by
        rcases Nat.eq_zero_or_pos (k - out.length) with e | e
        · exact e
        · rw [List.getElem?_eq_none (by simp; omega)] at hx; cases hx
      rw [this] at hx
      simp at hx
      subst hx
      have := hy a ha
      omega

theorem pre_at {α : Type} {l m : List α} (h : l <+: m) (i : Nat) (x : α) (hx : l[i]? = some x) : m[i]? = some x := by
  obtain ⟨u, rfl⟩ := h
  rw [List.getElem?_append_left (List.getElem?_eq_some_iff.1 hx).1]
  exact hx

theorem pre_le {α : Type} {l m : List α} (h : l <+: m) : l.length ≤ m.length := h.length_le

theorem idx_at {out : List Nd} (hn : out.Nodup) {a : Nat} {x : Nd} (hx : out[a]? = some x) : x ∈ out ∧ out.idxOf x = a := by
  obtain ⟨hl, e⟩ := List.getElem?_eq_some_iff.1 hx
  refine ⟨List.mem_of_getElem? hx, ?_⟩
  subst e
  exact hn.idxOf_getElem a hl

/-- what is there already is not told again -/
theorem cnn_stable {out : List Nd} (hn : out.Nodup) {la : List Int} {f : F} (r : Rep out la f) : cnn f out = (out, la) := by
  induction r with
  | nil => rfl
  | @cons a la x kids rest h0 hx _ _ ih1 ih2 =>
    obtain ⟨hm, hi⟩ := idx_at hn hx
    have e : addN out ⟨x.op, x.w, x.fl, x.args, x.imm⟩ = (out, a) := by
      show addN out x = _
      unfold addN
      rw [if_pos hm, hi, Int.toNat_of_nonneg h0]
    simp only [cnn, ih1, e, ih2]

structure Told (out : List Nd) (r : List Nd × List Int) (f : F) : Prop where
  pre : out <+: r.1
  nd : r.1.Nodup
  ord : Ord r.1
  rep : Rep r.1 r.2 f
  lo : ∀ a ∈ r.2, 0 ≤ a ∧ a < (r.1.length : Int)

theorem cnn_told (f : F) : ∀ {out : List Nd}, out.Nodup → Ord out → Told out (cnn f out) f := by
  induction f with
  | nil => intro out hn ho; exact ⟨List.prefix_rfl, hn, ho, .nil, fun a ha => by simp [cnn] at ha⟩
  | cons op w fl imm kids rest ih1 ih2 =>
    intro out hn ho
    obtain ⟨p1, n1, o1, r1, l1⟩ := ih1 hn ho
    simp only [cnn]
    generalize hc1 : cnn kids out = c1 at *
    obtain ⟨p2, n2, z2, l2, g2⟩ := addN_spec (y := ⟨op, w, fl, c1.2, imm⟩) n1
    have o2 := addN_ord (y := ⟨op, w, fl, c1.2, imm⟩) o1 l1
    generalize hc2 : addN c1.1 ⟨op, w, fl, c1.2, imm⟩ = c2 at *
    obtain ⟨p3, n3, o3, r3, l3⟩ := ih2 n2 o2
    generalize hc3 : cnn rest c2.1 = c3 at *
    have hp : c1.1 <+: c3.1 := p2.trans p3
    refine ⟨p1.trans hp, n3, o3, ?_, ?_⟩
    · exact Rep.cons (x := ⟨op, w, fl, c1.2, imm⟩) z2 (pre_at p3 _ _ g2) (r1.mono (pre_at hp)) r3
    · intro a ha
      rcases List.mem_cons.1 ha with rfl | ha
      · have := pre_le p3; dsimp only; omega
      · exact l3 a ha

theorem cnn_app (f g : F) : ∀ (out : List Nd), cnn (f.app g) out = ((cnn g (cnn f out).1).1, (cnn f out).2 ++ (cnn g (cnn f out).1).2) := by
  induction f with
  | nil => intro out; rfl
  | cons op w fl imm kids rest _ ih2 => intro out; simp only [F.app, cnn, ih2]; rfl

/-- of these nodes none is higher -/
def Low (out : List Nd) (h : Nat) : Prop := ∀ (i : Int) (f : F), Rep out [i] f → f.ht ≤ h

theorem ord_nil : Ord [] := fun k x h => by simp at h
theorem low_nil (h : Nat) : Low [] h := fun i f r => by cases r with | cons h0 hx _ _ => simp at hx

theorem Rep.cut {out u : List Nd} (ho : Ord out) {i : Int} {f : F} (hi : i < (out.length : Int)) (r : Rep (out ++ u) [i] f) : Rep out [i] f := by
  have h0 : 0 ≤ i := by cases r with | cons h0 _ _ _ => exact h0
  obtain ⟨g, hg⟩ := Rep.ex ho out.length (Nat.le_refl _) [i] (fun a ha => by simp at ha; omega)
  have := (hg.mono (u := out ++ u) (fun k x hx => pre_at (List.prefix_append _ _) k x hx)).det r
  rw [← this]; exact hg

theorem low_add {out : List Nd} {y : Nd} {h : Nat} {kids : F} (ho : Ord out) (hy : ∀ a ∈ y.args, 0 ≤ a ∧ a < (out.length : Int)) (hk : Rep out y.args kids) (hl : Low out h) : Low (addN out y).1 (max h (kids.ht + 1)) := by
  unfold addN
  by_cases hm : y ∈ out
  · rw [if_pos hm]; intro i f r; have := hl i f r; omega
  · rw [if_neg hm]
    intro i f r
    rcases Int.lt_or_le i out.length with hi | hi
    · have := hl i f (r.cut ho hi); omega
    · cases r with
      | @cons _ _ x kids' rest h0 hx hk' hr =>
        cases hr
        have hi' : i.toNat = out.length := by
          have := (List.getElem?_eq_some_iff.1 hx).1
          simp at this
          omega
        rw [hi'] at hx
        simp at hx
        subst hx
        have e := (hk.mono (u := out ++ [y]) (fun k x hx => pre_at (List.prefix_append _ _) k x hx)).det hk'
        subst e
        simp only [F.ht]
        omega

theorem cnn_low (f : F) : ∀ {out : List Nd} {h : Nat}, out.Nodup → Ord out → Low out h → Low (cnn f out).1 (max h f.ht) := by
  induction f with
  | nil => intro out h _ _ hl i f r; have := hl i f r; omega
  | cons op w fl imm kids rest ih1 ih2 =>
    intro out h hn ho hl
    have t1 := cnn_told kids hn ho
    have l1 := ih1 hn ho hl
    simp only [cnn]
    have s2 := addN_spec (y := ⟨op, w, fl, (cnn kids out).2, imm⟩) t1.nd
    have o2 := addN_ord (y := ⟨op, w, fl, (cnn kids out).2, imm⟩) t1.ord t1.lo
    have l2 := low_add (y := ⟨op, w, fl, (cnn kids out).2, imm⟩) t1.ord t1.lo t1.rep l1
    have l3 := ih2 s2.2.1 o2 l2
    intro i g r
    have := l3 i g r
    simp only [F.ht]
    omega

/-- the root of a tree that is told alone stands at the end -/
theorem cnn_last (op w fl imm : Int) (kids : F) : (cnn (.cons op w fl imm kids .nil) []).2 = [((cnn (.cons op w fl imm kids .nil) []).1.length : Int) - 1] ∧ 1 ≤ (cnn (.cons op w fl imm kids .nil) []).1.length := by
  have t1 := cnn_told kids List.nodup_nil ord_nil
  have l1 := cnn_low kids List.nodup_nil ord_nil (low_nil 0)
  simp only [cnn]
  have hm : (⟨op, w, fl, (cnn kids []).2, imm⟩ : Nd) ∉ (cnn kids []).1 := by
    intro hm
    obtain ⟨i, hi⟩ := List.mem_iff_getElem?.1 hm
    have := l1 i _ (Rep.cons (x := ⟨op, w, fl, (cnn kids []).2, imm⟩) (by omega) (by rw [Int.toNat_natCast]; exact hi) t1.rep .nil)
    simp only [F.ht] at this
    omega
  unfold addN
  rw [if_neg hm, List.idxOf_eq_length hm]
  simp
end T
end Go.Proofs.Ytcmlmjbpdaecbaa
