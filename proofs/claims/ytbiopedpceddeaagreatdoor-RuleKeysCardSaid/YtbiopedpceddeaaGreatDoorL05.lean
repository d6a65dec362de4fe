/- Merged: RPlainN, RPlainG. -/
import Derived.Test.YtbiopedpceddeaaGreatDoorL04
set_option linter.unusedVariables false
set_option linter.unusedSimpArgs false
section
namespace Go.Proofs.YtbiopedpceddeaaGreatDoor
set_option linter.unusedVariables false
set_option linter.unusedSimpArgs false
namespace R
open T (Nd F)

/-- what is reached from nodes -/
inductive From (p : List Nd) (la : List Int) : Nat → Prop where
  | here {a : Int} (h : a ∈ la) : From p la a.toNat
  | next {k : Nat} {x : Nd} {a : Int} (h : From p la k) (hx : p[k]? = some x) (ha : a ∈ x.args) : From p la a.toNat

theorem From.sub {p : List Nd} {la bs : List Int} (h : ∀ a ∈ la, From p bs a.toNat) {k : Nat} (r : From p la k) : From p bs k := by
  induction r with
  | here ha => exact h _ ha
  | next _ hx ha ih => exact .next ih hx ha

theorem setTrue {o : List Bool} {a i : Nat} {b : Bool} (ha : a < o.length) : (o.set a (o.getD a false || b)).getD i false = (o.getD i false || (decide (i = a) && b)) := by
  simp only [List.getD_eq_getElem?_getD, List.getElem?_set]
  by_cases h : a = i
  · subst h
    simp [ha]
  · have : ¬ i = a := fun e => h e.symm
    simp [h, this]

theorem need_inner (k : Nat) : ∀ (l : List Int) (o : List Bool), k < o.length → (∀ a ∈ l, 0 ≤ a ∧ a < (k : Int)) →
    (l.foldl (fun o a => o.set a.toNat (o.getD a.toNat false || o.getD k false)) o).length = o.length ∧
    ∀ i, (l.foldl (fun o a => o.set a.toNat (o.getD a.toNat false || o.getD k false)) o).getD i false = (o.getD i false || ((l.any fun a => decide (a.toNat = i)) && o.getD k false)) := by
  intro l
  induction l with
  | nil => intro o _ _; simp
  | cons a l ih =>
    intro o hk hl
    have ha := hl a (by simp)
    have hak : a.toNat < o.length := by omega
    obtain ⟨h1, h2⟩ := ih (o.set a.toNat (o.getD a.toNat false || o.getD k false)) (by simpa using hk) (fun b hb => hl b (by simp [hb]))
    refine ⟨by simp only [List.foldl_cons]; rw [h1]; simp, fun i => ?_⟩
    simp only [List.foldl_cons]
    rw [h2 i, setTrue hak, setTrue hak]
    have hne : decide (k = a.toNat) = false := by simp; omega
    rw [hne]
    simp only [Bool.false_and, Bool.or_false, List.any_cons]
    have : decide (a.toNat = i) = decide (i = a.toNat) := by simp [eq_comm]
    rw [this]
    cases o.getD i false <;> cases decide (i = a.toNat) <;> cases o.getD k false <;> simp

structure NeedI (p : List Nd) (m : Nat) (o : List Bool) : Prop where
  len : o.length = p.length
  sound : ∀ i, o.getD i false = true → From p [((p.length : Int) - 1)] i
  root : o.getD (p.length - 1) false = true
  shut : ∀ k x, m ≤ k → p[k]? = some x → o.getD k false = true → ∀ a ∈ x.args, o.getD a.toNat false = true

theorem need_step {p : List Nd} (ho : T.Ord p) {m : Nat} {o : List Bool} (hm : m < p.length) (h : NeedI p (m + 1) o) : NeedI p m (need1 p o m) := by
  obtain ⟨h1, h2, h3, h4⟩ := h
  have hx := List.getElem?_eq_getElem hm
  have e : p.getD m default = p[m] := by rw [List.getD_eq_getElem?_getD, hx]; rfl
  obtain ⟨g1, g2⟩ := need_inner m (p[m]).args o (by omega) (ho m _ hx)
  unfold need1
  rw [e]
  refine ⟨by rw [g1]; exact h1, ?_, by rw [g2, h3]; rfl, ?_⟩
  · intro i hi
    rw [g2] at hi
    rcases Bool.or_eq_true_iff.1 hi with hi | hi
    · exact h2 i hi
    · obtain ⟨hi1, hi2⟩ := Bool.and_eq_true_iff.1 hi
      obtain ⟨a, ha, hai⟩ := List.any_eq_true.1 hi1
      have : a.toNat = i := by simpa using hai
      rw [← this]
      exact .next (h2 m hi2) hx ha
  · intro k x hk hkx hko a ha
    have hax := ho k x hkx a ha
    rw [g2] at hko
    rw [g2]
    have hkn : (p[m].args.any fun a => decide (a.toNat = k)) = false := by
      rw [List.any_eq_false]
      intro b hb
      have := ho m _ hx b hb
      simp; omega
    rw [hkn] at hko
    simp only [Bool.false_and, Bool.or_false] at hko
    rcases Nat.eq_or_lt_of_le hk with e | e
    · subst e
      rw [hx] at hkx
      cases hkx
      have : (p[m].args.any fun b => decide (b.toNat = a.toNat)) = true := List.any_eq_true.2 ⟨a, ha, by simp⟩
      rw [this, hko]
      simp
    · rw [h4 k x e hkx hko a ha]; rfl

theorem need_spec {p : List Nd} (ho : T.Ord p) (hp : 0 < p.length) : NeedI p 0 (need p) := by
  have start : NeedI p p.length ((List.replicate p.length false).set (p.length - 1) true) := by
    have hg : ∀ i, ((List.replicate p.length false).set (p.length - 1) true).getD i false = decide (i = p.length - 1) := by
      intro i
      simp only [List.getD_eq_getElem?_getD, List.getElem?_set]
      by_cases e : p.length - 1 = i
      · subst e
        have : p.length - 1 < p.length := by omega
        simp [this]
      · have : ¬ i = p.length - 1 := fun h => e h.symm
        simp [e, this, List.getElem?_replicate]
        split <;> rfl
    refine ⟨by simp, ?_, by rw [hg]; simp, ?_⟩
    · intro i hi
      rw [hg] at hi
      have : i = p.length - 1 := by simpa using hi
      have e : ((p.length : Int) - 1).toNat = i := by omega
      rw [← e]
      exact .here (by simp)
    · intro k x hk hkx
      have := (List.getElem?_eq_some_iff.1 hkx).1
      omega
  have go : ∀ (m : Nat), m ≤ p.length → ∀ o, NeedI p m o → NeedI p 0 ((List.range m).reverse.foldl (need1 p) o) := by
    intro m
    induction m with
    | zero => intro _ o h; simpa using h
    | succ m ih =>
      intro hm o h
      rw [List.range_succ, List.reverse_append]
      simp only [List.reverse_cons, List.reverse_nil, List.nil_append, List.singleton_append, List.foldl_cons]
      exact ih (by omega) _ (need_step ho (by omega) h)
  exact go _ (Nat.le_refl _) _ start

theorem need_iff {p : List Nd} (ho : T.Ord p) (hp : 0 < p.length) {k : Nat} : (need p).getD k false = true ↔ From p [((p.length : Int) - 1)] k := by
  have h := need_spec ho hp
  refine ⟨h.sound k, fun r => ?_⟩
  induction r with
  | here ha =>
    simp at ha
    subst ha
    have e : ((p.length : Int) - 1).toNat = p.length - 1 := by omega
    rw [e]; exact h.root
  | next _ hx ha ih => exact h.shut _ _ (Nat.zero_le _) hx ih _ ha

theorem occ_iff {p : List Nd} (ho : T.Ord p) (hp : 0 < p.length) {op imm : Int} : occ p op imm = true ↔ ∃ k x, From p [((p.length : Int) - 1)] k ∧ p[k]? = some x ∧ x.op = op ∧ x.imm = imm := by
  have hl := (need_spec ho hp).len
  unfold occ
  rw [List.any_eq_true]
  constructor
  · rintro ⟨⟨x, b⟩, hm, h⟩
    simp only [Bool.and_eq_true, decide_eq_true_eq] at h
    obtain ⟨k, hk⟩ := List.mem_iff_getElem?.1 hm
    rw [List.getElem?_zip_eq_some] at hk
    refine ⟨k, x, (need_iff ho hp).1 ?_, hk.1, h.1.2, h.2⟩
    rw [List.getD_eq_getElem?_getD, hk.2]
    exact h.1.1
  · rintro ⟨k, x, hr, hx, h1, h2⟩
    have hn := (need_iff ho hp).2 hr
    have hk : k < (need p).length := by rw [hl]; exact (List.getElem?_eq_some_iff.1 hx).1
    refine ⟨(x, true), List.mem_of_getElem? (i := k) ?_, by simp [h1, h2]⟩
    rw [List.getElem?_zip_eq_some]
    refine ⟨hx, ?_⟩
    rw [List.getD_eq_getElem?_getD, List.getElem?_eq_getElem hk] at hn
    rw [List.getElem?_eq_getElem hk]
    simpa using hn

/-- a label stands in a forest -/
def occF : F → Int → Int → Prop
  | .nil, _, _ => False
  | .cons op _ _ imm kids rest, o, i => (op = o ∧ imm = i) ∨ occF kids o i ∨ occF rest o i

theorem occF_from {p : List Nd} {la : List Int} {f : F} (r : T.Rep p la f) {o i : Int} : occF f o i ↔ ∃ k x, From p la k ∧ p[k]? = some x ∧ x.op = o ∧ x.imm = i := by
  induction r with
  | nil =>
    refine ⟨fun h => h.elim, ?_⟩
    rintro ⟨k, x, h, h'⟩
    exfalso
    clear h'
    induction h with
    | here ha => cases ha
    | next _ _ _ ih => exact ih
  | @cons a la x kids rest h0 hx hk hr ih1 ih2 =>
    simp only [occF]
    constructor
    · rintro (h | h | h)
      · exact ⟨a.toNat, x, .here (by simp), hx, h.1, h.2⟩
      · obtain ⟨k, y, h1, h2⟩ := ih1.1 h
        exact ⟨k, y, h1.sub fun b hb => .next (.here (by simp)) hx hb, h2⟩
      · obtain ⟨k, y, h1, h2⟩ := ih2.1 h
        exact ⟨k, y, h1.sub fun b hb => .here (by simp [hb]), h2⟩
    · rintro ⟨k, y, h1, h2⟩
      have : k = a.toNat ∨ From p x.args k ∨ From p la k := by
        clear h2
        induction h1 with
        | here ha =>
          rcases List.mem_cons.1 ha with rfl | ha
          · exact .inl rfl
          · exact .inr (.inr (.here ha))
        | next _ hy hb ih =>
          rcases ih with rfl | h | h
          · rw [hx] at hy
            cases hy
            exact .inr (.inl (.here hb))
          · exact .inr (.inl (.next h hy hb))
          · exact .inr (.inr (.next h hy hb))
      rcases this with rfl | h | h
      · rw [hx] at h2
        obtain ⟨h2, h3⟩ := h2
        cases h2
        exact .inl h3
      · exact .inr (.inl (ih1.2 ⟨k, y, h, h2⟩))
      · exact .inr (.inr (ih2.2 ⟨k, y, h, h2⟩))

theorem addN_mem {out : List Nd} {y z : Nd} : z ∈ (T.addN out y).1 ↔ z ∈ out ∨ z = y := by
  unfold T.addN
  by_cases h : y ∈ out
  · rw [if_pos h]
    exact ⟨.inl, fun h' => h'.elim id fun e => e ▸ h⟩
  · rw [if_neg h]; simp

/-- labels of what is told -/
theorem cnn_labels (f : F) : ∀ (out : List Nd) (o i : Int), (∃ x ∈ (T.cnn f out).1, x.op = o ∧ x.imm = i) ↔ (∃ x ∈ out, x.op = o ∧ x.imm = i) ∨ occF f o i := by
  induction f with
  | nil => intro out o i; simp [T.cnn, occF]
  | cons op w fl imm kids rest ih1 ih2 =>
    intro out o i
    simp only [T.cnn, occF]
    rw [ih2]
    constructor
    · rintro (⟨x, hx, h⟩ | h)
      · rcases addN_mem.1 hx with hx | rfl
        · rcases (ih1 out o i).1 ⟨x, hx, h⟩ with h | h
          · exact .inl h
          · exact .inr (.inr (.inl h))
        · exact .inr (.inl h)
      · exact .inr (.inr (.inr h))
    · rintro (h | h | h | h)
      · obtain ⟨x, hx, h⟩ := (ih1 out o i).2 (.inl h)
        exact .inl ⟨x, addN_mem.2 (.inl hx), h⟩
      · exact .inl ⟨_, addN_mem.2 (.inr rfl), h⟩
      · obtain ⟨x, hx, h⟩ := (ih1 out o i).2 (.inr h)
        exact .inl ⟨x, addN_mem.2 (.inl hx), h⟩
      · exact .inr h

/-- the reference's question: is there a node of this kind in the shared list -/
theorem occ_canon {p : List Nd} (ho : T.Ord p) (hp : 0 < p.length) {f : F} (hf : T.Rep p [((p.length : Int) - 1)] f) (o i : Int) : occ p o i = (T.canon f).any fun x => decide (x.op = o) && decide (x.imm = i) := by
  rw [Bool.eq_iff_iff, occ_iff ho hp, ← occF_from hf, List.any_eq_true]
  have := cnn_labels f [] o i
  simp only [List.not_mem_nil, false_and, exists_false, false_or] at this
  rw [← this]
  simp [T.canon]
end R
end Go.Proofs.YtbiopedpceddeaaGreatDoor
end
section
namespace Go.Proofs.YtbiopedpceddeaaGreatDoor
set_option linter.unusedVariables false
set_option linter.unusedSimpArgs false
namespace T

/-- a way to tell a node -/
structure MkOk (mk : Nd → List Nd → List Nd × Int) : Prop where
  told : ∀ {out : List Nd} {x : Nd}, out.Nodup → Ord out → (∀ a ∈ x.args, 0 ≤ a ∧ a < (out.length : Int)) →
    out <+: (mk x out).1 ∧ (mk x out).1.Nodup ∧ Ord (mk x out).1 ∧ 0 ≤ (mk x out).2 ∧ (mk x out).2 < ((mk x out).1.length : Int)
  again : ∀ {out u : List Nd} {x : Nd}, out.Nodup → Ord out → (∀ a ∈ x.args, 0 ≤ a ∧ a < (out.length : Int)) → (mk x out).1 <+: u → u.Nodup → Ord u → mk x u = (u, (mk x out).2)

def cnnG (mk : Nd → List Nd → List Nd × Int) : F → List Nd → List Nd × List Int
  | .nil, out => (out, [])
  | .cons op w fl imm kids rest, out =>
    ((cnnG mk rest (mk ⟨op, w, fl, (cnnG mk kids out).2, imm⟩ (cnnG mk kids out).1).1).1,
      (mk ⟨op, w, fl, (cnnG mk kids out).2, imm⟩ (cnnG mk kids out).1).2 :: (cnnG mk rest (mk ⟨op, w, fl, (cnnG mk kids out).2, imm⟩ (cnnG mk kids out).1).1).2)

structure ToldG (out : List Nd) (r : List Nd × List Int) : Prop where
  pre : out <+: r.1
  nd : r.1.Nodup
  ord : Ord r.1
  lo : ∀ a ∈ r.2, 0 ≤ a ∧ a < (r.1.length : Int)

section
variable {mk : Nd → List Nd → List Nd × Int}

theorem cnnG_told (ok : MkOk mk) (f : F) : ∀ {out : List Nd}, out.Nodup → Ord out → ToldG out (cnnG mk f out) := by
  induction f with
  | nil => intro out hn ho; exact ⟨List.prefix_rfl, hn, ho, fun a ha => by simp [cnnG] at ha⟩
  | cons op w fl imm kids rest ih1 ih2 =>
    intro out hn ho
    obtain ⟨p1, n1, o1, l1⟩ := ih1 hn ho
    simp only [cnnG]
    generalize hc1 : cnnG mk kids out = c1 at *
    obtain ⟨p2, n2, o2, z2, l2⟩ := ok.told (x := ⟨op, w, fl, c1.2, imm⟩) n1 o1 l1
    generalize hc2 : mk ⟨op, w, fl, c1.2, imm⟩ c1.1 = c2 at *
    obtain ⟨p3, n3, o3, l3⟩ := ih2 n2 o2
    generalize hc3 : cnnG mk rest c2.1 = c3 at *
    refine ⟨(p1.trans p2).trans p3, n3, o3, ?_⟩
    intro a ha
    rcases List.mem_cons.1 ha with rfl | ha
    · have := pre_le p3; dsimp only; omega
    · exact l3 a ha

theorem cnnG_again (ok : MkOk mk) (f : F) : ∀ {out u : List Nd}, out.Nodup → Ord out → (cnnG mk f out).1 <+: u → u.Nodup → Ord u → cnnG mk f u = (u, (cnnG mk f out).2) := by
  induction f with
  | nil => intro out u _ _ _ _ _; rfl
  | cons op w fl imm kids rest ih1 ih2 =>
    intro out u hn ho hp hu ou
    have t1 := cnnG_told ok kids hn ho
    simp only [cnnG] at hp ⊢
    have t2 := ok.told (x := ⟨op, w, fl, (cnnG mk kids out).2, imm⟩) t1.nd t1.ord t1.lo
    have t3 := cnnG_told ok rest t2.2.1 t2.2.2.1
    have e1 := ih1 hn ho (t2.1.trans (t3.pre.trans hp)) hu ou
    have e2 := ok.again (x := ⟨op, w, fl, (cnnG mk kids out).2, imm⟩) t1.nd t1.ord t1.lo (t3.pre.trans hp) hu ou
    have e3 := ih2 t2.2.1 t2.2.2.1 hp hu ou
    rw [e1]
    simp only [e2, e3]

theorem cnnG_app (f g : F) : ∀ (out : List Nd), cnnG mk (f.app g) out = ((cnnG mk g (cnnG mk f out).1).1, (cnnG mk f out).2 ++ (cnnG mk g (cnnG mk f out).1).2) := by
  induction f with
  | nil => intro out; rfl
  | cons op w fl imm kids rest _ ih2 => intro out; simp only [F.app, cnnG, ih2]; rfl
end

/-- the plain way -/
def mkA (x : Nd) (out : List Nd) : List Nd × Int := addN out x

theorem cnnG_A (f : F) : ∀ (out : List Nd), cnnG mkA f out = cnn f out := by
  induction f with
  | nil => intro out; rfl
  | cons op w fl imm kids rest ih1 ih2 => intro out; simp only [cnnG, cnn, ih1, ih2, mkA]

theorem addN_again {out u : List Nd} {y : Nd} (hn : out.Nodup) (hp : (addN out y).1 <+: u) (hu : u.Nodup) : addN u y = (u, (addN out y).2) := by
  obtain ⟨_, _, h0, _, hy⟩ := addN_spec (y := y) hn
  have hy := pre_at hp _ _ hy
  obtain ⟨hm, hi⟩ := idx_at hu hy
  unfold addN at hi h0 ⊢
  rw [if_pos hm, hi, Int.toNat_of_nonneg h0]

theorem mkA_ok : MkOk mkA := by
  constructor
  · intro out x hn ho hx
    obtain ⟨h1, h2, h3, h4, _⟩ := addN_spec (y := x) hn
    exact ⟨h1, h2, addN_ord ho hx, h3, h4⟩
  · intro out u x hn ho hx hp hu _
    exact addN_again hn hp hu

/-- one tree -/
def One (f : F) : Prop := ∃ op w fl imm kids, f = .cons op w fl imm kids .nil

theorem One.told {f : F} (h : One f) (out : List Nd) : ∃ n, (cnn f out).2 = [n] := by
  obtain ⟨op, w, fl, imm, kids, rfl⟩ := h
  exact ⟨_, rfl⟩

/-- the way that puts a tree for each variable -/
def mkS (b : Int → F) (x : Nd) (out : List Nd) : List Nd × Int := if x.op = 33 then ((cnn (b x.imm) out).1, (cnn (b x.imm) out).2.headD 0) else addN out x

theorem cnn_again (f : F) {out u : List Nd} (hn : out.Nodup) (ho : Ord out) (hp : (cnn f out).1 <+: u) (hu : u.Nodup) (ou : Ord u) : cnn f u = (u, (cnn f out).2) := by
  rw [← cnnG_A, ← cnnG_A] at *
  exact cnnG_again mkA_ok f hn ho hp hu ou

theorem mkS_ok {b : Int → F} (hb : ∀ i, One (b i)) : MkOk (mkS b) := by
  constructor
  · intro out x hn ho hx
    unfold mkS
    split
    · have t := cnn_told (b x.imm) hn ho
      obtain ⟨n, e⟩ := (hb x.imm).told out
      have := t.lo n (by rw [e]; simp)
      refine ⟨t.pre, t.nd, t.ord, ?_⟩
      rw [e]
      exact this
    · exact mkA_ok.told hn ho hx
  · intro out u x hn ho hx hp hu ou
    unfold mkS at hp ⊢
    split
    · rename_i e
      rw [if_pos e] at hp
      have := cnn_again (b x.imm) hn ho hp hu ou
      rw [this]
    · rename_i e
      rw [if_neg e] at hp
      exact mkA_ok.again hn ho hx hp hu ou
end T

namespace R
open T (Nd F)
/-- in a pattern variables have no operands -/
def Leafy : F → Prop
  | .nil => True
  | .cons op _ _ _ kids rest => (op = 33 → kids = .nil) ∧ Leafy kids ∧ Leafy rest

theorem cnnG_S {b : Int → F} (hb : ∀ i, T.One (b i)) (f : F) (hf : Leafy f) : ∀ (out : List Nd), T.cnnG (T.mkS b) f out = T.cnn (sub b f) out := by
  induction f with
  | nil => intro out; rfl
  | cons op w fl imm kids rest ih1 ih2 =>
    intro out
    obtain ⟨h0, h1, h2⟩ := hf
    simp only [T.cnnG, sub]
    by_cases e : op = 33
    · obtain rfl := h0 e
      obtain ⟨n, hn⟩ := (hb imm).told out
      rw [if_pos e, T.cnn_app]
      simp only [T.cnnG, T.mkS, if_pos e, ih2 h2, hn]
      rfl
    · rw [if_neg e]
      simp only [T.mkS, if_neg e, T.cnn, ih1 h1, ih2 h2]
end R
end Go.Proofs.YtbiopedpceddeaaGreatDoor
end
