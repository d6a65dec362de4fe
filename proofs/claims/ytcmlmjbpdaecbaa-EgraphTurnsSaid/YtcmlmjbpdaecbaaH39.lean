/- Plain: how long a shared tree is; what a match binds. -/
import Derived.Test.YtcmlmjbpdaecbaaH05
import Derived.Test.YtcmlmjbpdaecbaaH10
set_option linter.unusedVariables false
set_option linter.unusedSimpArgs false
namespace Go.Proofs.Ytcmlmjbpdaecbaa
set_option linter.unusedVariables false
set_option linter.unusedSimpArgs false
namespace T
/-- a tree of a list -/
def InT (t : List Nd) (g : F) : Prop := ∃ k : Int, Rep t [k] g

theorem Rep.inj {out : List Nd} (hn : out.Nodup) {la : List Int} {f : F} (r : Rep out la f) : ∀ {lb : List Int}, Rep out lb f → la = lb := by
  induction r with
  | nil => intro lb s; cases s; rfl
  | @cons a la x kids rest h0 hx _ _ ih1 ih2 =>
    intro lb s
    generalize hg : F.cons x.op x.w x.fl x.imm kids rest = g at s
    cases s with
    | nil => cases hg
    | @cons b lb y kids' rest' h0' hx' hk' hr' =>
      injection hg with e1 e2 e3 e4 e5 e6
      subst e5
      subst e6
      have e := ih1 hk'
      have e' := ih2 hr'
      have exy : x = y := by
        obtain ⟨xo, xw, xf, xa, xi⟩ := x
        obtain ⟨yo, yw, yf, ya, yi⟩ := y
        dsimp only at *
        subst e1 e2 e3 e4 e
        rfl
      subst exy
      have h1 := (idx_at hn hx).2
      have h2 := (idx_at hn hx').2
      have : a = b := by omega
      rw [this, e']

/-- each tree of out is a tree of t -/
def Cov (t out : List Nd) : Prop := ∀ (i : Int) (g : F), Rep out [i] g → InT t g

theorem cov_add {t out : List Nd} {y : Nd} {kids : F} (hc : Cov t out) (ho : Ord out) (hy : ∀ a ∈ y.args, 0 ≤ a ∧ a < (out.length : Int)) (hk : Rep out y.args kids) (ht : InT t (.cons y.op y.w y.fl y.imm kids .nil)) : Cov t (addN out y).1 := by
  unfold addN
  by_cases hm : y ∈ out
  · rw [if_pos hm]; exact hc
  · rw [if_neg hm]
    intro i f r
    rcases Int.lt_or_le i out.length with hi | hi
    · exact hc i f (r.cut ho hi)
    · cases r with
      | @cons _ _ x kids' rest h0 hx hk' hr =>
        cases hr
        have hi' : i.toNat = out.length := by
          have := (List.getElem?_eq_some_iff.1 hx).1
          simp at this
          omega
        rw [hi'] at hx
        simp at hx
        subst hx
        have e := (hk.mono (u := out ++ [y]) (fun k x hx => pre_at (List.prefix_append _ _) k x hx)).det hk'
        subst e
        exact ht

theorem cnn_cov {t : List Nd} {la : List Int} {f : F} (r : Rep t la f) : ∀ {out : List Nd}, out.Nodup → Ord out → Cov t out → Cov t (cnn f out).1 := by
  induction r with
  | nil => intro out _ _ hc; exact hc
  | @cons a la x kids rest h0 hx hk _ ih1 ih2 =>
    intro out hn ho hc
    have t1 := cnn_told kids hn ho
    have c1 := ih1 hn ho hc
    simp only [cnn]
    have s2 := addN_spec (y := ⟨x.op, x.w, x.fl, (cnn kids out).2, x.imm⟩) t1.nd
    have o2 := addN_ord (y := ⟨x.op, x.w, x.fl, (cnn kids out).2, x.imm⟩) t1.ord t1.lo
    exact ih2 s2.2.1 o2 (cov_add c1 t1.ord t1.lo t1.rep ⟨a, Rep.cons (x := x) h0 hx hk .nil⟩)

theorem nodup_le : ∀ (n : Nat) (l : List Nat), l.Nodup → (∀ a ∈ l, a < n) → l.length ≤ n := by
  intro n
  induction n with
  | zero =>
    intro l _ h
    cases l with
    | nil => simp
    | cons a l => have := h a (by simp); omega
  | succ n ih =>
    intro l hd h
    by_cases hm : n ∈ l
    · have h1 := List.length_erase_of_mem hm
      have h2 := ih (l.erase n) (hd.erase _) (fun a ha => by
        have ha' := List.mem_of_mem_erase ha
        have := h a ha'
        have hne : a ≠ n := fun e => by
          rw [List.Nodup.mem_erase_iff hd] at ha
          exact ha.1 e
        omega)
      omega
    · have := ih l hd (fun a ha => by
        have := h a ha
        have hne : a ≠ n := fun e => hm (e ▸ ha)
        omega)
      omega

theorem cov_len {t out : List Nd} (hn : out.Nodup) (ho : Ord out) (hc : Cov t out) : out.length ≤ t.length := by
  have h : ∀ i : Nat, ∃ k : Nat, i < out.length → (k < t.length ∧ ∀ g, Rep out [(i : Int)] g → Rep t [(k : Int)] g) := fun i => by
    by_cases hi : i < out.length
    · obtain ⟨g, hg⟩ := Rep.one ho hi
      obtain ⟨k, hk⟩ := hc i g hg
      have hk0 : 0 ≤ k ∧ k.toNat < t.length := by
        cases hk with
        | cons h0 hx _ _ => exact ⟨h0, (List.getElem?_eq_some_iff.1 hx).1⟩
      exact ⟨k.toNat, fun _ => ⟨hk0.2, fun g' hg' => by rw [hg'.det hg, Int.toNat_of_nonneg hk0.1]; exact hk⟩⟩
    · exact ⟨0, fun h => absurd h hi⟩
  obtain ⟨c, hcf⟩ := Classical.axiomOfChoice h
  have hnd : ((List.range out.length).map c).Nodup := by
    unfold List.Nodup
    rw [List.pairwise_map]
    refine List.Pairwise.imp_of_mem ?_ (List.nodup_range (n := out.length))
    intro i j hi hj hij e
    have hi := List.mem_range.1 hi
    have hj := List.mem_range.1 hj
    obtain ⟨g, hg⟩ := Rep.one ho hi
    obtain ⟨g', hg'⟩ := Rep.one ho hj
    have r1 := (hcf i hi).2 g hg
    have r2 := (hcf j hj).2 g' hg'
    rw [e] at r1
    have := r1.det r2
    subst this
    have := hg.inj hn hg'
    simp at this
    omega
  have := nodup_le t.length _ hnd (fun a ha => by
    obtain ⟨i, hi, rfl⟩ := List.mem_map.1 ha
    exact (hcf i (List.mem_range.1 hi)).1)
  simpa using this

theorem cov_nil (t : List Nd) : Cov t [] := fun i g r => by cases r with | cons h0 hx _ _ => simp at hx

/-- a shared tree is no longer than the list it comes from -/
theorem canon_len {t : List Nd} {la : List Int} {f : F} (r : Rep t la f) : (canon f).length ≤ t.length := by
  have h := cnn_told f List.nodup_nil ord_nil
  exact cov_len h.nd h.ord (cnn_cov r List.nodup_nil ord_nil (cov_nil t))

/-- the nodes of a shared tree have the labels of the list -/
theorem cnn_all {P : Nd → Prop} (hP : ∀ x la, P x → la.length = x.args.length → P ⟨x.op, x.w, x.fl, la, x.imm⟩) {t : List Nd} (ht : ∀ x ∈ t, P x) {la : List Int} {f : F} (r : Rep t la f) : ∀ {out : List Nd}, out.Nodup → Ord out → (∀ x ∈ out, P x) → ∀ x ∈ (cnn f out).1, P x := by
  induction r with
  | nil => intro out _ _ h; exact h
  | @cons a la x kids rest h0 hx hk _ ih1 ih2 =>
    intro out hn ho h
    have t1 := cnn_told kids hn ho
    have c1 := ih1 hn ho h
    simp only [cnn]
    have s2 := addN_spec (y := ⟨x.op, x.w, x.fl, (cnn kids out).2, x.imm⟩) t1.nd
    have o2 := addN_ord (y := ⟨x.op, x.w, x.fl, (cnn kids out).2, x.imm⟩) t1.ord t1.lo
    refine ih2 s2.2.1 o2 fun z hz => ?_
    rcases R.addN_mem.1 hz with hz | rfl
    · exact c1 z hz
    · refine hP x _ (ht x (List.mem_of_getElem? hx)) ?_
      rw [← t1.rep.len, hk.len]

theorem One.root {f : F} (h : One f) : Rep (canon f) [((canon f).length : Int) - 1] f ∧ 1 ≤ (canon f).length := by
  obtain ⟨op, w, fl, imm, kids, rfl⟩ := h
  have h1 := cnn_told (.cons op w fl imm kids .nil) List.nodup_nil ord_nil
  have h2 := cnn_last op w fl imm kids
  have h3 := h1.rep
  rw [h2.1] at h3
  exact ⟨h3, h2.2⟩
theorem canon_ord (f : F) : Ord (canon f) := (cnn_told f List.nodup_nil ord_nil).ord
theorem canon_nodup (f : F) : (canon f).Nodup := (cnn_told f List.nodup_nil ord_nil).nd
theorem InT.one {t : List Nd} {f : F} (h : InT t f) : One f := by
  obtain ⟨k, h⟩ := h
  cases h with
  | cons _ _ _ hr => cases hr; exact ⟨_, _, _, _, _, rfl⟩

/-- the tree of a shared tree is it again -/
theorem canon_again {f : F} {r : Int} (hr : (cnn f []).2 = [r]) : Rep (canon f) [r] f := by
  have h1 := (cnn_told f List.nodup_nil ord_nil).rep
  rw [hr] at h1
  exact h1
end T

namespace R
open T (Nd F)
/-- all trees of a forest -/
def AllT (P : F → Prop) : F → Prop
  | .nil => True
  | .cons op w fl imm kids rest => P (.cons op w fl imm kids .nil) ∧ AllT P kids ∧ AllT P rest
theorem rep_all {t : List Nd} {la : List Int} {f : F} (r : T.Rep t la f) : AllT (T.InT t) f := by
  induction r with
  | nil => trivial
  | @cons a la x kids rest h0 hx hk hr ih1 ih2 => exact ⟨⟨a, .cons h0 hx hk .nil⟩, ih1, ih2⟩

theorem bindV_all {P : F → Prop} {s s' : St} {i : Int} {f : F} (hs : ∀ i f, s.v i = some f → P f) (hf : P f) (h : bindV s i f = some s') : ∀ i f, s'.v i = some f → P f := by
  unfold bindV at h
  split at h
  · cases h
    intro j g hj
    simp only [St.setV] at hj
    split at hj
    · cases hj; exact hf
    · exact hs j g hj
  · split at h
    · cases h; exact hs
    · cases h
theorem bindH_v {s s' : St} {i n : Int} (h : bindH s i n = some s') : s'.v = s.v := by
  unfold bindH at h
  split at h
  · cases h; rfl
  · split at h
    · cases h; rfl
    · cases h
theorem bindV_is {s s' : St} {i : Int} {f : F} (h : bindV s i f = some s') : s'.v i ≠ none ∧ ∀ j, s.v j ≠ none → s'.v j ≠ none := by
  unfold bindV at h
  split at h
  · cases h
    refine ⟨by simp [St.setV], fun j hj => ?_⟩
    simp only [St.setV]
    split
    · simp
    · exact hj
  · rename_i g hg
    split at h
    · cases h; exact ⟨by rw [hg]; simp, fun j hj => hj⟩
    · cases h
theorem bindH_is {s s' : St} {i n : Int} (h : bindH s i n = some s') : s'.h i ≠ none ∧ ∀ j, s.h j ≠ none → s'.h j ≠ none := by
  unfold bindH at h
  split at h
  · cases h
    refine ⟨by simp [St.setH], fun j hj => ?_⟩
    simp only [St.setH]
    split
    · simp
    · exact hj
  · rename_i g hg
    split at h
    · cases h; exact ⟨by rw [hg]; simp, fun j hj => hj⟩
    · cases h

theorem fit_cons {w pop pw pfl pimm op tw fl imm : Int} {pk pr tk tr : F} {s s' : St} (h : fit w (.cons pop pw pfl pimm pk pr) (.cons op tw fl imm tk tr) s = some s') :
    (pop = 33 ∧ ∃ s1, bindV s pimm (.cons op tw fl imm tk .nil) = some s1 ∧ fit w pr tr s1 = some s') ∨ (pop = 34 ∧ op = 0 ∧ ∃ s1, bindH s pimm imm = some s1 ∧ fit w pr tr s1 = some s') ∨
    (pop ≠ 33 ∧ pop ≠ 34 ∧ op = pop ∧ ∃ s1, fit w pk tk s = some s1 ∧ fit w pr tr s1 = some s') := by
  simp only [fit] at h
  by_cases e0 : tw ≠ (if pw = 0 then w else pw)
  · rw [if_pos e0] at h; cases h
  rw [if_neg e0] at h
  by_cases e1 : pop = 33
  · rw [if_pos e1] at h
    obtain ⟨s1, h1, h2⟩ := Option.bind_eq_some_iff.1 h
    exact .inl ⟨e1, s1, h1, h2⟩
  · rw [if_neg e1] at h
    by_cases e2 : pop = 34
    · rw [if_pos e2] at h
      by_cases e3 : op = 0
      · rw [if_pos e3] at h
        obtain ⟨s1, h1, h2⟩ := Option.bind_eq_some_iff.1 h
        exact .inr (.inl ⟨e2, e3, s1, h1, h2⟩)
      · rw [if_neg e3] at h; cases h
    · rw [if_neg e2] at h
      by_cases e5 : op ≠ pop ∨ imm ≠ immAt pop (if pw = 0 then w else pw) pimm ∨ fl ≠ pfl ∨ pk.len ≠ tk.len
      · rw [if_pos e5] at h; cases h
      · rw [if_neg e5] at h
        obtain ⟨s1, h1, h2⟩ := Option.bind_eq_some_iff.1 h
        exact .inr (.inr ⟨e1, e2, Decidable.byContradiction fun h => e5 (.inl h), s1, h1, h2⟩)

theorem fit_vars {P : F → Prop} {w : Int} : ∀ (p t : F), AllT P t → ∀ (s s' : St), (∀ i f, s.v i = some f → P f) → fit w p t s = some s' → ∀ i f, s'.v i = some f → P f := by
  intro p
  induction p with
  | nil => intro t _ s s' hs h; cases t <;> simp [fit] at h; subst h; exact hs
  | cons pop pw pfl pimm pk pr ih1 ih2 =>
    intro t hw s s' hs h
    cases t with
    | nil => simp [fit] at h
    | cons op tw fl imm tk tr =>
      obtain ⟨w0, w1, w2⟩ := hw
      rcases fit_cons h with ⟨_, s1, h1, h2⟩ | ⟨_, _, s1, h1, h2⟩ | ⟨_, _, _, s1, h1, h2⟩
      · exact ih2 tr w2 s1 s' (bindV_all hs w0 h1) h2
      · exact ih2 tr w2 s1 s' (by rw [bindH_v h1]; exact hs) h2
      · exact ih2 tr w2 s1 s' (ih1 tk w1 s s1 hs h1) h2

/-- variables and holes have no operands -/
def Leaf2 : F → Prop
  | .nil => True
  | .cons op _ _ _ kids rest => ((op = 33 ∨ op = 34) → kids = .nil) ∧ Leaf2 kids ∧ Leaf2 rest
theorem rep_leaf2 {p : List Nd} (h : ∀ x ∈ p, (x.op = 33 ∨ x.op = 34) → x.args = []) {la : List Int} {f : F} (r : T.Rep p la f) : Leaf2 f := by
  induction r with
  | nil => trivial
  | cons h0 hx hk _ ih1 ih2 =>
    refine ⟨fun e => ?_, ih1, ih2⟩
    have := h _ (List.mem_of_getElem? hx) e
    rw [this] at hk
    cases hk
    rfl

end R
end Go.Proofs.Ytcmlmjbpdaecbaa
