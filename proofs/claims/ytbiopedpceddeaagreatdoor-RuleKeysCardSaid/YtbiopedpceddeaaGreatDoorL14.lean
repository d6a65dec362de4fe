/- Merged: RPlainW, RPlainH. -/
import Derived.Test.YtbiopedpceddeaaGreatDoorL13
import Derived.Test.YtbiopedpceddeaaGreatDoorL05
set_option linter.unusedVariables false
set_option linter.unusedSimpArgs false
section
namespace Go.Proofs.YtbiopedpceddeaaGreatDoor
set_option linter.unusedVariables false
set_option linter.unusedSimpArgs false
namespace T
/-- a tree of a list -/
def InT (t : List Nd) (g : F) : Prop := ∃ k : Int, Rep t [k] g

theorem Rep.inj {out : List Nd} (hn : out.Nodup) {la : List Int} {f : F} (r : Rep out la f) : ∀ {lb : List Int}, Rep out lb f → la = lb := by
  induction r with
  | nil => intro lb s; cases s; rfl
  | @cons a la x kids rest h0 hx _ _ ih1 ih2 =>
    intro lb s
    generalize hg : F.cons x.op x.w x.fl x.imm kids rest = g at s
    cases s with
    | nil => cases hg
    | @cons b lb y kids' rest' h0' hx' hk' hr' =>
      injection hg with e1 e2 e3 e4 e5 e6
      subst e5
      subst e6
      have e := ih1 hk'
      have e' := ih2 hr'
      have exy : x = y := by
        obtain ⟨xo, xw, xf, xa, xi⟩ := x
        obtain ⟨yo, yw, yf, ya, yi⟩ := y
        dsimp only at *
        subst e1 e2 e3 e4 e
        rfl
      subst exy
      have h1 := (idx_at hn hx).2
      have h2 := (idx_at hn hx').2
      have : a = b := by omega
      rw [this, e']

/-- each tree of out is a tree of t -/
def Cov (t out : List Nd) : Prop := ∀ (i : Int) (g : F), Rep out [i] g → InT t g

theorem cov_add {t out : List Nd} {y : Nd} {kids : F} (hc : Cov t out) (ho : Ord out) (hy : ∀ a ∈ y.args, 0 ≤ a ∧ a < (out.length : Int)) (hk : Rep out y.args kids) (ht : InT t (.cons y.op y.w y.fl y.imm kids .nil)) : Cov t (addN out y).1 := by
  unfold addN
  by_cases hm : y ∈ out
  · rw [if_pos hm]; exact hc
  · rw [if_neg hm]
    intro i f r
    rcases Int.lt_or_le i out.length with hi | hi
    · exact hc i f (r.cut ho hi)
    · cases r with
      | @cons _ _ x kids' rest h0 hx hk' hr =>
        cases hr
        have hi' : i.toNat = out.length := by
          have := (List.getElem?_eq_some_iff.1 hx).1
          simp at this
          omega
        rw [hi'] at hx
        simp at hx
        subst hx
        have e := (hk.mono (u := out ++ [y]) (fun k x hx => pre_at (List.prefix_append _ _) k x hx)).det hk'
        subst e
        exact ht

theorem cnn_cov {t : List Nd} {la : List Int} {f : F} (r : Rep t la f) : ∀ {out : List Nd}, out.Nodup → Ord out → Cov t out → Cov t (cnn f out).1 := by
  induction r with
  | nil => intro out _ _ hc; exact hc
  | @cons a la x kids rest h0 hx hk _ ih1 ih2 =>
    intro out hn ho hc
    have t1 := cnn_told kids hn ho
    have c1 := ih1 hn ho hc
    simp only [cnn]
    have s2 := addN_spec (y := ⟨x.op, x.w, x.fl, (cnn kids out).2, x.imm⟩) t1.nd
    have o2 := addN_ord (y := ⟨x.op, x.w, x.fl, (cnn kids out).2, x.imm⟩) t1.ord t1.lo
    exact ih2 s2.2.1 o2 (cov_add c1 t1.ord t1.lo t1.rep ⟨a, Rep.cons (x := x) h0 hx hk .nil⟩)

theorem nodup_le : ∀ (n : Nat) (l : List Nat), l.Nodup → (∀ a ∈ l, a < n) → l.length ≤ n := by
  intro n
  induction n with
  | zero =>
    intro l _ h
    cases l with
    | nil => simp
    | cons a l => have := h a (by simp); omega
  | succ n ih =>
    intro l hd h
    by_cases hm : n ∈ l
    · have h1 := List.length_erase_of_mem hm
      have h2 := ih (l.erase n) (hd.erase _) (fun a ha => by
        have ha' := List.mem_of_mem_erase ha
        have := h a ha'
        have hne : a ≠ n := fun e => by
          rw [List.Nodup.mem_erase_iff hd] at ha
          exact ha.1 e
        omega)
      omega
    · have := ih l hd (fun a ha => by
        have := h a ha
        have hne : a ≠ n := fun e => hm (e ▸ ha)
        omega)
      omega

theorem cov_len {t out : List Nd} (hn : out.Nodup) (ho : Ord out) (hc : Cov t out) : out.length ≤ t.length := by
  have h : ∀ i : Nat, ∃ k : Nat, i < out.length → (k < t.length ∧ ∀ g, Rep out [(i : Int)] g → Rep t [(k : Int)] g) := fun i => by
    by_cases hi : i < out.length
    · obtain ⟨g, hg⟩ := Rep.one ho hi
      obtain ⟨k, hk⟩ := hc i g hg
      have hk0 : 0 ≤ k ∧ k.toNat < t.length := by
        cases hk with
        | cons h0 hx _ _ => exact ⟨h0, (List.getElem?_eq_some_iff.1 hx).1⟩
      exact ⟨k.toNat, fun _ => ⟨hk0.2, fun g' hg' => by rw [hg'.det hg, Int.toNat_of_nonneg hk0.1]; exact hk⟩⟩
    · exact ⟨0, fun h => absurd h hi⟩
  obtain ⟨c, hcf⟩ := Classical.axiomOfChoice h
  have hnd : ((List.range out.length).map c).Nodup := by
    unfold List.Nodup
    rw [List.pairwise_map]
    refine List.Pairwise.imp_of_mem ?_ (List.nodup_range (n := out.length))
    intro i j hi hj hij e
    have hi := List.mem_range.1 hi
    have hj := List.mem_range.1 hj
    obtain ⟨g, hg⟩ := Rep.one ho hi
    obtain ⟨g', hg'⟩ := Rep.one ho hj
    have r1 := (hcf i hi).2 g hg
    have r2 := (hcf j hj).2 g' hg'
    rw [e] at r1
    have := r1.det r2
    subst this
    have := hg.inj hn hg'
    simp at this
    omega
  have := nodup_le t.length _ hnd (fun a ha => by
    obtain ⟨i, hi, rfl⟩ := List.mem_map.1 ha
    exact (hcf i (List.mem_range.1 hi)).1)
  simpa using this

theorem cov_nil (t : List Nd) : Cov t [] := fun i g r => by cases r with | cons h0 hx _ _ => simp at hx

/-- a shared tree is no longer than the list it comes from -/
theorem canon_len {t : List Nd} {la : List Int} {f : F} (r : Rep t la f) : (canon f).length ≤ t.length := by
  have h := cnn_told f List.nodup_nil ord_nil
  exact cov_len h.nd h.ord (cnn_cov r List.nodup_nil ord_nil (cov_nil t))

/-- the nodes of a shared tree have the labels of the list -/
theorem cnn_all {P : Nd → Prop} (hP : ∀ x la, P x → la.length = x.args.length → P ⟨x.op, x.w, x.fl, la, x.imm⟩) {t : List Nd} (ht : ∀ x ∈ t, P x) {la : List Int} {f : F} (r : Rep t la f) : ∀ {out : List Nd}, out.Nodup → Ord out → (∀ x ∈ out, P x) → ∀ x ∈ (cnn f out).1, P x := by
  induction r with
  | nil => intro out _ _ h; exact h
  | @cons a la x kids rest h0 hx hk _ ih1 ih2 =>
    intro out hn ho h
    have t1 := cnn_told kids hn ho
    have c1 := ih1 hn ho h
    simp only [cnn]
    have s2 := addN_spec (y := ⟨x.op, x.w, x.fl, (cnn kids out).2, x.imm⟩) t1.nd
    have o2 := addN_ord (y := ⟨x.op, x.w, x.fl, (cnn kids out).2, x.imm⟩) t1.ord t1.lo
    refine ih2 s2.2.1 o2 fun z hz => ?_
    rcases R.addN_mem.1 hz with hz | rfl
    · exact c1 z hz
    · refine hP x _ (ht x (List.mem_of_getElem? hx)) ?_
      rw [← t1.rep.len, hk.len]

theorem One.root {f : F} (h : One f) : Rep (canon f) [((canon f).length : Int) - 1] f ∧ 1 ≤ (canon f).length := by
  obtain ⟨op, w, fl, imm, kids, rfl⟩ := h
  have h1 := cnn_told (.cons op w fl imm kids .nil) List.nodup_nil ord_nil
  have h2 := cnn_last op w fl imm kids
  have h3 := h1.rep
  rw [h2.1] at h3
  exact ⟨h3, h2.2⟩
theorem canon_ord (f : F) : Ord (canon f) := (cnn_told f List.nodup_nil ord_nil).ord
theorem InT.one {t : List Nd} {f : F} (h : InT t f) : One f := by
  obtain ⟨k, h⟩ := h
  cases h with
  | cons _ _ _ hr => cases hr; exact ⟨_, _, _, _, _, rfl⟩

/-- the tree of a shared tree is it again -/
theorem canon_again {f : F} {r : Int} (hr : (cnn f []).2 = [r]) : Rep (canon f) [r] f := by
  have h1 := (cnn_told f List.nodup_nil ord_nil).rep
  rw [hr] at h1
  exact h1
end T

namespace R
open T (Nd F)
/-- all trees of a forest -/
def AllT (P : F → Prop) : F → Prop
  | .nil => True
  | .cons op w fl imm kids rest => P (.cons op w fl imm kids .nil) ∧ AllT P kids ∧ AllT P rest
theorem rep_all {t : List Nd} {la : List Int} {f : F} (r : T.Rep t la f) : AllT (T.InT t) f := by
  induction r with
  | nil => trivial
  | @cons a la x kids rest h0 hx hk hr ih1 ih2 => exact ⟨⟨a, .cons h0 hx hk .nil⟩, ih1, ih2⟩

theorem bindV_all {P : F → Prop} {s s' : St} {i : Int} {f : F} (hs : ∀ i f, s.v i = some f → P f) (hf : P f) (h : bindV s i f = some s') : ∀ i f, s'.v i = some f → P f := by
  unfold bindV at h
  split at h
  · cases h
    intro j g hj
    simp only [St.setV] at hj
    split at hj
    · cases hj; exact hf
    · exact hs j g hj
  · split at h
    · cases h; exact hs
    · cases h
theorem bindH_v {s s' : St} {i n : Int} (h : bindH s i n = some s') : s'.v = s.v := by
  unfold bindH at h
  split at h
  · cases h; rfl
  · split at h
    · cases h; rfl
    · cases h
theorem bindV_is {s s' : St} {i : Int} {f : F} (h : bindV s i f = some s') : s'.v i ≠ none ∧ ∀ j, s.v j ≠ none → s'.v j ≠ none := by
  unfold bindV at h
  split at h
  · cases h
    refine ⟨by simp [St.setV], fun j hj => ?_⟩
    simp only [St.setV]
    split
    · simp
    · exact hj
  · rename_i g hg
    split at h
    · cases h; exact ⟨by rw [hg]; simp, fun j hj => hj⟩
    · cases h
theorem bindH_is {s s' : St} {i n : Int} (h : bindH s i n = some s') : s'.h i ≠ none ∧ ∀ j, s.h j ≠ none → s'.h j ≠ none := by
  unfold bindH at h
  split at h
  · cases h
    refine ⟨by simp [St.setH], fun j hj => ?_⟩
    simp only [St.setH]
    split
    · simp
    · exact hj
  · rename_i g hg
    split at h
    · cases h; exact ⟨by rw [hg]; simp, fun j hj => hj⟩
    · cases h

theorem fit_cons {w pop pw pfl pimm op tw fl imm : Int} {pk pr tk tr : F} {s s' : St} (h : fit w (.cons pop pw pfl pimm pk pr) (.cons op tw fl imm tk tr) s = some s') :
    (pop = 33 ∧ ∃ s1, bindV s pimm (.cons op tw fl imm tk .nil) = some s1 ∧ fit w pr tr s1 = some s') ∨ (pop = 34 ∧ op = 0 ∧ ∃ s1, bindH s pimm imm = some s1 ∧ fit w pr tr s1 = some s') ∨
    (pop ≠ 33 ∧ pop ≠ 34 ∧ op = pop ∧ ∃ s1, fit w pk tk s = some s1 ∧ fit w pr tr s1 = some s') := by
  simp only [fit] at h
  by_cases e0 : tw ≠ (if pw = 0 then w else pw)
  · rw [if_pos e0] at h; cases h
  rw [if_neg e0] at h
  by_cases e1 : pop = 33
  · rw [if_pos e1] at h
    obtain ⟨s1, h1, h2⟩ := Option.bind_eq_some_iff.1 h
    exact .inl ⟨e1, s1, h1, h2⟩
  · rw [if_neg e1] at h
    by_cases e2 : pop = 34
    · rw [if_pos e2] at h
      by_cases e3 : op = 0
      · rw [if_pos e3] at h
        obtain ⟨s1, h1, h2⟩ := Option.bind_eq_some_iff.1 h
        exact .inr (.inl ⟨e2, e3, s1, h1, h2⟩)
      · rw [if_neg e3] at h; cases h
    · rw [if_neg e2] at h
      by_cases e5 : op ≠ pop ∨ imm ≠ immAt pop (if pw = 0 then w else pw) pimm ∨ fl ≠ pfl ∨ pk.len ≠ tk.len
      · rw [if_pos e5] at h; cases h
      · rw [if_neg e5] at h
        obtain ⟨s1, h1, h2⟩ := Option.bind_eq_some_iff.1 h
        exact .inr (.inr ⟨e1, e2, Decidable.byContradiction fun h => e5 (.inl h), s1, h1, h2⟩)

theorem fit_vars {P : F → Prop} {w : Int} : ∀ (p t : F), AllT P t → ∀ (s s' : St), (∀ i f, s.v i = some f → P f) → fit w p t s = some s' → ∀ i f, s'.v i = some f → P f := by
  intro p
  induction p with
  | nil => intro t _ s s' hs h; cases t <;> simp [fit] at h; subst h; exact hs
  | cons pop pw pfl pimm pk pr ih1 ih2 =>
    intro t hw s s' hs h
    cases t with
    | nil => simp [fit] at h
    | cons op tw fl imm tk tr =>
      obtain ⟨w0, w1, w2⟩ := hw
      rcases fit_cons h with ⟨_, s1, h1, h2⟩ | ⟨_, _, s1, h1, h2⟩ | ⟨_, _, _, s1, h1, h2⟩
      · exact ih2 tr w2 s1 s' (bindV_all hs w0 h1) h2
      · exact ih2 tr w2 s1 s' (by rw [bindH_v h1]; exact hs) h2
      · exact ih2 tr w2 s1 s' (ih1 tk w1 s s1 hs h1) h2

/-- variables and holes have no operands -/
def Leaf2 : F → Prop
  | .nil => True
  | .cons op _ _ _ kids rest => ((op = 33 ∨ op = 34) → kids = .nil) ∧ Leaf2 kids ∧ Leaf2 rest
theorem rep_leaf2 {p : List Nd} (h : ∀ x ∈ p, (x.op = 33 ∨ x.op = 34) → x.args = []) {la : List Int} {f : F} (r : T.Rep p la f) : Leaf2 f := by
  induction r with
  | nil => trivial
  | cons h0 hx hk _ ih1 ih2 =>
    refine ⟨fun e => ?_, ih1, ih2⟩
    have := h _ (List.mem_of_getElem? hx) e
    rw [this] at hk
    cases hk
    rfl

/-- what stands in a pattern is bound -/
theorem fit_bound {w : Int} : ∀ (p t : F), Leaf2 p → ∀ (s s' : St), fit w p t s = some s' → ((∀ j, s.v j ≠ none → s'.v j ≠ none) ∧ (∀ j, s.h j ≠ none → s'.h j ≠ none)) ∧ (∀ i, occF p 33 i → s'.v i ≠ none) ∧ ∀ i, occF p 34 i → s'.h i ≠ none := by
  intro p
  induction p with
  | nil =>
    intro t _ s s' h
    cases t with
    | nil => simp [fit] at h; subst h; exact ⟨⟨fun j h => h, fun j h => h⟩, fun i h => h.elim, fun i h => h.elim⟩
    | cons => simp [fit] at h
  | cons pop pw pfl pimm pk pr ih1 ih2 =>
    intro t hl s s' h
    obtain ⟨l0, l1, l2⟩ := hl
    cases t with
    | nil => simp [fit] at h
    | cons op tw fl imm tk tr =>
      rcases fit_cons h with ⟨e, s1, h1, h2⟩ | ⟨e, _, s1, h1, h2⟩ | ⟨e1, e2, _, s1, h1, h2⟩
      · obtain ⟨⟨a1, a2⟩, a3, a4⟩ := ih2 tr l2 s1 s' h2
        obtain ⟨b1, b2⟩ := bindV_is h1
        have b3 := bindV_h h1
        have hk := l0 (.inl e)
        refine ⟨⟨fun j hj => a1 j (b2 j hj), fun j hj => a2 j (by rw [b3]; exact hj)⟩, fun i hi => ?_, fun i hi => ?_⟩
        · rcases hi with hi | hi | hi
          · rw [← hi.2]; exact a1 _ b1
          · rw [hk] at hi; exact hi.elim
          · exact a3 i hi
        · rcases hi with hi | hi | hi
          · omega
          · rw [hk] at hi; exact hi.elim
          · exact a4 i hi
      · obtain ⟨⟨a1, a2⟩, a3, a4⟩ := ih2 tr l2 s1 s' h2
        obtain ⟨b1, b2⟩ := bindH_is h1
        have b3 := bindH_v h1
        have hk := l0 (.inr e)
        refine ⟨⟨fun j hj => a1 j (by rw [b3]; exact hj), fun j hj => a2 j (b2 j hj)⟩, fun i hi => ?_, fun i hi => ?_⟩
        · rcases hi with hi | hi | hi
          · omega
          · rw [hk] at hi; exact hi.elim
          · exact a3 i hi
        · rcases hi with hi | hi | hi
          · rw [← hi.2]; exact a2 _ b1
          · rw [hk] at hi; exact hi.elim
          · exact a4 i hi
      · obtain ⟨⟨a1, a2⟩, a3, a4⟩ := ih2 tr l2 s1 s' h2
        obtain ⟨⟨c1, c2⟩, c3, c4⟩ := ih1 tk l1 s s1 h1
        refine ⟨⟨fun j hj => a1 j (c1 j hj), fun j hj => a2 j (c2 j hj)⟩, fun i hi => ?_, fun i hi => ?_⟩
        · rcases hi with hi | hi | hi
          · exact absurd hi.1 e1
          · exact a1 i (c3 i hi)
          · exact a3 i hi
        · rcases hi with hi | hi | hi
          · exact absurd hi.1 e2
          · exact a2 i (c4 i hi)
          · exact a4 i hi
end R
end Go.Proofs.YtbiopedpceddeaaGreatDoor
end
section
namespace Go.Proofs.YtbiopedpceddeaaGreatDoor
set_option linter.unusedVariables false
set_option linter.unusedSimpArgs false
namespace T

/-- these nodes are told one after the other -/
inductive Fin_ (t : List Nd) : List Nat → List Nd → List Nd → Prop where
  | nil {out : List Nd} : Fin_ t [] out out
  | cons {n : Nat} {S : List Nat} {f : F} {out res : List Nd} (r : Rep t [(n : Int)] f) (h : Fin_ t S (cnn f out).1 res) : Fin_ t (n :: S) out res

def untold (l : List Int) : Nat := l.countP fun v => decide (v < 0)

structure ShI (t : List Nd) (tab : List Int) (S : List Nat) (out res : List Nd) : Prop where
  nd : out.Nodup
  ord : Ord out
  len : tab.length = t.length
  told : ∀ (k : Nat) (v : Int), tab[k]? = some v → 0 ≤ v → ∃ f, Rep t [(k : Int)] f ∧ Rep out [v] f
  unt : ∀ n ∈ S, ∃ v, tab[n]? = some v ∧ v < 0
  asc : S.Pairwise (· < ·)
  lt : ∀ n ∈ S, n < t.length
  sz : out.length + untold tab ≤ t.length
  fin : Fin_ t S out res

theorem ShI.start {t : List Nd} {k : Nat} {f : F} (hk : k < t.length) (hf : Rep t [(k : Int)] f) : ShI t (List.replicate t.length (-1)) [k] [] (canon f) := by
  refine ⟨List.nodup_nil, ord_nil, by simp, fun j v hv h0 => ?_, fun n hn => ?_, by simp, fun n hn => ?_, ?_, .cons hf .nil⟩
  · rw [List.getElem?_replicate] at hv
    split at hv
    · cases hv; omega
    · cases hv
  · simp at hn; subst hn
    exact ⟨-1, by rw [List.getElem?_replicate, if_pos hk], by omega⟩
  · simp at hn; subst hn; exact hk
  · have := List.countP_le_length (p := fun v : Int => decide (v < 0)) (l := List.replicate t.length (-1))
    simp only [List.length_nil, Nat.zero_add, T.untold]
    simpa using this

theorem asc_len {S : List Nat} {n : Nat} (h : S.Pairwise (· < ·)) (hl : ∀ x ∈ S, x < n) : S.length ≤ n := by
  have key : ∀ (S : List Nat) (lo : Nat), S.Pairwise (· < ·) → (∀ x ∈ S, lo ≤ x ∧ x < n) → lo ≤ n → lo + S.length ≤ n := by
    intro S
    induction S with
    | nil => intro lo _ _ h; simpa using h
    | cons x S ih =>
      intro lo hp hx h
      have h1 := hx x (by simp)
      rw [List.pairwise_cons] at hp
      have := ih (x + 1) hp.2 (fun y hy => ⟨hp.1 y hy, (hx y (by simp [hy])).2⟩) (by omega)
      simp only [List.length_cons]
      omega
  have := key S 0 h (fun x hx => ⟨Nat.zero_le _, hl x hx⟩) (Nat.zero_le _)
  omega

/-- the first operand that is not told -/
def miss (tab : List Int) : List Int → Int
  | [] => -1
  | a :: l => if tab.getD a.toNat 0 < 0 then a else miss tab l

theorem miss_none {tab : List Int} : ∀ {l : List Int}, (∀ a ∈ l, 0 ≤ a) → miss tab l < 0 → ∀ a ∈ l, 0 ≤ tab.getD a.toNat 0
  | [], _, _, a, ha => by simp at ha
  | b :: l, h0, h, a, ha => by
    unfold miss at h
    split at h
    · have := h0 b (by simp); omega
    · rcases List.mem_cons.1 ha with rfl | ha
      · omega
      · exact miss_none (fun c hc => h0 c (by simp [hc])) h a ha

theorem miss_some {tab : List Int} : ∀ {l : List Int}, 0 ≤ miss tab l → ∃ p q, l = p ++ miss tab l :: q ∧ (∀ a ∈ p, 0 ≤ tab.getD a.toNat 0) ∧ tab.getD (miss tab l).toNat 0 < 0
  | [], h => by simp [miss] at h
  | b :: l, h => by
    unfold miss at h ⊢
    by_cases e : tab.getD b.toNat 0 < 0
    · rw [if_pos e]
      exact ⟨[], l, rfl, fun a ha => by simp at ha, e⟩
    · rw [if_neg e] at h ⊢
      obtain ⟨p, q, h1, h2, h3⟩ := miss_some h
      refine ⟨b :: p, q, by rw [List.cons_append, ← h1], fun a ha => ?_, h3⟩
      rcases List.mem_cons.1 ha with rfl | ha
      · omega
      · exact h2 a ha

theorem getD_some {α : Type} {l : List α} {k : Nat} {d : α} (hk : k < l.length) : l[k]? = some (l.getD k d) := by
  rw [List.getD_eq_getElem?_getD, List.getElem?_eq_getElem hk]; rfl

/-- what is told of a list of operands -/
theorem ShI.kids {t : List Nd} {tab : List Int} {S : List Nat} {out res : List Nd} (h : ShI t tab S out res) {l : List Int} (hl : ∀ a ∈ l, 0 ≤ a ∧ a < (t.length : Int)) (ht : ∀ a ∈ l, 0 ≤ tab.getD a.toNat 0) :
    ∃ f, Rep t l f ∧ Rep out (l.map fun a => tab.getD a.toNat 0) f := by
  induction l with
  | nil => exact ⟨.nil, .nil, .nil⟩
  | cons a l ih =>
    obtain ⟨f, h1, h2⟩ := ih (fun b hb => hl b (by simp [hb])) (fun b hb => ht b (by simp [hb]))
    have ha := hl a (by simp)
    obtain ⟨g, g1, g2⟩ := h.told a.toNat _ (getD_some (d := 0) (by rw [h.len]; omega)) (ht a (by simp))
    rw [Int.toNat_of_nonneg ha.1] at g1
    exact ⟨g.app f, g1.app h1, g2.app h2⟩

theorem Rep.split {t : List Nd} {p q : List Int} {f : F} (r : Rep t (p ++ q) f) : ∃ g h, f = g.app h ∧ Rep t p g ∧ Rep t q h := by
  induction p generalizing f with
  | nil => exact ⟨.nil, f, rfl, .nil, r⟩
  | cons a p ih =>
    cases r with
    | cons h0 hx hk hr =>
      obtain ⟨g, h, rfl, h1, h2⟩ := ih hr
      exact ⟨_, h, rfl, .cons h0 hx hk h1, h2⟩

theorem addN_len {out : List Nd} {y : Nd} : (addN out y).1.length ≤ out.length + 1 := by
  unfold addN; split <;> simp

theorem ShI.pop {t : List Nd} {tab : List Int} {n : Nat} {S : List Nat} {out res : List Nd} {x : Nd} (h : ShI t tab (n :: S) out res) (ho : Ord t) (hx : t[n]? = some x) (ht : ∀ a ∈ x.args, 0 ≤ tab.getD a.toNat 0) :
    ShI t (tab.set n (addN out ⟨x.op, x.w, x.fl, x.args.map fun a => tab.getD a.toNat 0, x.imm⟩).2) S (addN out ⟨x.op, x.w, x.fl, x.args.map fun a => tab.getD a.toNat 0, x.imm⟩).1 res ∧
    T.untold (tab.set n (addN out ⟨x.op, x.w, x.fl, x.args.map fun a => tab.getD a.toNat 0, x.imm⟩).2) + 1 = T.untold tab := by
  have hn : n < t.length := h.lt n (by simp)
  obtain ⟨kids, k1, k2⟩ := h.kids (l := x.args) (fun a ha => by have := ho n x hx a ha; omega) ht
  have hr : Rep t [(n : Int)] (.cons x.op x.w x.fl x.imm kids .nil) := Rep.cons (by omega) (by rw [Int.toNat_natCast]; exact hx) k1 .nil
  have hs := cnn_stable h.nd k2
  have hlo : ∀ a ∈ (x.args.map fun a => tab.getD a.toNat 0), 0 ≤ a ∧ a < (out.length : Int) := by
    intro a ha
    obtain ⟨b, hb, rfl⟩ := List.mem_map.1 ha
    have hb' := ho n x hx b hb
    obtain ⟨g, g1, g2⟩ := h.told b.toNat _ (getD_some (d := 0) (by rw [h.len]; omega)) (ht b hb)
    cases g2 with
    | cons h0 hx' _ _ => have := (List.getElem?_eq_some_iff.1 hx').1; omega
  generalize hy : (⟨x.op, x.w, x.fl, x.args.map fun a => tab.getD a.toNat 0, x.imm⟩ : Nd) = y
  have hya : y.args = x.args.map fun a => tab.getD a.toNat 0 := by rw [← hy]
  obtain ⟨a1, a2, a3, a4, a5⟩ := addN_spec (y := y) h.nd
  have a6 := addN_ord (y := y) h.ord (by rw [hya]; exact hlo)
  have a7 := addN_len (out := out) (y := y)
  obtain ⟨v0, hv0, hv1⟩ := h.unt n (by simp)
  have hnt : n < tab.length := by rw [h.len]; exact hn
  have hpw := h.asc
  rw [List.pairwise_cons] at hpw
  have hcount : T.untold (tab.set n (addN out y).2) + 1 = T.untold tab := by
    unfold T.untold
    have hpos : 0 < tab.countP fun v => decide (v < 0) := List.countP_pos_iff.2 ⟨v0, List.mem_of_getElem? hv0, by simpa using hv1⟩
    rw [List.countP_set (h := hnt)]
    have e1 : tab[n] = v0 := by rw [List.getElem?_eq_getElem hnt] at hv0; exact Option.some.inj hv0
    rw [e1, if_pos (by simpa using hv1), if_neg (by simp; omega)]
    omega
  refine ⟨⟨a2, a6, by rw [List.length_set]; exact h.len, ?_, ?_, hpw.2, fun m hm => h.lt m (by simp [hm]), by have := h.sz; omega, ?_⟩, hcount⟩
  · intro k v hv h0
    rw [List.getElem?_set] at hv
    split at hv
    · rename_i e
      subst e
      have hv : some (addN out y).2 = some v := by simpa [hnt] using hv
      cases hv
      refine ⟨_, hr, ?_⟩
      have : Rep (addN out y).1 [(addN out y).2] (.cons y.op y.w y.fl y.imm kids .nil) := Rep.cons a3 a5 (by rw [hya]; exact k2.mono (pre_at a1)) .nil
      rw [← hy] at this ⊢
      exact this
    · obtain ⟨f, f1, f2⟩ := h.told k v hv h0
      exact ⟨f, f1, f2.mono (pre_at a1)⟩
  · intro m hm
    obtain ⟨v, hv, hv'⟩ := h.unt m (by simp [hm])
    have := hpw.1 m hm
    exact ⟨v, by rw [List.getElem?_set_ne (by omega)]; exact hv, hv'⟩
  · have hf := h.fin
    cases hf with
    | cons r hrest =>
      have := r.det hr
      subst this
      have e : (cnn (.cons x.op x.w x.fl x.imm kids .nil) out).1 = (addN out y).1 := by
        simp only [cnn, hs, hy]
      rw [e] at hrest
      exact hrest

theorem ShI.push {t : List Nd} {tab : List Int} {n : Nat} {S : List Nat} {out res : List Nd} {x : Nd} (h : ShI t tab (n :: S) out res) (ho : Ord t) (hx : t[n]? = some x) (hm : 0 ≤ miss tab x.args) :
    ShI t tab ((miss tab x.args).toNat :: n :: S) out res ∧ (miss tab x.args).toNat < n := by
  obtain ⟨p, q, hpq, hp, hneg⟩ := miss_some hm
  generalize miss tab x.args = m at *
  have hmem : m ∈ x.args := by rw [hpq]; simp
  have hm2 := ho n x hx m hmem
  have hn : n < t.length := h.lt n (by simp)
  have hmn : m.toNat < n := by omega
  have hasc := h.asc
  refine ⟨⟨h.nd, h.ord, h.len, h.told, ?_, ?_, ?_, h.sz, ?_⟩, hmn⟩
  · intro k hk
    rcases List.mem_cons.1 hk with rfl | hk
    · exact ⟨_, getD_some (d := 0) (by rw [h.len]; omega), hneg⟩
    · exact h.unt k hk
  · rw [List.pairwise_cons]
    refine ⟨fun k hk => ?_, hasc⟩
    rcases List.mem_cons.1 hk with rfl | hk
    · exact hmn
    · rw [List.pairwise_cons] at hasc
      have := hasc.1 k hk
      omega
  · intro k hk
    rcases List.mem_cons.1 hk with rfl | hk
    · omega
    · exact h.lt k hk
  · have hf := h.fin
    cases hf with
    | @cons _ _ f _ _ r hrest =>
      cases r with
      | @cons _ _ x' kids rest h0 hx' hk hr =>
        cases hr
        rw [Int.toNat_natCast, hx] at hx'
        cases hx'
        rw [hpq] at hk
        obtain ⟨g1, g2, rfl, r1, r2⟩ := hk.split
        obtain ⟨gm, g3, rfl, r3, r4⟩ := Rep.split (p := [m]) (q := q) r2
        have r3' : Rep t [(m.toNat : Int)] gm := by rw [Int.toNat_of_nonneg hm]; exact r3
        refine .cons r3' (.cons (f := .cons x.op x.w x.fl x.imm (g1.app (gm.app g3)) .nil) ?_ ?_)
        · exact Rep.cons (by omega) (by rw [Int.toNat_natCast]; exact hx) (by rw [hpq]; exact r1.app (r3.app r4)) .nil
        · obtain ⟨fp, p1, p2⟩ := h.kids (l := p) (fun a ha => by have := ho n x hx a (by rw [hpq]; simp [ha]); omega) hp
          obtain rfl := p1.det r1
          have tm := cnn_told gm h.nd h.ord
          have s1 := cnn_stable h.nd p2
          have s2 := cnn_stable tm.nd (p2.mono (pre_at tm.pre))
          have s3 := cnn_again gm h.nd h.ord List.prefix_rfl tm.nd tm.ord
          have e : cnn (fp.app (gm.app g3)) (cnn gm out).1 = cnn (fp.app (gm.app g3)) out := by
            simp only [cnn_app, s1, s2, s3]
          have e2 : (cnn (.cons x.op x.w x.fl x.imm (fp.app (gm.app g3)) .nil) (cnn gm out).1).1 = (cnn (.cons x.op x.w x.fl x.imm (fp.app (gm.app g3)) .nil) out).1 := by
            simp only [cnn, e]
          rw [e2]
          exact hrest

theorem ShI.end_ {t : List Nd} {tab : List Int} {out res : List Nd} (h : ShI t tab [] out res) : out = res := by
  have := h.fin
  cases this with
  | nil => rfl
end T
end Go.Proofs.YtbiopedpceddeaaGreatDoor
end
