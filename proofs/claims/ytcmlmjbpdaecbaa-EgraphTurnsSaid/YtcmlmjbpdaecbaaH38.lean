/- Plain: what Add makes of a graph to which nothing was told yet: nodes without equal ones. -/
import Derived.Test.YtcmlmjbpdaecbaaH25
import Derived.Test.YtcmlmjbpdaecbaaH10
set_option linter.unusedVariables false
set_option linter.unusedSimpArgs false
namespace Go.Proofs.Ytcmlmjbpdaecbaa
set_option linter.unusedVariables false
set_option linter.unusedSimpArgs false
namespace E
open T

theorem pad_inj {l m : List Int} (hl : l.length ≤ 3) (hm : m.length ≤ 3) (al : ∀ a ∈ l, 0 ≤ a) (am : ∀ a ∈ m, 0 ≤ a) (h0 : l.getD 0 (-1) = m.getD 0 (-1)) (h1 : l.getD 1 (-1) = m.getD 1 (-1)) (h2 : l.getD 2 (-1) = m.getD 2 (-1)) : l = m := by
  rcases l with _ | ⟨a, _ | ⟨b, _ | ⟨c, _ | ⟨d, l⟩⟩⟩⟩ <;> rcases m with _ | ⟨a', _ | ⟨b', _ | ⟨c', _ | ⟨d', m⟩⟩⟩⟩ <;> simp at * <;> omega
/-- a node that stands in a list: few operands, none below 0, no flags -/
structure Nw (x : Nd) : Prop where
  len : x.args.length ≤ 3
  lo : ∀ a ∈ x.args, 0 ≤ a
  fl : x.fl = 0
theorem opn_eq {x y : Nd} (hx : Nw x) (hy : Nw y) (h : opn x = opn y) : x = y := by
  obtain ⟨op, w, fl, args, imm⟩ := x
  obtain ⟨op', w', fl', args', imm'⟩ := y
  simp only [opn, Opn.mk.injEq] at h
  obtain ⟨rfl, rfl, rfl, h0, h1, h2⟩ := h
  have f1 := hx.fl
  have f2 := hy.fl
  simp only at f1 f2
  subst f1 f2
  obtain rfl := pad_inj hx.len hy.len hx.lo hy.lo h0 h1 h2
  rfl
theorem get_opsF {x : Nd} (hx : Nw x) : ∀ (l : List Nd) (k : Nat), (∀ y ∈ l, Nw y) → AL.get (opsF k l) (opn x) = if x ∈ l then some (k + l.idxOf x) else none := by
  intro l
  induction l with
  | nil => intro k _; rfl
  | cons y l ih =>
    intro k h
    unfold opsF AL.get
    by_cases e : opn y = opn x
    · have e' := opn_eq (h y (by simp)) hx e
      subst e'
      simp
    · rw [if_neg e, ih (k + 1) (fun z hz => h z (by simp [hz]))]
      have hne : x ≠ y := fun h' => e (by rw [h'])
      have hne' : (y == x) = false := by simp; exact fun h' => hne h'.symm
      by_cases hm : x ∈ l
      · rw [if_pos hm, if_pos (by simp [hm]), List.idxOf_cons, hne']
        simp; omega
      · rw [if_neg hm, if_neg (by simp [hne, hm])]
theorem get_ops {x : Nd} {l : List Nd} (hx : Nw x) (h : ∀ y ∈ l, Nw y) : AL.get (ops l) (opn x) = if x ∈ l then some (l.idxOf x) else none := by
  have := get_opsF hx l 0 h
  simpa [ops] using this
theorem Wl.nw {out : List Nd} (h : Wl out) : ∀ y ∈ out, Nw y := fun y hy => by
  obtain ⟨k, hk⟩ := List.getElem?_of_mem hy
  exact ⟨h.len y hy, fun a ha => (h.ord k y hk a ha).1, h.fl y hy⟩

theorem range_root (n c : Nat) : root (List.range n) c = c := root_of_fix (by
  rw [List.getD_eq_getElem?_getD]
  rcases Nat.lt_or_ge c n with h | h
  · rw [List.getElem?_range h]; rfl
  · rw [List.getElem?_eq_none (by simpa using h)]; rfl)
theorem range_can (n : Nat) (x : Opn) : can (List.range n) x = x := by
  have hc : ∀ a : Int, cr (List.range n) a = a := fun a => by
    unfold cr
    split
    · rfl
    · rw [range_root]; omega
  unfold can
  rw [hc, hc, hc]

/-- a graph to which nothing was told: its classes are nodes -/
structure Fr (s : Gr) (out : List Nd) : Prop where
  p : s.p = List.range out.length
  wd : s.wd = out.map (·.w)
  es : s.es = ops out
  wl : Wl out
theorem Fr.put {s : Gr} {out : List Nd} (h : Fr s out) {y : Nd} (hy : Nw y) (ha : ∀ a ∈ y.args, a < (out.length : Int)) : Fr (s.put (opn y)).1 (addN out y).1 ∧ (((s.put (opn y)).2.1 : Nat) : Int) = (addN out y).2 ∧ (s.put (opn y)).1.nm = s.nm ∧ (s.put (opn y)).1.vr = s.vr := by
  have hg := get_ops hy h.wl.nw
  have hc : can s.p (opn y) = opn y := by rw [h.p]; exact range_can _ _
  unfold Gr.put addN
  rw [hc, h.es, hg]
  by_cases hm : y ∈ out
  · rw [if_pos hm, if_pos hm]
    dsimp only
    refine ⟨h, ?_, rfl, rfl⟩
    rw [h.p, range_root]
  · rw [if_neg hm, if_neg hm]
    dsimp only
    have hp : s.p.length = out.length := by rw [h.p]; simp
    have ho := addN_ord (y := y) h.wl.ord (fun a hha => ⟨hy.lo a hha, ha a hha⟩)
    have hs := (addN_spec (y := y) h.wl.nd).2.1
    unfold addN at ho hs
    rw [if_neg hm] at ho hs
    refine ⟨⟨?_, ?_, ?_, hs, ho, ?_, ?_⟩, ?_, rfl, rfl⟩
    · dsimp only; rw [hp, h.p, List.length_append, List.length_singleton, List.range_succ]
    · dsimp only; rw [h.wd, List.map_append]; rfl
    · dsimp only
      rw [hp]
      unfold ops
      rw [opsF_app]
      simp [opsF]
    · intro x hx
      rcases List.mem_append.1 hx with hx | hx
      · exact h.wl.len x hx
      · simp at hx; subst hx; exact hy.len
    · intro x hx
      rcases List.mem_append.1 hx with hx | hx
      · exact h.wl.fl x hx
      · simp at hx; subst hx; exact hy.fl
    · rw [hp, List.idxOf_eq_length hm]

/-- a tree within a forest -/
inductive Sub : F → F → Prop where
  | here {op w fl imm : Int} {kids rest : F} : Sub (.cons op w fl imm kids .nil) (.cons op w fl imm kids rest)
  | kid {f : F} {op w fl imm : Int} {kids rest : F} (h : Sub f kids) : Sub f (.cons op w fl imm kids rest)
  | rest {f : F} {op w fl imm : Int} {kids rest : F} (h : Sub f rest) : Sub f (.cons op w fl imm kids rest)
theorem Sub.tree {f g : F} (h : Sub f g) : ∃ op w fl imm kids, f = .cons op w fl imm kids .nil := by
  induction h with
  | here => exact ⟨_, _, _, _, _, rfl⟩
  | kid _ ih => exact ih
  | rest _ ih => exact ih
theorem Sub.trans {f g k : F} (h : Sub g k) : Sub f g → Sub f k := by
  induction h with
  | here =>
    intro s
    cases s with
    | here => exact .here
    | kid s => exact .kid s
    | rest s => cases s
  | kid _ ih => intro s; exact .kid (ih s)
  | rest _ ih => intro s; exact .rest (ih s)
theorem rep_sub {out : List Nd} {la : List Int} {g : F} (r : Rep out la g) : ∀ {f : F}, Sub f g → ∃ i : Nat, Rep out [(i : Int)] f := by
  induction r with
  | nil => intro f s; cases s
  | @cons a la x kids rest h0 hx hk hr ih1 ih2 =>
    intro f s
    cases s with
    | here => exact ⟨a.toNat, by rw [Int.toNat_of_nonneg h0]; exact .cons h0 hx hk .nil⟩
    | kid s => exact ih1 s
    | rest s => exact ih2 s
/-- each node of a told forest stands for one of its trees -/
theorem cnn_sub (f : F) : ∀ {out : List Nd}, out.Nodup → Ord out → ∀ i : Nat, out.length ≤ i → i < (cnn f out).1.length → ∃ g, Rep (cnn f out).1 [(i : Int)] g ∧ Sub g f := by
  induction f with
  | nil => intro out _ _ i h1 h2; simp [cnn] at h2; omega
  | cons op w fl imm kids rest ih1 ih2 =>
    intro out hn ho i h1 h2
    have t1 := cnn_told kids hn ho
    simp only [cnn] at h2 ⊢
    have ih1' := ih1 hn ho
    generalize hc1 : cnn kids out = c1 at *
    obtain ⟨p2, n2, z2, l2, g2⟩ := addN_spec (y := ⟨op, w, fl, c1.2, imm⟩) t1.nd
    have o2 := addN_ord (y := ⟨op, w, fl, c1.2, imm⟩) t1.ord t1.lo
    have hlen : (addN c1.1 ⟨op, w, fl, c1.2, imm⟩).1.length ≤ c1.1.length + 1 := addN_len
    have ha2 : ∀ k : Nat, k < (addN c1.1 ⟨op, w, fl, c1.2, imm⟩).1.length → c1.1.length ≤ k → (k : Int) = (addN c1.1 ⟨op, w, fl, c1.2, imm⟩).2 := fun k hk1 hk2 => by
      unfold addN at hk1 ⊢
      by_cases hm : (⟨op, w, fl, c1.2, imm⟩ : Nd) ∈ c1.1
      · rw [if_pos hm] at hk1; dsimp only at hk1; omega
      · rw [if_neg hm] at hk1
        dsimp only
        rw [List.idxOf_eq_length hm]
        simp at hk1
        omega
    generalize hc2 : addN c1.1 ⟨op, w, fl, c1.2, imm⟩ = c2 at *
    have t3 := cnn_told rest n2 o2
    have ih3 := ih2 n2 o2
    generalize hc3 : cnn rest c2.1 = c3 at *
    rcases Nat.lt_or_ge i c2.1.length with hi | hi
    · rcases Nat.lt_or_ge i c1.1.length with hj | hj
      · obtain ⟨g, r, s⟩ := ih1' i h1 hj
        exact ⟨g, r.mono fun k x hx => pre_at (p2.trans t3.pre) k x hx, .kid s⟩
      · have e := ha2 i hi hj
        refine ⟨_, Rep.cons (x := ⟨op, w, fl, c1.2, imm⟩) (by omega) (by rw [e]; exact pre_at t3.pre _ _ g2) (t1.rep.mono fun k x hx => pre_at (p2.trans t3.pre) k x hx) .nil, .here⟩
    · obtain ⟨g, r, s⟩ := ih3 i hi h2
      exact ⟨g, r, .rest s⟩
theorem canon_sub {f : F} {i : Nat} (h : i < (canon f).length) : ∃ g, Rep (canon f) [(i : Int)] g ∧ Sub g f := cnn_sub f List.nodup_nil ord_nil i (Nat.zero_le _) h

/-- what Add has made of the first nodes of a shared term -/
structure FrA (s : Gr) (out : List Nd) (L : List Nd) (k : Nat) (cl : List Nat) : Prop where
  fr : Fr s out
  len : cl.length = k
  rep : ∀ (i c : Nat), cl[i]? = some c → ∃ f, Rep L [(i : Int)] f ∧ Rep out [(c : Int)] f

theorem rep_map {L out : List Nd} {cl : List Nat} (h : ∀ (i c : Nat), cl[i]? = some c → ∃ f, Rep L [(i : Int)] f ∧ Rep out [(c : Int)] f) {la : List Int} {g : F} (r : Rep L la g) (hl : ∀ a ∈ la, 0 ≤ a ∧ a < (cl.length : Int)) : Rep out (la.map fun a => ((cl.getD a.toNat 0 : Nat) : Int)) g := by
  induction r with
  | nil => exact .nil
  | @cons a la x kids rest h0 hx hk hr ih1 ih2 =>
    have ha := hl a (by simp)
    have hc : cl[a.toNat]? = some (cl.getD a.toNat 0) := by rw [List.getD_eq_getElem?_getD, List.getElem?_eq_getElem (by omega)]; rfl
    obtain ⟨f, r1, r2⟩ := h _ _ hc
    rw [Int.toNat_of_nonneg h0] at r1
    have := r1.det (.cons h0 hx hk .nil)
    subst this
    have ih2' := ih2 fun b hb => hl b (by simp [hb])
    have := r2.app ih2'
    simpa [F.app] using this
theorem FrA.step {s : Gr} {out L : List Nd} {k : Nat} {cl : List Nat} (h : FrA s out L k cl) (hL : Ord L) {x : Nd} (hx : L[k]? = some x) (h3 : x.args.length ≤ 3) (hf : x.fl = 0) :
    FrA (s.put (opOf cl x)).1 (addN out ⟨x.op, x.w, x.fl, x.args.map fun a => ((cl.getD a.toNat 0 : Nat) : Int), x.imm⟩).1 L (k + 1) (cl ++ [(s.put (opOf cl x)).2.1]) ∧ (s.put (opOf cl x)).1.nm = s.nm ∧ (s.put (opOf cl x)).1.vr = s.vr ∧ Ar s.p.length (opOf cl x) := by
  obtain ⟨y, hy⟩ : ∃ y : Nd, y = ⟨x.op, x.w, x.fl, x.args.map fun a => ((cl.getD a.toNat 0 : Nat) : Int), x.imm⟩ := ⟨_, rfl⟩
  have ho : opOf cl x = opn y := by rw [hy]; rfl
  have hal := hL k x hx
  obtain ⟨kids, hk⟩ := Rep.ex hL L.length (Nat.le_refl _) x.args (fun a ha => by
    have := hal a ha
    have := (List.getElem?_eq_some_iff.1 hx).1
    omega)
  have hkr := rep_map h.rep hk (fun a ha => by have := hal a ha; rw [h.len]; omega)
  have hlt : ∀ {la : List Int} {g : F}, Rep out la g → ∀ a ∈ la, a < (out.length : Int) := fun r => by
    induction r with
    | nil => intro a ha; cases ha
    | cons h0 hx _ _ _ ih2 =>
      intro a ha
      rcases List.mem_cons.1 ha with rfl | ha
      · have := (List.getElem?_eq_some_iff.1 hx).1; omega
      · exact ih2 a ha
  have hya : ∀ a ∈ y.args, 0 ≤ a ∧ a < (out.length : Int) := by
    rw [hy]
    intro a ha
    refine ⟨?_, hlt hkr a ha⟩
    obtain ⟨b, _, rfl⟩ := List.mem_map.1 ha
    omega
  have hnw : Nw y := ⟨by rw [hy]; simpa using h3, fun a ha => (hya a ha).1, by rw [hy]; exact hf⟩
  obtain ⟨q1, q2, q3, q4⟩ := h.fr.put hnw (fun a ha => (hya a ha).2)
  rw [ho, ← hy]
  have hsp := addN_spec (y := y) h.fr.wl.nd
  refine ⟨⟨q1, by simp [h.len], fun i c hc => ?_⟩, q3, q4, ?_⟩
  · rcases Nat.lt_or_ge i cl.length with hi | hi
    · rw [List.getElem?_append_left hi] at hc
      obtain ⟨f, r1, r2⟩ := h.rep i c hc
      exact ⟨f, r1, r2.mono fun k x hx => pre_at hsp.1 k x hx⟩
    · rw [List.getElem?_append_right hi] at hc
      have hi0 : i - cl.length = 0 := by
        rcases Nat.eq_zero_or_pos (i - cl.length) with e | e
        · exact e
        · rw [List.getElem?_eq_none (by simp; omega)] at hc; cases hc
      rw [hi0] at hc
      simp at hc
      have hik : i = k := by have := h.len; omega
      subst hik
      refine ⟨.cons x.op x.w x.fl x.imm kids .nil, Rep.cons (by omega) (by simpa using hx) hk .nil, ?_⟩
      rw [← hc, q2]
      have e : F.cons x.op x.w x.fl x.imm kids .nil = F.cons y.op y.w y.fl y.imm kids .nil := by rw [hy]
      rw [e]
      refine Rep.cons hsp.2.2.1 hsp.2.2.2.2 ?_ .nil
      have : y.args = x.args.map fun a => ((cl.getD a.toNat 0 : Nat) : Int) := by rw [hy]
      rw [this]
      exact hkr.mono fun k x hx => pre_at hsp.1 k x hx
  · have hp : s.p.length = out.length := by rw [h.fr.p]; simp
    rw [hp]
    have hg : ∀ i, ArOk out.length (y.args.getD i (-1)) := fun i => by
      rw [List.getD_eq_getElem?_getD]
      cases e : y.args[i]? with
      | none => exact .inl rfl
      | some a => exact .inr (hya a (List.mem_of_getElem? e))
    exact ⟨hg 0, hg 1, hg 2⟩
end E
end Go.Proofs.Ytcmlmjbpdaecbaa
