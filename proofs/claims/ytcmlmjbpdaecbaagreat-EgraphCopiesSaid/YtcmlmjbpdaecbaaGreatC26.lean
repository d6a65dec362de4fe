/- Merged: PlainEB, PlainW, PlainEC, G16. -/
import Derived.Test.YtcmlmjbpdaecbaaGreatC16
import Derived.Test.YtcmlmjbpdaecbaaGreatC06
import Derived.Test.YtcmlmjbpdaecbaaGreatC03
import Derived.Test.YtcmlmjbpdaecbaaGreatC25
set_option linter.unusedVariables false
set_option linter.unusedSimpArgs false
section
namespace Go.Proofs.YtcmlmjbpdaecbaaGreat
set_option linter.unusedVariables false
set_option linter.unusedSimpArgs false
namespace E
open T

theorem pad_inj {l m : List Int} (hl : l.length ≤ 3) (hm : m.length ≤ 3) (al : ∀ a ∈ l, 0 ≤ a) (am : ∀ a ∈ m, 0 ≤ a) (h0 : l.getD 0 (-1) = m.getD 0 (-1)) (h1 : l.getD 1 (-1) = m.getD 1 (-1)) (h2 : l.getD 2 (-1) = m.getD 2 (-1)) : l = m := by
  rcases l with _ | ⟨a, _ | ⟨b, _ | ⟨c, _ | ⟨d, l⟩⟩⟩⟩ <;> rcases m with _ | ⟨a', _ | ⟨b', _ | ⟨c', _ | ⟨d', m⟩⟩⟩⟩ <;> simp at * <;> omega
/-- a node that stands in a list: few operands, none below 0, no flags -/
structure Nw (x : Nd) : Prop where
  len : x.args.length ≤ 3
  lo : ∀ a ∈ x.args, 0 ≤ a
  fl : x.fl = 0
theorem opn_eq {x y : Nd} (hx : Nw x) (hy : Nw y) (h : opn x = opn y) : x = y := by
  obtain ⟨op, w, fl, args, imm⟩ := x
  obtain ⟨op', w', fl', args', imm'⟩ := y
  simp only [opn, Opn.mk.injEq] at h
  obtain ⟨rfl, rfl, rfl, h0, h1, h2⟩ := h
  have f1 := hx.fl
  have f2 := hy.fl
  simp only at f1 f2
  subst f1 f2
  obtain rfl := pad_inj hx.len hy.len hx.lo hy.lo h0 h1 h2
  rfl
theorem get_opsF {x : Nd} (hx : Nw x) : ∀ (l : List Nd) (k : Nat), (∀ y ∈ l, Nw y) → AL.get (opsF k l) (opn x) = if x ∈ l then some (k + l.idxOf x) else none := by
  intro l
  induction l with
  | nil => intro k _; rfl
  | cons y l ih =>
    intro k h
    unfold opsF AL.get
    by_cases e : opn y = opn x
    · have e' := opn_eq (h y (by simp)) hx e
      subst e'
      simp
    · rw [if_neg e, ih (k + 1) (fun z hz => h z (by simp [hz]))]
      have hne : x ≠ y := fun h' => e (by rw [h'])
      have hne' : (y == x) = false := by simp; exact fun h' => hne h'.symm
      by_cases hm : x ∈ l
      · rw [if_pos hm, if_pos (by simp [hm]), List.idxOf_cons, hne']
        simp; omega
      · rw [if_neg hm, if_neg (by simp [hne, hm])]
theorem get_ops {x : Nd} {l : List Nd} (hx : Nw x) (h : ∀ y ∈ l, Nw y) : AL.get (ops l) (opn x) = if x ∈ l then some (l.idxOf x) else none := by
  have := get_opsF hx l 0 h
  simpa [ops] using this
theorem Wl.nw {out : List Nd} (h : Wl out) : ∀ y ∈ out, Nw y := fun y hy => by
  obtain ⟨k, hk⟩ := List.getElem?_of_mem hy
  exact ⟨h.len y hy, fun a ha => (h.ord k y hk a ha).1, h.fl y hy⟩

theorem range_root (n c : Nat) : root (List.range n) c = c := root_of_fix (by
  rw [List.getD_eq_getElem?_getD]
  rcases Nat.lt_or_ge c n with h | h
  · rw [List.getElem?_range h]; rfl
  · rw [List.getElem?_eq_none (by simpa using h)]; rfl)
theorem range_can (n : Nat) (x : Opn) : can (List.range n) x = x := by
  have hc : ∀ a : Int, cr (List.range n) a = a := fun a => by
    unfold cr
    split
    · rfl
    · rw [range_root]; omega
  unfold can
  rw [hc, hc, hc]

/-- a graph to which nothing was told: its classes are nodes -/
structure Fr (s : Gr) (out : List Nd) : Prop where
  p : s.p = List.range out.length
  wd : s.wd = out.map (·.w)
  es : s.es = ops out
  wl : Wl out
theorem Fr.put {s : Gr} {out : List Nd} (h : Fr s out) {y : Nd} (hy : Nw y) (ha : ∀ a ∈ y.args, a < (out.length : Int)) : Fr (s.put (opn y)).1 (addN out y).1 ∧ (((s.put (opn y)).2.1 : Nat) : Int) = (addN out y).2 ∧ (s.put (opn y)).1.nm = s.nm ∧ (s.put (opn y)).1.vr = s.vr := by
  have hg := get_ops hy h.wl.nw
  have hc : can s.p (opn y) = opn y := by rw [h.p]; exact range_can _ _
  unfold Gr.put addN
  rw [hc, h.es, hg]
  by_cases hm : y ∈ out
  · rw [if_pos hm, if_pos hm]
    dsimp only
    refine ⟨h, ?_, rfl, rfl⟩
    rw [h.p, range_root]
  · rw [if_neg hm, if_neg hm]
    dsimp only
    have hp : s.p.length = out.length := by rw [h.p]; simp
    have ho := addN_ord (y := y) h.wl.ord (fun a hha => ⟨hy.lo a hha, ha a hha⟩)
    have hs := (addN_spec (y := y) h.wl.nd).2.1
    unfold addN at ho hs
    rw [if_neg hm] at ho hs
    refine ⟨⟨?_, ?_, ?_, hs, ho, ?_, ?_⟩, ?_, rfl, rfl⟩
    · dsimp only; rw [hp, h.p, List.length_append, List.length_singleton, List.range_succ]
    · dsimp only; rw [h.wd, List.map_append]; rfl
    · dsimp only
      rw [hp]
      unfold ops
      rw [opsF_app]
      simp [opsF]
    · intro x hx
      rcases List.mem_append.1 hx with hx | hx
      · exact h.wl.len x hx
      · simp at hx; subst hx; exact hy.len
    · intro x hx
      rcases List.mem_append.1 hx with hx | hx
      · exact h.wl.fl x hx
      · simp at hx; subst hx; exact hy.fl
    · rw [hp, List.idxOf_eq_length hm]

/-- a tree within a forest -/
inductive Sub : F → F → Prop where
  | here {op w fl imm : Int} {kids rest : F} : Sub (.cons op w fl imm kids .nil) (.cons op w fl imm kids rest)
  | kid {f : F} {op w fl imm : Int} {kids rest : F} (h : Sub f kids) : Sub f (.cons op w fl imm kids rest)
  | rest {f : F} {op w fl imm : Int} {kids rest : F} (h : Sub f rest) : Sub f (.cons op w fl imm kids rest)
theorem Sub.tree {f g : F} (h : Sub f g) : ∃ op w fl imm kids, f = .cons op w fl imm kids .nil := by
  induction h with
  | here => exact ⟨_, _, _, _, _, rfl⟩
  | kid _ ih => exact ih
  | rest _ ih => exact ih
theorem Sub.trans {f g k : F} (h : Sub g k) : Sub f g → Sub f k := by
  induction h with
  | here =>
    intro s
    cases s with
    | here => exact .here
    | kid s => exact .kid s
    | rest s => cases s
  | kid _ ih => intro s; exact .kid (ih s)
  | rest _ ih => intro s; exact .rest (ih s)
theorem rep_sub {out : List Nd} {la : List Int} {g : F} (r : Rep out la g) : ∀ {f : F}, Sub f g → ∃ i : Nat, Rep out [(i : Int)] f := by
  induction r with
  | nil => intro f s; cases s
  | @cons a la x kids rest h0 hx hk hr ih1 ih2 =>
    intro f s
    cases s with
    | here => exact ⟨a.toNat, by rw [Int.toNat_of_nonneg h0]; exact .cons h0 hx hk .nil⟩
    | kid s => exact ih1 s
    | rest s => exact ih2 s
/-- each node of a told forest stands for one of its trees -/
theorem cnn_sub (f : F) : ∀ {out : List Nd}, out.Nodup → Ord out → ∀ i : Nat, out.length ≤ i → i < (cnn f out).1.length → ∃ g, Rep (cnn f out).1 [(i : Int)] g ∧ Sub g f := by
  induction f with
  | nil => intro out _ _ i h1 h2; simp [cnn] at h2; omega
  | cons op w fl imm kids rest ih1 ih2 =>
    intro out hn ho i h1 h2
    have t1 := cnn_told kids hn ho
    simp only [cnn] at h2 ⊢
    have ih1' := ih1 hn ho
    generalize hc1 : cnn kids out = c1 at *
    obtain ⟨p2, n2, z2, l2, g2⟩ := addN_spec (y := ⟨op, w, fl, c1.2, imm⟩) t1.nd
    have o2 := addN_ord (y := ⟨op, w, fl, c1.2, imm⟩) t1.ord t1.lo
    have hlen : (addN c1.1 ⟨op, w, fl, c1.2, imm⟩).1.length ≤ c1.1.length + 1 := addN_len
    have ha2 : ∀ k : Nat, k < (addN c1.1 ⟨op, w, fl, c1.2, imm⟩).1.length → c1.1.length ≤ k → (k : Int) = (addN c1.1 ⟨op, w, fl, c1.2, imm⟩).2 := fun k hk1 hk2 => by
      unfold addN at hk1 ⊢
      by_cases hm : (⟨op, w, fl, c1.2, imm⟩ : Nd) ∈ c1.1
      · rw [if_pos hm] at hk1; dsimp only at hk1; omega
      · rw [if_neg hm] at hk1
        dsimp only
        rw [List.idxOf_eq_length hm]
        simp at hk1
        omega
    generalize hc2 : addN c1.1 ⟨op, w, fl, c1.2, imm⟩ = c2 at *
    have t3 := cnn_told rest n2 o2
    have ih3 := ih2 n2 o2
    generalize hc3 : cnn rest c2.1 = c3 at *
    rcases Nat.lt_or_ge i c2.1.length with hi | hi
    · rcases Nat.lt_or_ge i c1.1.length with hj | hj
      · obtain ⟨g, r, s⟩ := ih1' i h1 hj
        exact ⟨g, r.mono fun k x hx => pre_at (p2.trans t3.pre) k x hx, .kid s⟩
      · have e := ha2 i hi hj
        refine ⟨_, Rep.cons (x := ⟨op, w, fl, c1.2, imm⟩) (by omega) (by rw [e]; exact pre_at t3.pre _ _ g2) (t1.rep.mono fun k x hx => pre_at (p2.trans t3.pre) k x hx) .nil, .here⟩
    · obtain ⟨g, r, s⟩ := ih3 i hi h2
      exact ⟨g, r, .rest s⟩
theorem canon_sub {f : F} {i : Nat} (h : i < (canon f).length) : ∃ g, Rep (canon f) [(i : Int)] g ∧ Sub g f := cnn_sub f List.nodup_nil ord_nil i (Nat.zero_le _) h

/-- what Add has made of the first nodes of a shared term -/
structure FrA (s : Gr) (out : List Nd) (L : List Nd) (k : Nat) (cl : List Nat) : Prop where
  fr : Fr s out
  len : cl.length = k
  rep : ∀ (i c : Nat), cl[i]? = some c → ∃ f, Rep L [(i : Int)] f ∧ Rep out [(c : Int)] f

theorem rep_map {L out : List Nd} {cl : List Nat} (h : ∀ (i c : Nat), cl[i]? = some c → ∃ f, Rep L [(i : Int)] f ∧ Rep out [(c : Int)] f) {la : List Int} {g : F} (r : Rep L la g) (hl : ∀ a ∈ la, 0 ≤ a ∧ a < (cl.length : Int)) : Rep out (la.map fun a => ((cl.getD a.toNat 0 : Nat) : Int)) g := by
  induction r with
  | nil => exact .nil
  | @cons a la x kids rest h0 hx hk hr ih1 ih2 =>
    have ha := hl a (by simp)
    have hc : cl[a.toNat]? = some (cl.getD a.toNat 0) := by rw [List.getD_eq_getElem?_getD, List.getElem?_eq_getElem (by omega)]; rfl
    obtain ⟨f, r1, r2⟩ := h _ _ hc
    rw [Int.toNat_of_nonneg h0] at r1
    have := r1.det (.cons h0 hx hk .nil)
    subst this
    have ih2' := ih2 fun b hb => hl b (by simp [hb])
    have := r2.app ih2'
    simpa [F.app] using this
theorem FrA.step {s : Gr} {out L : List Nd} {k : Nat} {cl : List Nat} (h : FrA s out L k cl) (hL : Ord L) {x : Nd} (hx : L[k]? = some x) (h3 : x.args.length ≤ 3) (hf : x.fl = 0) :
    FrA (s.put (opOf cl x)).1 (addN out ⟨x.op, x.w, x.fl, x.args.map fun a => ((cl.getD a.toNat 0 : Nat) : Int), x.imm⟩).1 L (k + 1) (cl ++ [(s.put (opOf cl x)).2.1]) ∧ (s.put (opOf cl x)).1.nm = s.nm ∧ (s.put (opOf cl x)).1.vr = s.vr ∧ Ar s.p.length (opOf cl x) := by
  obtain ⟨y, hy⟩ : ∃ y : Nd, y = ⟨x.op, x.w, x.fl, x.args.map fun a => ((cl.getD a.toNat 0 : Nat) : Int), x.imm⟩ := ⟨_, rfl⟩
  have ho : opOf cl x = opn y := by rw [hy]; rfl
  have hal := hL k x hx
  obtain ⟨kids, hk⟩ := Rep.ex hL L.length (Nat.le_refl _) x.args (fun a ha => by
    have := hal a ha
    have := (List.getElem?_eq_some_iff.1 hx).1
    omega)
  have hkr := rep_map h.rep hk (fun a ha => by have := hal a ha; rw [h.len]; omega)
  have hlt : ∀ {la : List Int} {g : F}, Rep out la g → ∀ a ∈ la, a < (out.length : Int) := fun r => by
    induction r with
    | nil => intro a ha; cases ha
    | cons h0 hx _ _ _ ih2 =>
      intro a ha
      rcases List.mem_cons.1 ha with rfl | ha
      · have := (List.getElem?_eq_some_iff.1 hx).1; omega
      · exact ih2 a ha
  have hya : ∀ a ∈ y.args, 0 ≤ a ∧ a < (out.length : Int) := by
    rw [hy]
    intro a ha
    refine ⟨?_, hlt hkr a ha⟩
    obtain ⟨b, _, rfl⟩ := List.mem_map.1 ha
    omega
  have hnw : Nw y := ⟨by rw [hy]; simpa using h3, fun a ha => (hya a ha).1, by rw [hy]; exact hf⟩
  obtain ⟨q1, q2, q3, q4⟩ := h.fr.put hnw (fun a ha => (hya a ha).2)
  rw [ho, ← hy]
  have hsp := addN_spec (y := y) h.fr.wl.nd
  refine ⟨⟨q1, by simp [h.len], fun i c hc => ?_⟩, q3, q4, ?_⟩
  · rcases Nat.lt_or_ge i cl.length with hi | hi
    · rw [List.getElem?_append_left hi] at hc
      obtain ⟨f, r1, r2⟩ := h.rep i c hc
      exact ⟨f, r1, r2.mono fun k x hx => pre_at hsp.1 k x hx⟩
    · rw [List.getElem?_append_right hi] at hc
      have hi0 : i - cl.length = 0 := by
        rcases Nat.eq_zero_or_pos (i - cl.length) with e | e
        · exact e
        · rw [List.getElem?_eq_none (by simp; omega)] at hc; cases hc
      rw [hi0] at hc
      simp at hc
      have hik : i = k := by have := h.len; omega
      subst hik
      refine ⟨.cons x.op x.w x.fl x.imm kids .nil, Rep.cons (by omega) (by simpa using hx) hk .nil, ?_⟩
      rw [← hc, q2]
      have e : F.cons x.op x.w x.fl x.imm kids .nil = F.cons y.op y.w y.fl y.imm kids .nil := by rw [hy]
      rw [e]
      refine Rep.cons hsp.2.2.1 hsp.2.2.2.2 ?_ .nil
      have : y.args = x.args.map fun a => ((cl.getD a.toNat 0 : Nat) : Int) := by rw [hy]
      rw [this]
      exact hkr.mono fun k x hx => pre_at hsp.1 k x hx
  · have hp : s.p.length = out.length := by rw [h.fr.p]; simp
    rw [hp]
    have hg : ∀ i, ArOk out.length (y.args.getD i (-1)) := fun i => by
      rw [List.getD_eq_getElem?_getD]
      cases e : y.args[i]? with
      | none => exact .inl rfl
      | some a => exact .inr (hya a (List.mem_of_getElem? e))
    exact ⟨hg 0, hg 1, hg 2⟩
end E
end Go.Proofs.YtcmlmjbpdaecbaaGreat
end
section
namespace Go.Proofs.YtcmlmjbpdaecbaaGreat
set_option linter.unusedVariables false
set_option linter.unusedSimpArgs false
namespace T
/-- a tree of a list -/
def InT (t : List Nd) (g : F) : Prop := ∃ k : Int, Rep t [k] g

theorem Rep.inj {out : List Nd} (hn : out.Nodup) {la : List Int} {f : F} (r : Rep out la f) : ∀ {lb : List Int}, Rep out lb f → la = lb := by
  induction r with
  | nil => intro lb s; cases s; rfl
  | @cons a la x kids rest h0 hx _ _ ih1 ih2 =>
    intro lb s
    generalize hg : F.cons x.op x.w x.fl x.imm kids rest = g at s
    cases s with
    | nil => cases hg
    | @cons b lb y kids' rest' h0' hx' hk' hr' =>
      injection hg with e1 e2 e3 e4 e5 e6
      subst e5
      subst e6
      have e := ih1 hk'
      have e' := ih2 hr'
      have exy : x = y := by
        obtain ⟨xo, xw, xf, xa, xi⟩ := x
        obtain ⟨yo, yw, yf, ya, yi⟩ := y
        dsimp only at *
        subst e1 e2 e3 e4 e
        rfl
      subst exy
      have h1 := (idx_at hn hx).2
      have h2 := (idx_at hn hx').2
      have : a = b := by omega
      rw [this, e']

/-- each tree of out is a tree of t -/
def Cov (t out : List Nd) : Prop := ∀ (i : Int) (g : F), Rep out [i] g → InT t g

theorem cov_add {t out : List Nd} {y : Nd} {kids : F} (hc : Cov t out) (ho : Ord out) (hy : ∀ a ∈ y.args, 0 ≤ a ∧ a < (out.length : Int)) (hk : Rep out y.args kids) (ht : InT t (.cons y.op y.w y.fl y.imm kids .nil)) : Cov t (addN out y).1 := by
  unfold addN
  by_cases hm : y ∈ out
  · rw [if_pos hm]; exact hc
  · rw [if_neg hm]
    intro i f r
    rcases Int.lt_or_le i out.length with hi | hi
    · exact hc i f (r.cut ho hi)
    · cases r with
      | @cons _ _ x kids' rest h0 hx hk' hr =>
        cases hr
        have hi' : i.toNat = out.length := by
          have := (List.getElem?_eq_some_iff.1 hx).1
          simp at this
          omega
        rw [hi'] at hx
        simp at hx
        subst hx
        have e := (hk.mono (u := out ++ [y]) (fun k x hx => pre_at (List.prefix_append _ _) k x hx)).det hk'
        subst e
        exact ht

theorem cnn_cov {t : List Nd} {la : List Int} {f : F} (r : Rep t la f) : ∀ {out : List Nd}, out.Nodup → Ord out → Cov t out → Cov t (cnn f out).1 := by
  induction r with
  | nil => intro out _ _ hc; exact hc
  | @cons a la x kids rest h0 hx hk _ ih1 ih2 =>
    intro out hn ho hc
    have t1 := cnn_told kids hn ho
    have c1 := ih1 hn ho hc
    simp only [cnn]
    have s2 := addN_spec (y := ⟨x.op, x.w, x.fl, (cnn kids out).2, x.imm⟩) t1.nd
    have o2 := addN_ord (y := ⟨x.op, x.w, x.fl, (cnn kids out).2, x.imm⟩) t1.ord t1.lo
    exact ih2 s2.2.1 o2 (cov_add c1 t1.ord t1.lo t1.rep ⟨a, Rep.cons (x := x) h0 hx hk .nil⟩)

theorem nodup_le : ∀ (n : Nat) (l : List Nat), l.Nodup → (∀ a ∈ l, a < n) → l.length ≤ n := by
  intro n
  induction n with
  | zero =>
    intro l _ h
    cases l with
    | nil => simp
    | cons a l => have := h a (by simp); omega
  | succ n ih =>
    intro l hd h
    by_cases hm : n ∈ l
    · have h1 := List.length_erase_of_mem hm
      have h2 := ih (l.erase n) (hd.erase _) (fun a ha => by
        have ha' := List.mem_of_mem_erase ha
        have := h a ha'
        have hne : a ≠ n := fun e => by
          rw [List.Nodup.mem_erase_iff hd] at ha
          exact ha.1 e
        omega)
      omega
    · have := ih l hd (fun a ha => by
        have := h a ha
        have hne : a ≠ n := fun e => hm (e ▸ ha)
        omega)
      omega

theorem cov_len {t out : List Nd} (hn : out.Nodup) (ho : Ord out) (hc : Cov t out) : out.length ≤ t.length := by
  have h : ∀ i : Nat, ∃ k : Nat, i < out.length → (k < t.length ∧ ∀ g, Rep out [(i : Int)] g → Rep t [(k : Int)] g) := fun i => by
    by_cases hi : i < out.length
    · obtain ⟨g, hg⟩ := Rep.one ho hi
      obtain ⟨k, hk⟩ := hc i g hg
      have hk0 : 0 ≤ k ∧ k.toNat < t.length := by
        cases hk with
        | cons h0 hx _ _ => exact ⟨h0, (List.getElem?_eq_some_iff.1 hx).1⟩
      exact ⟨k.toNat, fun _ => ⟨hk0.2, fun g' hg' => by rw [hg'.det hg, Int.toNat_of_nonneg hk0.1]; exact hk⟩⟩
    · exact ⟨0, fun h => absurd h hi⟩
  obtain ⟨c, hcf⟩ := Classical.axiomOfChoice h
  have hnd : ((List.range out.length).map c).Nodup := by
    unfold List.Nodup
    rw [List.pairwise_map]
    refine List.Pairwise.imp_of_mem ?_ (List.nodup_range (n := out.length))
    intro i j hi hj hij e
    have hi := List.mem_range.1 hi
    have hj := List.mem_range.1 hj
    obtain ⟨g, hg⟩ := Rep.one ho hi
    obtain ⟨g', hg'⟩ := Rep.one ho hj
    have r1 := (hcf i hi).2 g hg
    have r2 := (hcf j hj).2 g' hg'
    rw [e] at r1
    have := r1.det r2
    subst this
    have := hg.inj hn hg'
    simp at this
    omega
  have := nodup_le t.length _ hnd (fun a ha => by
    obtain ⟨i, hi, rfl⟩ := List.mem_map.1 ha
    exact (hcf i (List.mem_range.1 hi)).1)
  simpa using this

theorem cov_nil (t : List Nd) : Cov t [] := fun i g r => by cases r with | cons h0 hx _ _ => simp at hx

/-- a shared tree is no longer than the list it comes from -/
theorem canon_len {t : List Nd} {la : List Int} {f : F} (r : Rep t la f) : (canon f).length ≤ t.length := by
  have h := cnn_told f List.nodup_nil ord_nil
  exact cov_len h.nd h.ord (cnn_cov r List.nodup_nil ord_nil (cov_nil t))

/-- the nodes of a shared tree have the labels of the list -/
theorem cnn_all {P : Nd → Prop} (hP : ∀ x la, P x → la.length = x.args.length → P ⟨x.op, x.w, x.fl, la, x.imm⟩) {t : List Nd} (ht : ∀ x ∈ t, P x) {la : List Int} {f : F} (r : Rep t la f) : ∀ {out : List Nd}, out.Nodup → Ord out → (∀ x ∈ out, P x) → ∀ x ∈ (cnn f out).1, P x := by
  induction r with
  | nil => intro out _ _ h; exact h
  | @cons a la x kids rest h0 hx hk _ ih1 ih2 =>
    intro out hn ho h
    have t1 := cnn_told kids hn ho
    have c1 := ih1 hn ho h
    simp only [cnn]
    have s2 := addN_spec (y := ⟨x.op, x.w, x.fl, (cnn kids out).2, x.imm⟩) t1.nd
    have o2 := addN_ord (y := ⟨x.op, x.w, x.fl, (cnn kids out).2, x.imm⟩) t1.ord t1.lo
    refine ih2 s2.2.1 o2 fun z hz => ?_
    rcases R.addN_mem.1 hz with hz | rfl
    · exact c1 z hz
    · refine hP x _ (ht x (List.mem_of_getElem? hx)) ?_
      rw [← t1.rep.len, hk.len]

theorem One.root {f : F} (h : One f) : Rep (canon f) [((canon f).length : Int) - 1] f ∧ 1 ≤ (canon f).length := by
  obtain ⟨op, w, fl, imm, kids, rfl⟩ := h
  have h1 := cnn_told (.cons op w fl imm kids .nil) List.nodup_nil ord_nil
  have h2 := cnn_last op w fl imm kids
  have h3 := h1.rep
  rw [h2.1] at h3
  exact ⟨h3, h2.2⟩
theorem canon_ord (f : F) : Ord (canon f) := (cnn_told f List.nodup_nil ord_nil).ord
theorem canon_nodup (f : F) : (canon f).Nodup := (cnn_told f List.nodup_nil ord_nil).nd
theorem InT.one {t : List Nd} {f : F} (h : InT t f) : One f := by
  obtain ⟨k, h⟩ := h
  cases h with
  | cons _ _ _ hr => cases hr; exact ⟨_, _, _, _, _, rfl⟩

/-- the tree of a shared tree is it again -/
theorem canon_again {f : F} {r : Int} (hr : (cnn f []).2 = [r]) : Rep (canon f) [r] f := by
  have h1 := (cnn_told f List.nodup_nil ord_nil).rep
  rw [hr] at h1
  exact h1
end T

namespace R
open T (Nd F)
/-- all trees of a forest -/
def AllT (P : F → Prop) : F → Prop
  | .nil => True
  | .cons op w fl imm kids rest => P (.cons op w fl imm kids .nil) ∧ AllT P kids ∧ AllT P rest
theorem rep_all {t : List Nd} {la : List Int} {f : F} (r : T.Rep t la f) : AllT (T.InT t) f := by
  induction r with
  | nil => trivial
  | @cons a la x kids rest h0 hx hk hr ih1 ih2 => exact ⟨⟨a, .cons h0 hx hk .nil⟩, ih1, ih2⟩

theorem bindV_all {P : F → Prop} {s s' : St} {i : Int} {f : F} (hs : ∀ i f, s.v i = some f → P f) (hf : P f) (h : bindV s i f = some s') : ∀ i f, s'.v i = some f → P f := by
  unfold bindV at h
  split at h
  · cases h
    intro j g hj
    simp only [St.setV] at hj
    split at hj
    · cases hj; exact hf
    · exact hs j g hj
  · split at h
    · cases h; exact hs
    · cases h
theorem bindH_v {s s' : St} {i n : Int} (h : bindH s i n = some s') : s'.v = s.v := by
  unfold bindH at h
  split at h
  · cases h; rfl
  · split at h
    · cases h; rfl
    · cases h
theorem bindV_is {s s' : St} {i : Int} {f : F} (h : bindV s i f = some s') : s'.v i ≠ none ∧ ∀ j, s.v j ≠ none → s'.v j ≠ none := by
  unfold bindV at h
  split at h
  · cases h
    refine ⟨by simp [St.setV], fun j hj => ?_⟩
    simp only [St.setV]
    split
    · simp
    · exact hj
  · rename_i g hg
    split at h
    · cases h; exact ⟨by rw [hg]; simp, fun j hj => hj⟩
    · cases h
theorem bindH_is {s s' : St} {i n : Int} (h : bindH s i n = some s') : s'.h i ≠ none ∧ ∀ j, s.h j ≠ none → s'.h j ≠ none := by
  unfold bindH at h
  split at h
  · cases h
    refine ⟨by simp [St.setH], fun j hj => ?_⟩
    simp only [St.setH]
    split
    · simp
    · exact hj
  · rename_i g hg
    split at h
    · cases h; exact ⟨by rw [hg]; simp, fun j hj => hj⟩
    · cases h

theorem fit_cons {w pop pw pfl pimm op tw fl imm : Int} {pk pr tk tr : F} {s s' : St} (h : fit w (.cons pop pw pfl pimm pk pr) (.cons op tw fl imm tk tr) s = some s') :
    (pop = 33 ∧ ∃ s1, bindV s pimm (.cons op tw fl imm tk .nil) = some s1 ∧ fit w pr tr s1 = some s') ∨ (pop = 34 ∧ op = 0 ∧ ∃ s1, bindH s pimm imm = some s1 ∧ fit w pr tr s1 = some s') ∨
    (pop ≠ 33 ∧ pop ≠ 34 ∧ op = pop ∧ ∃ s1, fit w pk tk s = some s1 ∧ fit w pr tr s1 = some s') := by
  simp only [fit] at h
  by_cases e0 : tw ≠ (if pw = 0 then w else pw)
  · rw [if_pos e0] at h; cases h
  rw [if_neg e0] at h
  by_cases e1 : pop = 33
  · rw [if_pos e1] at h
    obtain ⟨s1, h1, h2⟩ := Option.bind_eq_some_iff.1 h
    exact .inl ⟨e1, s1, h1, h2⟩
  · rw [if_neg e1] at h
    by_cases e2 : pop = 34
    · rw [if_pos e2] at h
      by_cases e3 : op = 0
      · rw [if_pos e3] at h
        obtain ⟨s1, h1, h2⟩ := Option.bind_eq_some_iff.1 h
        exact .inr (.inl ⟨e2, e3, s1, h1, h2⟩)
      · rw [if_neg e3] at h; cases h
    · rw [if_neg e2] at h
      by_cases e5 : op ≠ pop ∨ imm ≠ immAt pop (if pw = 0 then w else pw) pimm ∨ fl ≠ pfl ∨ pk.len ≠ tk.len
      · rw [if_pos e5] at h; cases h
      · rw [if_neg e5] at h
        obtain ⟨s1, h1, h2⟩ := Option.bind_eq_some_iff.1 h
        exact .inr (.inr ⟨e1, e2, Decidable.byContradiction fun h => e5 (.inl h), s1, h1, h2⟩)

theorem fit_vars {P : F → Prop} {w : Int} : ∀ (p t : F), AllT P t → ∀ (s s' : St), (∀ i f, s.v i = some f → P f) → fit w p t s = some s' → ∀ i f, s'.v i = some f → P f := by
  intro p
  induction p with
  | nil => intro t _ s s' hs h; cases t <;> simp [fit] at h; subst h; exact hs
  | cons pop pw pfl pimm pk pr ih1 ih2 =>
    intro t hw s s' hs h
    cases t with
    | nil => simp [fit] at h
    | cons op tw fl imm tk tr =>
      obtain ⟨w0, w1, w2⟩ := hw
      rcases fit_cons h with ⟨_, s1, h1, h2⟩ | ⟨_, _, s1, h1, h2⟩ | ⟨_, _, _, s1, h1, h2⟩
      · exact ih2 tr w2 s1 s' (bindV_all hs w0 h1) h2
      · exact ih2 tr w2 s1 s' (by rw [bindH_v h1]; exact hs) h2
      · exact ih2 tr w2 s1 s' (ih1 tk w1 s s1 hs h1) h2

/-- variables and holes have no operands -/
def Leaf2 : F → Prop
  | .nil => True
  | .cons op _ _ _ kids rest => ((op = 33 ∨ op = 34) → kids = .nil) ∧ Leaf2 kids ∧ Leaf2 rest
theorem rep_leaf2 {p : List Nd} (h : ∀ x ∈ p, (x.op = 33 ∨ x.op = 34) → x.args = []) {la : List Int} {f : F} (r : T.Rep p la f) : Leaf2 f := by
  induction r with
  | nil => trivial
  | cons h0 hx hk _ ih1 ih2 =>
    refine ⟨fun e => ?_, ih1, ih2⟩
    have := h _ (List.mem_of_getElem? hx) e
    rw [this] at hk
    cases hk
    rfl

end R
end Go.Proofs.YtcmlmjbpdaecbaaGreat
end
section
namespace Go.Proofs.YtcmlmjbpdaecbaaGreat
set_option linter.unusedVariables false
set_option linter.unusedSimpArgs false
namespace E
open T

/-- a node of a valid term -/
structure NdOk (x : Nd) : Prop where
  op : 0 ≤ x.op ∧ x.op ≤ 33
  w : 1 ≤ x.w ∧ x.w ≤ 32
  fl : x.fl = 0
  len : x.args.length ≤ 3
  var : x.op = 33 → x.imm < 4 ∧ x.args = []
theorem ar_le {op : Int} (h : 0 ≤ ar op) : 0 ≤ op ∧ op ≤ 33 ∧ ar op ≤ 3 ∧ (op = 33 → ar op = 0) := by
  unfold ar at h ⊢
  split
  · rename_i h1; refine ⟨by omega, by omega, by omega, fun _ => rfl⟩
  · rename_i h1
    rw [if_neg h1] at h
    split
    · rename_i h2; exact ⟨by omega, by omega, by omega, fun e => by omega⟩
    · rename_i h2
      rw [if_neg h2] at h
      split
      · rename_i h3; exact ⟨by omega, by omega, by omega, fun e => by omega⟩
      · rename_i h3
        rw [if_neg h3] at h
        split
        · rename_i h4; exact ⟨by omega, by omega, by omega, fun e => by omega⟩
        · rename_i h4
          rw [if_neg h4] at h
          omega
theorem shaped_ok {k : Nat} {x : Nd} (h : shaped true k x = true) : NdOk x ∧ ∀ a ∈ x.args, 0 ≤ a ∧ a < (k : Int) := by
  unfold shaped at h
  simp only [Bool.and_eq_true, decide_eq_true_eq] at h
  obtain ⟨⟨⟨⟨⟨⟨⟨h1, h2⟩, h3⟩, h4⟩, h5⟩, h6⟩, h7⟩, h8⟩ := h
  obtain ⟨a1, a2, a3, a4⟩ := ar_le h1
  refine ⟨⟨⟨a1, a2⟩, ⟨h2, h3⟩, by simpa using h4, by omega, fun e => ?_⟩, ?_⟩
  · refine ⟨?_, List.length_eq_zero_iff.1 (by have := a4 e; omega)⟩
    unfold immOk at h6
    rw [e] at h6
    simpa using h6
  · unfold argsOk at h8
    rw [List.all_eq_true] at h8
    intro a ha
    have := h8 a ha
    simpa using this
theorem valid_ok {t : List Nd} (h : valid true t = 0) : 1 ≤ t.length ∧ t.length ≤ 300 ∧ (∀ x ∈ t, NdOk x) ∧ Ord t := by
  unfold valid at h
  split at h
  · omega
  · rename_i h1
    split at h
    · omega
    · rename_i h2
      have h3 : (t.zipIdx.all fun p => shaped true p.2 p.1) = true := by simpa using h2
      rw [shaped_all] at h3
      refine ⟨by omega, by omega, fun x hx => ?_, fun k x hx a ha => (shaped_ok (h3 k x hx)).2 a ha⟩
      obtain ⟨k, hk⟩ := List.getElem?_of_mem hx
      exact (shaped_ok (h3 k x hk)).1
theorem valid_ne {t : List Nd} : valid true t = 0 ∨ valid true t = 3 ∨ valid true t = 1 ∨ valid true t = 6 ∨ valid true t = 7 := by
  unfold valid
  repeat' split
  all_goals simp

/-- .. of a shared one -/
theorem canon_ok {t : List Nd} (h : ∀ x ∈ t, NdOk x) (hi : ∀ x ∈ t, 0 ≤ x.imm ∧ x.imm < 4294967296) {la : List Int} {f : F} (r : Rep t la f) : ∀ x ∈ canon f, NdOk x ∧ 0 ≤ x.imm ∧ x.imm < 4294967296 :=
  cnn_all (P := fun x => NdOk x ∧ 0 ≤ x.imm ∧ x.imm < 4294967296) (fun x la hx hl => ⟨⟨hx.1.op, hx.1.w, hx.1.fl, by dsimp only; rw [hl]; exact hx.1.len, fun e => ⟨(hx.1.var e).1, by
    have := (hx.1.var e).2
    rw [this] at hl
    exact List.length_eq_zero_iff.1 hl⟩⟩, hx.2⟩) (fun x hx => ⟨h x hx, hi x hx⟩) r List.nodup_nil ord_nil (fun x hx => by cases hx)
theorem rep_one {t : List Nd} {k : Int} {f : F} (r : Rep t [k] f) : ∃ op w fl imm kids, f = .cons op w fl imm kids .nil := by
  cases r with
  | cons h0 hx hk hr => cases hr; exact ⟨_, _, _, _, _, rfl⟩
theorem canon_root {t : List Nd} {k : Int} {f : F} (r : Rep t [k] f) : Rep (canon f) [((canon f).length : Int) - 1] f ∧ 1 ≤ (canon f).length := by
  obtain ⟨op, w, fl, imm, kids, rfl⟩ := rep_one r
  have h1 := cnn_told (.cons op w fl imm kids .nil) List.nodup_nil ord_nil
  have h2 := cnn_last op w fl imm kids
  have h3 := h1.rep
  rw [h2.1] at h3
  exact ⟨h3, h2.2⟩

/-- Add with the nodes of a shared term: the graph, the number, the error -/
def Gr.addT (s : Gr) (L : List Nd) : Gr × Int × Int :=
  match s.adds [] L with
  | none => (s, 0, 7)
  | some (s1, cl) => if 60 < roots s1.p then (s, 0, 3) else ({ s1 with nm := s1.nm ++ [cl.getD (L.length - 1) 0] }, (s1.nm.length : Int), 0)
/-- Add -/
def AddR (s : Gr) (t : List Nd) (s' : Gr) (no er : Int) : Prop :=
  (valid true t ≠ 0 ∧ s' = s ∧ no = 0 ∧ er = valid true t) ∨ (valid true t = 0 ∧ ∃ f, Rep t [((t.length - 1 : Nat) : Int)] f ∧ (s', no, er) = s.addT (canon f))

theorem vr_get_lt {v : Vr} {i : Nat} (h : i < 4) (x : Int) (j : Nat) (hj : j < 4) : (v.set i x).get j = if j = i then x else v.get j := by
  rcases (show i = 0 ∨ i = 1 ∨ i = 2 ∨ i = 3 by omega) with rfl | rfl | rfl | rfl <;> rcases (show j = 0 ∨ j = 1 ∨ j = 2 ∨ j = 3 by omega) with rfl | rfl | rfl | rfl <;> simp [Vr.set, Vr.get]
theorem Gr.adds_cons (s : Gr) (cl : List Nat) (x : Nd) (l : List Nd) : s.adds cl (x :: l) = match s.vars x with
    | none => none
    | some s1 => Gr.adds (s1.put (opOf cl x)).1 (cl ++ [(s1.put (opOf cl x)).2.1]) l := rfl
theorem Gr.vars_eq {s s1 : Gr} {x : Nd} (h : s.vars x = some s1) : s1.p = s.p ∧ s1.wd = s.wd ∧ s1.es = s.es ∧ s1.nm = s.nm := by
  unfold Gr.vars at h
  split at h
  · split at h
    · cases h
    · cases h; exact ⟨rfl, rfl, rfl, rfl⟩
  · cases h; exact ⟨rfl, rfl, rfl, rfl⟩
end E
end Go.Proofs.YtcmlmjbpdaecbaaGreat
end
section
namespace Go.Proofs.YtcmlmjbpdaecbaaGreat
open Go.RowKit Go.MapKept Go.Maps Go.WideMaps
set_option linter.unusedVariables false
set_option linter.unusedSimpArgs false

theorem twf_of {t : List T.Nd} (h : ∀ x ∈ t, E.NdOk x) (ho : T.Ord t) : TWf t :=
  ⟨ho, fun x hx => ⟨⟨by have := (h x hx).op; omega, by have := (h x hx).op; omega⟩, ⟨by have := (h x hx).w; omega, by have := (h x hx).w; omega⟩, (h x hx).fl⟩, fun x hx => (h x hx).len⟩

set_option maxRecDepth 100000 in
set_option maxHeartbeats 2000000 in
theorem gShare_any (t : List T.Nd) (n ct : Nat) (At : Option Addr) (W : World) (hT : StAt 5 NdR W At n t) :
    Calls Tryz.prog 66 #[.slice At n ct] W fun e W' => Below W.heap.size W W' ∧ ((T.valid true t ≠ 0 ∧ e = .returned (.tuple #[.slice none 0 0, .int .i64 (T.valid true t)])) ∨
      (T.valid true t = 0 ∧ ∃ fr A' c', T.Rep t [((t.length - 1 : Nat) : Int)] fr ∧ e = .returned (.tuple #[.slice A' (T.canon fr).length c', .int .i64 0]) ∧ StAt 5 NdR W' A' (T.canon fr).length (T.canon fr))) := by
  have Hv := Lib.hid (pValidate_any t n ct At W hT)
  have Hl := Lib.hid hT.len
  have HT := Lib.hid hT
  clear hT
  obtain ⟨v, hv⟩ : ∃ v, T.valid true t = v := ⟨_, rfl⟩
  rw [hv] at Hv
  have HV := Lib.hid hv
  clear hv
  go_enter Tryz.func66, Tryz.ntmps66
  go_wp2_with fail
  (with_reducible refine Hv.out.mono ?_)
  rintro e w2 ⟨rfl, hb⟩
  have Hb := Lib.hid hb
  clear hb
  by_cases h0 : v = 0
  · subst h0
    obtain ⟨l1, l2, l3, l4⟩ := E.valid_ok HV.out
    have hn : t.length = n := Hl.out
    obtain ⟨fr, hfr⟩ := T.Rep.one l4 (k := t.length - 1) (by omega)
    have Hsh := Lib.hid (gpart_any (ct := ct) (HT.out.below monoNd Hb.out) (twf_of l3 l4) (by omega) (t.length - 1) (by omega) fr hfr)
    have Hfr := Lib.hid hfr
    have Hi1 := Lib.hid (show (n : Int) - 1 = ((t.length - 1 : Nat) : Int) from by omega)
    have hn1 : 1 ≤ n := by omega
    have hn3 : n ≤ 300 := by omega
    clear hfr l1 l2 l3 l4 hn
    go_wp2_with fail
    rw [Hi1.out]
    (with_reducible refine Hsh.out.mono ?_)
    rintro e w3 ⟨A', c', rfl, hst, hb3, _⟩
    have Hst := Lib.hid hst
    have Hb3 := Lib.hid (Hb.out.trans (hb3.mono Hb.out.size))
    clear hst hb3
    go_wp2
    refine bodyPost_ret (results_tmp2 rfl _ _ _) rfl ?_
    exact ⟨Hb3.out, .inr ⟨HV.out, fr, A', c', Hfr.out, rfl, Hst.out⟩⟩
  · have q : (v != 0) = true := by simpa using h0
    have H0 := Lib.hid h0
    clear h0
    go_wp2
    refine bodyPost_ret (results_tmp2 rfl _ _ _) rfl ?_
    exact ⟨Hb.out, .inl ⟨by rw [HV.out]; exact H0.out, by rw [HV.out]; rfl⟩⟩
end Go.Proofs.YtcmlmjbpdaecbaaGreat
end
