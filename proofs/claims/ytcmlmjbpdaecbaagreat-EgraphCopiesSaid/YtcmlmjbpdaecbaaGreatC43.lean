/- Merged: PlainED, PlainEE. -/
import Derived.Test.YtcmlmjbpdaecbaaGreatC26
import Derived.Test.YtcmlmjbpdaecbaaGreatC20
set_option linter.unusedVariables false
set_option linter.unusedSimpArgs false
section
namespace Go.Proofs.YtcmlmjbpdaecbaaGreat
set_option linter.unusedVariables false
set_option linter.unusedSimpArgs false
namespace E
open T

/-- a graph to which these trees were added, and nothing was told; c: the widths of all variables -/
structure Fresh (s : Gr) (out : List Nd) (rs : List F) (c : Nat → Int) : Prop where
  fr : Fr s out
  nm : s.nm.length = rs.length
  named : ∀ (k : Nat) (f : F), rs[k]? = some f → ∃ i : Nat, s.nm[k]? = some i ∧ Rep out [(i : Int)] f
  sub : ∀ i : Nat, i < out.length → ∃ f, Rep out [(i : Int)] f ∧ ∃ r ∈ rs, Sub f r
  vr : ∀ v, v < 4 → s.vr.get v = 0 ∨ s.vr.get v = c v
  vs : ∀ r ∈ rs, ∀ w imm ks, Sub (.cons 33 w 0 imm ks .nil) r → imm.toNat < 4 ∧ 0 ≤ imm ∧ s.vr.get imm.toNat = w ∧ w ≠ 0

theorem fresh_new (c : Nat → Int) : Fresh Gr.new [] [] c :=
  ⟨⟨rfl, rfl, rfl, ⟨List.nodup_nil, ord_nil, (fun x h => by cases h), (fun x h => by cases h)⟩⟩, rfl, (fun k f h => by simp at h), (fun i h => by simp at h), fun v hv => .inl (by
    rcases (show v = 0 ∨ v = 1 ∨ v = 2 ∨ v = 3 by omega) with rfl | rfl | rfl | rfl <;> rfl), (fun r h => by cases h)⟩

/-- the state while the nodes of one tree are put in -/
structure FrB (s0 : Gr) (L : List Nd) (f : F) (rs : List F) (s : Gr) (out : List Nd) (k : Nat) (cl : List Nat) : Prop where
  fa : FrA s out L k cl
  nm : s.nm = s0.nm
  pre : ∀ (la : List Int) (g : F), (∃ out0, Fr s0 out0 ∧ Rep out0 la g) → Rep out la g
  sub : ∀ i : Nat, i < out.length → ∃ g, Rep out [(i : Int)] g ∧ ((∃ r ∈ rs, Sub g r) ∨ Sub g f)
  vk : ∀ v, v < 4 → s0.vr.get v ≠ 0 → s.vr.get v = s0.vr.get v
  vn : ∀ i x, i < k → L[i]? = some x → x.op = 33 → s.vr.get x.imm.toNat = x.w

theorem mem_addN {out : List Nd} {y z : Nd} : z ∈ (addN out y).1 ↔ z ∈ out ∨ z = y := by
  unfold addN
  by_cases h : y ∈ out
  · rw [if_pos h]; exact ⟨.inl, fun k => k.elim id fun e => e ▸ h⟩
  · rw [if_neg h]; simp

/-- a node is put in -/
theorem FrB.step {s0 : Gr} {L : List Nd} {f : F} {rs : List F} {s : Gr} {out : List Nd} {k : Nat} {cl : List Nat} (h : FrB s0 L f rs s out k cl) (hL : L = canon f) (hk : ∀ x ∈ L, NdOk x ∧ 0 ≤ x.imm ∧ x.imm < 4294967296) {x : Nd} (hx : L[k]? = some x) {s1 : Gr} (hv : s.vars x = some s1) :
    ∃ out', FrB s0 L f rs (s1.put (opOf cl x)).1 out' (k + 1) (cl ++ [(s1.put (opOf cl x)).2.1]) := by
  obtain ⟨e1, e2, e3, e4⟩ := Gr.vars_eq hv
  have hxk := (hk x (List.mem_of_getElem? hx)).1
  have hxi := (hk x (List.mem_of_getElem? hx)).2
  have hLo : Ord L := hL ▸ canon_ord f
  have hfa1 : FrA s1 out L k cl := ⟨⟨by rw [e1]; exact h.fa.fr.p, by rw [e2]; exact h.fa.fr.wd, by rw [e3]; exact h.fa.fr.es, h.fa.fr.wl⟩, h.fa.len, h.fa.rep⟩
  obtain ⟨q1, q2, q3, q4⟩ := hfa1.step hLo hx hxk.len hxk.fl
  obtain ⟨y, hy⟩ : ∃ y : Nd, y = ⟨x.op, x.w, x.fl, x.args.map fun a => ((cl.getD a.toNat 0 : Nat) : Int), x.imm⟩ := ⟨_, rfl⟩
  rw [← hy] at q1
  have hsp := addN_spec (y := y) h.fa.fr.wl.nd
  have hvg : ∀ v, v < 4 → s1.vr.get v = if x.op = 33 ∧ v = x.imm.toNat then x.w else s.vr.get v := fun v hv4 => by
    unfold Gr.vars at hv
    split at hv
    · rename_i h33
      split at hv
      · cases hv
      · cases hv
        dsimp only
        rw [vr_get_lt (by have := (hxk.var h33).1; omega) x.w v hv4]
        by_cases hvv : v = x.imm.toNat
        · rw [if_pos hvv, if_pos ⟨h33, hvv⟩]
        · rw [if_neg hvv, if_neg (fun h => hvv h.2)]
    · rename_i h33
      cases hv
      rw [if_neg (fun h => h33 h.1)]
  have hkeep : x.op = 33 → s.vr.get x.imm.toNat ≠ 0 → s.vr.get x.imm.toNat = x.w := fun h33 hne => by
    unfold Gr.vars at hv
    rw [if_pos h33] at hv
    split at hv
    · cases hv
    · rename_i hn
      exact Classical.byContradiction fun hw => hn ⟨hne, hw⟩
  refine ⟨(addN out y).1, q1, q2.trans (e4.trans h.nm), fun la g hg => (h.pre la g hg).mono fun i z hz => pre_at hsp.1 i z hz, fun i hi => ?_, fun v hv4 hne => ?_, fun i z hi hz hz33 => ?_⟩
  · -- the trees
    rcases Nat.lt_or_ge i out.length with hio | hio
    · obtain ⟨g, r, hs⟩ := h.sub i hio
      exact ⟨g, r.mono fun i z hz => pre_at hsp.1 i z hz, hs⟩
    · -- the new node
      have hlast := q1.rep k ((s1.put (opOf cl x)).2.1) (by rw [← h.fa.len]; simp)
      obtain ⟨g, r1, r2⟩ := hlast
      have hkl : k < (canon f).length := by rw [← hL]; exact (List.getElem?_eq_some_iff.1 hx).1
      obtain ⟨g', r1', hsub⟩ := canon_sub hkl
      rw [← hL] at r1'
      have := r1.det r1'
      subst this
      have hlen : (addN out y).1.length ≤ out.length + 1 := addN_len
      have hnm : y ∉ out := fun hm => by
        unfold addN at hi
        rw [if_pos hm] at hi
        dsimp only at hi
        omega
      have hie : (i : Int) = (addN out y).2 := by
        have : i = out.length := by omega
        unfold addN
        rw [if_neg hnm]
        dsimp only
        rw [List.idxOf_eq_length hnm]
        omega
      -- the class of the new node is its number
      have hnw : Nw y := by
        refine ⟨?_, ?_, ?_⟩
        · rw [hy]; simpa using hxk.len
        · rw [hy]; intro a ha; obtain ⟨b, _, rfl⟩ := List.mem_map.1 ha; omega
        · rw [hy]; exact hxk.fl
      have hya : ∀ a ∈ y.args, a < (out.length : Int) := by
        have har := q4
        have hp : s1.p.length = out.length := by rw [hfa1.fr.p]; simp
        rw [hp] at har
        have hoy : opOf cl x = opn y := by rw [hy]; rfl
        rw [hoy] at har
        intro a ha
        obtain ⟨j, hj⟩ := List.getElem?_of_mem ha
        have hj3 : j < 3 := by have := (List.getElem?_eq_some_iff.1 hj).1; have := hnw.len; omega
        have hao : ArOk out.length a := by
          rcases (show j = 0 ∨ j = 1 ∨ j = 2 by omega) with rfl | rfl | rfl
          · have := har.1; simp only [opn, List.getD_eq_getElem?_getD, hj, Option.getD_some] at this; exact this
          · have := har.2.1; simp only [opn, List.getD_eq_getElem?_getD, hj, Option.getD_some] at this; exact this
          · have := har.2.2; simp only [opn, List.getD_eq_getElem?_getD, hj, Option.getD_some] at this; exact this
        rcases hao with h1 | h1
        · have := hnw.lo a ha; omega
        · exact h1.2
      have hcls := (hfa1.fr.put hnw hya).2.1
      have hoy : opOf cl x = opn y := by rw [hy]; rfl
      rw [hoy] at r2
      rw [← hcls] at hie
      rw [hie]
      exact ⟨g, r2, .inr hsub⟩
  · rw [q3, hvg v hv4]
    split
    · rename_i hc
      have h1 := h.vk v hv4 hne
      have := hkeep hc.1 (by rw [← hc.2, h1]; exact hne)
      rw [← hc.2, h1] at this
      exact this.symm
    · exact h.vk v hv4 hne
  · have hz' := hk z (List.mem_of_getElem? hz)
    have hz4 : z.imm.toNat < 4 := by have := (hz'.1.var hz33).1; omega
    rw [q3, hvg _ hz4]
    by_cases hik : i = k
    · subst hik
      rw [hx] at hz
      cases hz
      rw [if_pos ⟨hz33, rfl⟩]
    · have h1 := h.vn i z (by omega) hz hz33
      split
      · rename_i hc
        have := hkeep hc.1 (by rw [← hc.2, h1]; have := hz'.1.w; omega)
        rw [← hc.2, h1] at this
        exact this.symm
      · exact h1
theorem adds_frB {s0 : Gr} {L : List Nd} {f : F} {rs : List F} (hL : L = canon f) (hk : ∀ x ∈ L, NdOk x ∧ 0 ≤ x.imm ∧ x.imm < 4294967296) : ∀ (l : List Nd) (k : Nat) (s : Gr) (cl : List Nat) (out : List Nd), L.drop k = l → FrB s0 L f rs s out k cl → ∀ (s' : Gr) (cl' : List Nat), s.adds cl l = some (s', cl') → ∃ out', FrB s0 L f rs s' out' L.length cl' := by
  intro l
  induction l with
  | nil =>
    intro k s cl out hd h s' cl' ha
    cases ha
    have hkl : L.length ≤ k := by
      have := congrArg List.length hd
      simp at this
      omega
    refine ⟨out, ?_⟩
    have hck := h.fa.len
    by_cases e : k = L.length
    · subst e; exact h
    · exfalso
      have hlast := h.fa.rep L.length
      have hc : L.length < cl.length := by omega
      obtain ⟨g, r, _⟩ := hlast cl[L.length] (List.getElem?_eq_getElem hc)
      cases r with
      | cons h0 hx _ _ => have := (List.getElem?_eq_some_iff.1 hx).1; simp at this
  | cons x l ih =>
    intro k s cl out hd h s' cl' ha
    have hx : L[k]? = some x := by
      have := congrArg (fun m => m[0]?) hd
      simpa using this
    have hd2 : L.drop (k + 1) = l := by
      have := congrArg List.tail hd
      simpa using this
    rw [Gr.adds_cons] at ha
    cases hv : s.vars x with
    | none => rw [hv] at ha; cases ha
    | some s1 =>
      rw [hv] at ha
      obtain ⟨out', h'⟩ := h.step hL hk hx hv
      exact ih (k + 1) _ _ out' hd2 h' s' cl' ha

theorem range_roots (n : Nat) : roots (List.range n) = n := by
  unfold roots
  rw [List.length_range]
  have : (List.range n).countP (fun c => decide (root (List.range n) c = c)) = (List.range n).length := by
    rw [List.countP_eq_length]
    intro c _
    simp [range_root]
  rw [this, List.length_range]

theorem Fresh.start {s : Gr} {out : List Nd} {rs : List F} {c : Nat → Int} (h : Fresh s out rs c) (L : List Nd) (f : F) : FrB s L f rs s out 0 [] :=
  ⟨⟨h.fr, rfl, fun i c hc => by simp at hc⟩, rfl, fun la g ⟨o, h1, h2⟩ => by
    have : ops o = ops out := h1.es.symm.trans h.fr.es
    have e : o = out := by
      have hl : o.length = out.length := by have := congrArg List.length this; rw [ops_len, ops_len] at this; exact this
      apply List.ext_getElem?
      intro i
      cases hi : o[i]? with
      | none => rw [List.getElem?_eq_none_iff] at hi; rw [List.getElem?_eq_none (by omega)]
      | some x =>
        have h3 := (mem_ops (l := out) (e := (opn x, i))).1 (by rw [← this]; exact mem_ops.2 ⟨i, x, hi, rfl⟩)
        obtain ⟨j, y, hj, e⟩ := h3
        simp only [Prod.mk.injEq] at e
        obtain ⟨e1, e2⟩ := e
        subst e2
        rw [hj]
        exact congrArg some (opn_eq (h1.wl.nw x (List.mem_of_getElem? hi)) (h.fr.wl.nw y (List.mem_of_getElem? hj)) e1)
    exact e ▸ h2, fun i hi => by
    obtain ⟨g, r, hs⟩ := h.sub i hi
    exact ⟨g, r, .inl hs⟩, fun v _ _ => rfl, fun i x hi => by omega⟩

/-- a tree is added -/
theorem Fresh.add {s : Gr} {out : List Nd} {rs : List F} {c : Nat → Int} (h : Fresh s out rs c) {f : F} (hk : ∀ x ∈ canon f, NdOk x ∧ 0 ≤ x.imm ∧ x.imm < 4294967296) (hroot : Rep (canon f) [((canon f).length : Int) - 1] f ∧ 1 ≤ (canon f).length) {s' : Gr} {no : Int} (ha : s.addT (canon f) = (s', no, 0)) {c' : Nat → Int} (hc' : ∀ v, v < 4 → s'.vr.get v = 0 ∨ s'.vr.get v = c' v) :
    ∃ out', Fresh s' out' (rs ++ [f]) c' ∧ out'.length ≤ 60 ∧ ∀ g, (∃ i : Nat, Rep out [(i : Int)] g) → ∃ i : Nat, Rep out' [(i : Int)] g := by
  unfold Gr.addT at ha
  cases hadd : s.adds [] (canon f) with
  | none => rw [hadd] at ha; simp at ha
  | some r =>
    obtain ⟨s1, cl⟩ := r
    rw [hadd] at ha
    dsimp only at ha
    split at ha
    · simp at ha
    · rename_i h60
      obtain ⟨out', hB⟩ := adds_frB (rs := rs) rfl hk (canon f) 0 s [] out (by simp) (h.start _ f) s1 cl hadd
      simp only [Prod.mk.injEq] at ha
      obtain ⟨hs', _, _⟩ := ha
      have hp1 : s1.p = List.range out'.length := hB.fa.fr.p
      rw [hp1, range_roots] at h60
      have hlast : cl[(canon f).length - 1]? = some (cl.getD ((canon f).length - 1) 0) := by
        rw [List.getD_eq_getElem?_getD, List.getElem?_eq_getElem (by rw [hB.fa.len]; omega)]; rfl
      obtain ⟨g, r1, r2⟩ := hB.fa.rep _ _ hlast
      rw [show (((canon f).length - 1 : Nat) : Int) = ((canon f).length : Int) - 1 by omega] at r1
      have := r1.det hroot.1
      subst this
      have hpre : ∀ (la : List Int) (g : F), Rep out la g → Rep out' la g := fun la g r => hB.pre la g ⟨out, h.fr, r⟩
      have hnm1 : s1.nm = s.nm := hB.nm
      refine ⟨out', ⟨?_, ?_, ?_, ?_, hc', ?_⟩, by omega, fun g ⟨i, r⟩ => ⟨i, hpre _ _ r⟩⟩
      · rw [← hs']; exact ⟨hB.fa.fr.p, hB.fa.fr.wd, hB.fa.fr.es, hB.fa.fr.wl⟩
      · rw [← hs']; simp [hnm1, h.nm]
      · intro k q hq
        rw [← hs']
        dsimp only
        rw [hnm1]
        rcases Nat.lt_or_ge k rs.length with hkr | hkr
        · rw [List.getElem?_append_left hkr] at hq
          obtain ⟨i, h1, h2⟩ := h.named k q hq
          exact ⟨i, by rw [List.getElem?_append_left (by rw [h.nm]; exact hkr)]; exact h1, hpre _ _ h2⟩
        · rw [List.getElem?_append_right hkr] at hq
          have hk0 : k - rs.length = 0 := by
            rcases Nat.eq_zero_or_pos (k - rs.length) with e | e
            · exact e
            · rw [List.getElem?_eq_none (by simp; omega)] at hq; cases hq
          rw [hk0] at hq
          simp at hq
          subst hq
          refine ⟨cl.getD ((canon g).length - 1) 0, ?_, r2⟩
          rw [List.getElem?_append_right (by rw [h.nm]; omega), h.nm, hk0]
          rfl
      · intro i hi
        obtain ⟨g', r, hs⟩ := hB.sub i hi
        refine ⟨g', r, ?_⟩
        rcases hs with ⟨q, hq, hs⟩ | hs
        · exact ⟨q, List.mem_append_left _ hq, hs⟩
        · exact ⟨g, by simp, hs⟩
      · intro q hq w imm ks hs
        rcases List.mem_append.1 hq with hq | hq
        · obtain ⟨h1, h2, h3, h4⟩ := h.vs q hq w imm ks hs
          refine ⟨h1, h2, ?_, h4⟩
          rw [← hs']
          exact (hB.vk _ h1 (by rw [h3]; exact h4)).trans h3
        · simp at hq
          subst hq
          obtain ⟨i, ri⟩ := rep_sub hroot.1 hs
          generalize he : F.cons 33 w 0 imm ks .nil = fx at ri
          cases ri with
          | @cons _ _ x kids rest h0 hx hkk hr =>
            injection he with e1 e2 e3 e4 e5 e6
            have hx' : (canon q)[i]? = some x := by simpa using hx
            have hxk := hk x (List.mem_of_getElem? hx')
            have hi := (List.getElem?_eq_some_iff.1 hx').1
            have hvn := hB.vn i x hi hx' e1.symm
            refine ⟨?_, ?_, ?_, ?_⟩
            · have := (hxk.1.var e1.symm).1; omega
            · omega
            · rw [← hs', e4, e2]; exact hvn
            · have := hxk.1.w; omega

/-- the nodes of a term go in where its variables have the widths that are asked for -/
theorem adds_go {c : Nat → Int} : ∀ (l : List Nd) (s : Gr) (cl : List Nat), (∀ x ∈ l, NdOk x ∧ 0 ≤ x.imm) → (∀ v, v < 4 → s.vr.get v = 0 ∨ s.vr.get v = c v) → (∀ x ∈ l, x.op = 33 → c x.imm.toNat = x.w) → ∃ s' cl', s.adds cl l = some (s', cl') ∧ ∀ v, v < 4 → s'.vr.get v = 0 ∨ s'.vr.get v = c v := by
  intro l
  induction l with
  | nil => intro s cl _ hv _; exact ⟨s, cl, rfl, hv⟩
  | cons x l ih =>
    intro s cl hk hv hc
    rw [Gr.adds_cons]
    have hxk := hk x (List.mem_cons_self ..)
    have hxc := hc x (List.mem_cons_self ..)
    have hput : ∀ (u : Gr) (o : Opn), (u.put o).1.vr = u.vr := fun u o => by
      unfold Gr.put; split <;> rfl
    by_cases h33 : x.op = 33
    · have h4 : x.imm.toNat < 4 := by have := (hxk.1.var h33).1; omega
      have hok : ¬ (s.vr.get x.imm.toNat ≠ 0 ∧ s.vr.get x.imm.toNat ≠ x.w) := fun ⟨h1, h2⟩ => by
        rcases hv _ h4 with h | h
        · exact h1 h
        · exact h2 (h.trans (hxc h33))
      have hvs : s.vars x = some { s with vr := s.vr.set x.imm.toNat x.w } := by unfold Gr.vars; rw [if_pos h33, if_neg hok]
      rw [hvs]
      refine ih _ _ (fun z hz => hk z (List.mem_cons_of_mem _ hz)) (fun v hv4 => ?_) (fun z hz => hc z (List.mem_cons_of_mem _ hz))
      rw [hput]
      dsimp only
      rw [vr_get_lt h4 _ _ hv4]
      split
      · rename_i e; exact .inr (by rw [e, hxc h33])
      · exact hv v hv4
    · have hvs : s.vars x = some s := by unfold Gr.vars; rw [if_neg h33]
      rw [hvs]
      refine ih _ _ (fun z hz => hk z (List.mem_cons_of_mem _ hz)) (fun v hv4 => ?_) (fun z hz => hc z (List.mem_cons_of_mem _ hz))
      rw [hput]
      exact hv v hv4

/-- a tree goes in where there is room for all that is there -/
theorem Fresh.canAdd {s : Gr} {out : List Nd} {rs : List F} {c : Nat → Int} (h : Fresh s out rs c) {f : F} (hk : ∀ x ∈ canon f, NdOk x ∧ 0 ≤ x.imm ∧ x.imm < 4294967296) (hc : ∀ x ∈ canon f, x.op = 33 → c x.imm.toNat = x.w) {og : List Nd} (hog : og.length ≤ 60) (hall : ∀ g, ((∃ r ∈ rs, Sub g r) ∨ Sub g f) → ∃ j : Nat, Rep og [(j : Int)] g) :
    ∃ s' no, s.addT (canon f) = (s', no, 0) ∧ ∀ v, v < 4 → s'.vr.get v = 0 ∨ s'.vr.get v = c v := by
  obtain ⟨s1, cl, ha, hv1⟩ := adds_go (c := c) (canon f) s [] (fun x hx => ⟨(hk x hx).1, (hk x hx).2.1⟩) h.vr hc
  obtain ⟨out', hB⟩ := adds_frB (rs := rs) rfl hk (canon f) 0 s [] out (by simp) (h.start _ f) s1 cl ha
  have hlen : out'.length ≤ og.length := by
    have := len_le (fun (i j : Nat) => Tw out' og i j) (List.range out'.length) (List.range og.length) List.nodup_range (fun i hi => ?_) (fun i hi i' hi' j h1 h2 => h1.symm.fun_ hB.fa.fr.wl.nd h2.symm)
    · simpa using this
    · obtain ⟨g, r, hs⟩ := hB.sub i (List.mem_range.1 hi)
      obtain ⟨j, rj⟩ := hall g hs
      exact ⟨j, List.mem_range.2 (Tw.lt (og := out') ⟨g, r, rj⟩).2, g, r, rj⟩
  refine ⟨{ s1 with nm := s1.nm ++ [cl.getD ((canon f).length - 1) 0] }, (s1.nm.length : Int), ?_, hv1⟩
  unfold Gr.addT
  rw [ha]
  dsimp only
  rw [hB.fa.fr.p, range_roots, if_neg (by omega)]
end E
end Go.Proofs.YtcmlmjbpdaecbaaGreat
end
section
namespace Go.Proofs.YtcmlmjbpdaecbaaGreat
set_option linter.unusedVariables false
set_option linter.unusedSimpArgs false
namespace E
open T

/-- what was told: pairs of numbers whose classes have one width -/
def Told2 (nm : List Nat) (wd : List Int) (D : List (Int × Int)) (a b : Nat) : Prop := ∃ q ∈ D, (nmOk nm q.1 && nmOk nm q.2) = true ∧ a = nm.getD q.1.toNat 0 ∧ b = nm.getD q.2.toNat 0 ∧ wd.getD a 0 = wd.getD b 0

/-- the parents and operations of a graph to which D was told -/
structure Uni (s0 : Gr) (out : List Nd) (D : List (Int × Int)) (p : List Nat) (es : List (Opn × Nat)) : Prop where
  holds : Holds (ops out) (Told2 s0.nm s0.wd D) p es
  len : p.length = out.length

theorem ops_nodup {out : List Nd} (h : Wl out) : ((ops out).map Prod.fst).Nodup := by
  have key : ∀ (l : List Nd) (k : Nat), l.Nodup → (∀ x ∈ l, Nw x) → ((opsF k l).map Prod.fst).Nodup := by
    intro l
    induction l with
    | nil => intro k _ _; exact List.nodup_nil
    | cons x l ih =>
      intro k hn hw
      rw [List.nodup_cons] at hn
      simp only [opsF, List.map_cons, List.nodup_cons]
      refine ⟨fun hm => ?_, ih (k + 1) hn.2 fun y hy => hw y (List.mem_cons_of_mem _ hy)⟩
      obtain ⟨e, he, e1⟩ := List.mem_map.1 hm
      obtain ⟨i, y, hy, rfl⟩ := mem_opsF.1 he
      have := opn_eq (hw y (List.mem_cons_of_mem _ (List.mem_of_getElem? hy))) (hw x (List.mem_cons_self ..)) e1
      subst this
      exact hn.1 (List.mem_of_getElem? hy)
  exact key out 0 h.nd h.nw
theorem Uni.start {s0 : Gr} {out : List Nd} (h : Fr s0 out) : Uni s0 out [] s0.p s0.es := by
  have hd : Down s0.p := fun c hc => by
    rw [h.p] at hc ⊢
    rw [List.length_range] at hc
    rw [List.getD_eq_getElem?_getD, List.getElem?_range hc]; exact Nat.le_refl _
  refine ⟨?_, by rw [h.p]; simp⟩
  have hs := holds_start (E0 := ops out) (p := s0.p) (fun c => by rw [h.p]; exact range_root _ _) hd (fun e he => ?_) (ops_nodup h.wl)
  · rw [h.es]
    exact hs.iff fun x y => ⟨fun h => h.elim, fun ⟨q, hq, _⟩ => by cases hq⟩
  · obtain ⟨i, x, hx, rfl⟩ := mem_ops.1 he
    have := (List.getElem?_eq_some_iff.1 hx).1
    rw [h.p]; simpa using this

/-- classes that are one have one width -/
theorem Uni.width {s0 : Gr} {out : List Nd} {D : List (Int × Int)} {p : List Nat} {es : List (Opn × Nat)} (h : Uni s0 out D p es) (hf : Fr s0 out) {a b : Nat} (e : root p a = root p b) : s0.wd.getD a 0 = s0.wd.getD b 0 := by
  refine (h.holds.eq a b).1 e (fun x y => s0.wd.getD x 0 = s0.wd.getD y 0) ⟨fun _ => rfl, fun _ _ h => h.symm, fun _ _ _ h k => h.trans k⟩ (fun y hy z hz s => ?_) (fun x y ⟨q, _, _, _, _, hw⟩ => hw)
  obtain ⟨i, x, hx, rfl⟩ := mem_ops.1 hy
  obtain ⟨j, x', hx', rfl⟩ := mem_ops.1 hz
  dsimp only
  rw [hf.wd, List.getD_eq_getElem?_getD, List.getD_eq_getElem?_getD, List.getElem?_map, List.getElem?_map, hx, hx']
  exact s.1.2.1
theorem join_roots {p : List Nat} (hd : Down p) (a b : Nat) : join p (root p a) (root p b) = join p a b := by
  unfold join; rw [root_root hd, root_root hd]
theorem root_w {s0 : Gr} {out : List Nd} {D : List (Int × Int)} {p : List Nat} {es : List (Opn × Nat)} (h : Uni s0 out D p es) (hf : Fr s0 out) (a : Nat) : s0.wd.getD (root p a) 0 = s0.wd.getD a 0 := h.width hf (root_root h.holds.down a)

/-- a pair is told -/
theorem Uni.ok {s0 : Gr} {out : List Nd} {D : List (Int × Int)} {p : List Nat} {es : List (Opn × Nat)} (h : Uni s0 out D p es) (hf : Fr s0 out) (hnm : ∀ c ∈ s0.nm, c < out.length) {x y : Int} (hok : (nmOk s0.nm x && nmOk s0.nm y) = true) (hw : s0.wd.getD (nr p s0.nm x) 0 = s0.wd.getD (nr p s0.nm y) 0) {p1 : List Nat} {es1 : List (Opn × Nat)} (hs : Shut (join p (nr p s0.nm x) (nr p s0.nm y)) es p1 es1) : Uni s0 out (D ++ [(x, y)]) p1 es1 := by
  have hlt : ∀ z, nmOk s0.nm z = true → s0.nm.getD z.toNat 0 < p.length := fun z hz => by
    simp [nmOk] at hz
    rw [h.len]
    refine hnm _ ?_
    rw [List.getD_eq_getElem?_getD, List.getElem?_eq_getElem (by omega)]
    exact List.getElem_mem _
  rw [Bool.and_eq_true] at hok
  unfold nr at hs hw
  rw [join_roots h.holds.down] at hs
  rw [root_w h hf, root_w h hf] at hw
  have hj := h.holds.unite (hlt x hok.1) (hlt y hok.2) hs
  refine ⟨hj.iff fun a b => ⟨?_, ?_⟩, hs.mid.len.trans (by rw [join_len, h.len])⟩
  · rintro (⟨q, hq, r⟩ | ⟨rfl, rfl⟩)
    · exact ⟨q, List.mem_append_left _ hq, r⟩
    · exact ⟨(x, y), by simp, by rw [Bool.and_eq_true]; exact hok, rfl, rfl, hw⟩
  · rintro ⟨q, hq, r⟩
    rcases List.mem_append.1 hq with hq | hq
    · exact .inl ⟨q, hq, r⟩
    · simp at hq
      subst hq
      exact .inr ⟨r.2.1, r.2.2.1⟩
/-- a pair is refused -/
theorem Uni.no {s0 : Gr} {out : List Nd} {D : List (Int × Int)} {p : List Nat} {es : List (Opn × Nat)} (h : Uni s0 out D p es) (hf : Fr s0 out) {x y : Int} (hno : (nmOk s0.nm x && nmOk s0.nm y) = false ∨ s0.wd.getD (nr p s0.nm x) 0 ≠ s0.wd.getD (nr p s0.nm y) 0) : Uni s0 out (D ++ [(x, y)]) p es := by
  refine ⟨h.holds.iff fun a b => ⟨fun ⟨q, hq, r⟩ => ⟨q, List.mem_append_left _ hq, r⟩, ?_⟩, h.len⟩
  rintro ⟨q, hq, r⟩
  rcases List.mem_append.1 hq with hq | hq
  · exact ⟨q, hq, r⟩
  · simp at hq
    subst hq
    exfalso
    obtain ⟨r1, r2, r3, r4⟩ := r
    rcases hno with h1 | h1
    · rw [r1] at h1; cases h1
    · unfold nr at h1
      rw [root_w h hf, root_w h hf] at h1
      rw [r2, r3] at r4
      exact h1 r4

/-- all pairs in range, the other way round -/
def back (n : Nat) (D : List (Int × Int)) : List (Int × Int) := (D.reverse.filter fun q => decide (0 ≤ q.1) && decide (q.1 < (n : Int)) && decide (0 ≤ q.2) && decide (q.2 < (n : Int))).map fun q => ((n : Int) - 1 - q.1, (n : Int) - 1 - q.2)
theorem mem_back {n : Nat} {D : List (Int × Int)} {q : Int × Int} : q ∈ back n D ↔ ∃ r ∈ D, (0 ≤ r.1 ∧ r.1 < (n : Int)) ∧ (0 ≤ r.2 ∧ r.2 < (n : Int)) ∧ q = ((n : Int) - 1 - r.1, (n : Int) - 1 - r.2) := by
  unfold back
  simp only [List.mem_map, List.mem_filter, List.mem_reverse, Bool.and_eq_true, decide_eq_true_eq]
  constructor
  · rintro ⟨r, ⟨h1, ⟨⟨h2, h3⟩, h4⟩, h5⟩, rfl⟩; exact ⟨r, h1, ⟨h2, h3⟩, ⟨h4, h5⟩, rfl⟩
  · rintro ⟨r, h1, ⟨h2, h3⟩, ⟨h4, h5⟩, rfl⟩; exact ⟨r, ⟨h1, ⟨⟨h2, h3⟩, h4⟩, h5⟩, rfl⟩
theorem rev_at {α : Type} {l : List α} {k : Nat} (h : k < l.length) : l.reverse[l.length - 1 - k]? = l[k]? := by
  rw [List.getElem?_reverse (by omega)]
  congr 1
  omega

theorem turns_plain {sg sh : Gr} {og oh : List Nd} {fs : List F} {cg ch : Nat → Int} (hG : Fresh sg og fs cg) (hH : Fresh sh oh fs.reverse ch) {D : List (Int × Int)} {pg ph : List Nat} {eg eh : List (Opn × Nat)} (uG : Uni sg og D pg eg) (uH : Uni sh oh (back fs.length D) ph eh) :
    (∀ a b : Nat, a < fs.length → b < fs.length → (nr pg sg.nm a = nr pg sg.nm b ↔ nr ph sh.nm ((fs.length : Int) - 1 - a) = nr ph sh.nm ((fs.length : Int) - 1 - b))) ∧ roots pg = roots ph ∧ eg.length = eh.length := by
  have tot : ∀ i, i < og.length → ∃ j, Tw og oh i j := fun i hi => by
    obtain ⟨f, r, q, hq, hs⟩ := hG.sub i hi
    obtain ⟨k, hk⟩ := List.getElem?_of_mem hq
    have hkl := (List.getElem?_eq_some_iff.1 hk).1
    obtain ⟨j0, _, rj⟩ := hH.named (fs.length - 1 - k) q (by rw [rev_at hkl]; exact hk)
    obtain ⟨j, r'⟩ := rep_sub rj hs
    exact ⟨j, f, r, r'⟩
  have tot' : ∀ j, j < oh.length → ∃ i, Tw og oh i j := fun j hj => by
    obtain ⟨f, r, q, hq, hs⟩ := hH.sub j hj
    rw [List.mem_reverse] at hq
    obtain ⟨k, hk⟩ := List.getElem?_of_mem hq
    obtain ⟨i0, _, ri⟩ := hG.named k q hk
    obtain ⟨i, r'⟩ := rep_sub ri hs
    exact ⟨i, f, r', r⟩
  -- the numbers of one term
  have twin : ∀ k : Nat, k < fs.length → Tw og oh (sg.nm.getD k 0) (sh.nm.getD (fs.length - 1 - k) 0) := fun k hk => by
    obtain ⟨i, h1, r1⟩ := hG.named k fs[k] (List.getElem?_eq_getElem hk)
    obtain ⟨j, h2, r2⟩ := hH.named (fs.length - 1 - k) fs[k] (by rw [rev_at hk]; exact List.getElem?_eq_getElem hk)
    rw [List.getD_eq_getElem?_getD, List.getD_eq_getElem?_getD, h1, h2]
    exact ⟨_, r1, r2⟩
  have hwd : ∀ i j, Tw og oh i j → sg.wd.getD i 0 = sh.wd.getD j 0 := fun i j t => by
    obtain ⟨x, y, hx, hy, e, _⟩ := t.node
    rw [hG.fr.wd, hH.fr.wd, List.getD_eq_getElem?_getD, List.getD_eq_getElem?_getD, List.getElem?_map, List.getElem?_map, hx, hy]
    exact e.2.1
  have hlen : sh.nm.length = fs.length := by rw [hH.nm, List.length_reverse]
  have hidx : ∀ z : Int, 0 ≤ z → z < (fs.length : Int) → ((fs.length : Int) - 1 - z).toNat = fs.length - 1 - z.toNat := fun z h1 h2 => by omega
  obtain ⟨k1, k2, k3⟩ := turns_same hG.fr.wl hH.fr.wl tot tot' uG.holds uH.holds uG.len uH.len (fun x y ⟨q, hq, h1, h2, h3, h4⟩ => by
    rw [Bool.and_eq_true] at h1
    simp only [nmOk, Bool.and_eq_true, decide_eq_true_eq] at h1
    rw [hG.nm] at h1
    have tx := twin q.1.toNat (by omega)
    have ty := twin q.2.toNat (by omega)
    rw [← h2] at tx
    rw [← h3] at ty
    refine ⟨_, _, tx, ty, ((fs.length : Int) - 1 - q.1, (fs.length : Int) - 1 - q.2), mem_back.2 ⟨q, hq, h1.1, h1.2, rfl⟩, ?_, ?_, ?_, ?_⟩
    · simp only [nmOk, Bool.and_eq_true, decide_eq_true_eq]
      rw [hlen]
      omega
    · dsimp only; rw [hidx _ h1.1.1 h1.1.2]
    · dsimp only; rw [hidx _ h1.2.1 h1.2.2]
    · rw [← hwd _ _ tx, ← hwd _ _ ty]; exact h4) (fun x y ⟨q, hq, h1, h2, h3, h4⟩ => by
    obtain ⟨r, hr, r1, r2, rfl⟩ := mem_back.1 hq
    dsimp only at h2 h3
    rw [hidx _ r1.1 r1.2] at h2
    rw [hidx _ r2.1 r2.2] at h3
    have tx := twin r.1.toNat (by omega)
    have ty := twin r.2.toNat (by omega)
    rw [← h2] at tx
    rw [← h3] at ty
    refine ⟨_, _, tx, ty, r, hr, ?_, rfl, rfl, ?_⟩
    · simp only [nmOk, Bool.and_eq_true, decide_eq_true_eq]
      rw [hG.nm]
      omega
    · rw [hwd _ _ tx, hwd _ _ ty]; exact h4)
  refine ⟨fun a b ha hb => ?_, k2, k3⟩
  have := k1 _ _ _ _ (twin a ha) (twin b hb)
  unfold nr
  rw [hidx _ (by omega) (by omega), hidx _ (by omega) (by omega), Int.toNat_natCast, Int.toNat_natCast]
  exact this
end E
end Go.Proofs.YtcmlmjbpdaecbaaGreat
end
