/- Graphs: two graphs that lie apart. -/
import Derived.Test.YtcmlmjbpdaecbaaGreatC42
import Derived.Test.YtcmlmjbpdaecbaaGreatC43
set_option linter.unusedVariables false
set_option linter.unusedSimpArgs false
namespace Go.Proofs.YtcmlmjbpdaecbaaGreat
open Go.RowKit Go.MapKept Go.Maps Go.WideMaps
set_option linter.unusedVariables false
set_option linter.unusedSimpArgs false

/-- a graph of the call's own, with its blocks -/
def Gx (W : World) (s : E.Gr) (b : Nat) (M : Nat → Prop) (w : World) : Prop := ∃ v1 v2 v3 v4 kb, GS W s b v1 v2 v3 v4 kb w ∧ M = MG b v1 v2 v3 v4 kb
section
variable {W w w' : World} {s s' : E.Gr} {b : Nat} {M M' : Nat → Prop}
theorem Gx.lt (h : Gx W s b M w) : ∀ i, M i → i < w.heap.size := by
  obtain ⟨v1, v2, v3, v4, kb, h1, rfl⟩ := h
  exact h1.gr.lt
theorem Gx.self (h : Gx W s b M w) : M b := by
  obtain ⟨v1, v2, v3, v4, kb, h1, rfl⟩ := h
  exact .inl rfl
theorem Gx.bel (h : Gx W s b M w) : Below W.heap.size W w := let ⟨_, _, _, _, _, h1, _⟩ := h; h1.bel
theorem Gx.ok (h : Gx W s b M w) : s.Ok := let ⟨_, _, _, _, _, h1, _⟩ := h; h1.ok
theorem Gx.frame (h : Gx W s b M w) (hb : Below W.heap.size W w') (hs : ∀ i, M i → w'.heap[i]? = w.heap[i]?) : Gx W s b M w' := by
  obtain ⟨v1, v2, v3, v4, kb, h1, rfl⟩ := h
  exact ⟨v1, v2, v3, v4, kb, ⟨h1.gr.frame hs, h1.ok, h1.owf, hb, h1.new⟩, rfl⟩
theorem Gx.below (h : Gx W s b M w) (hb : Below w.heap.size w w') : Gx W s b M w' := h.frame (h.bel.trans (hb.mono h.bel.size)) fun i hi => hb.block i (h.lt i hi)

theorem Gx.add (h : Gx W s b M w) (hp : s.p.length ≤ 800000) (he : s.es.length ≤ 800000) (hm : s.nm.length ≤ 800000) {t : List T.Nd} {n ct : Nat} {At : Option Addr} (hT : StAt 5 NdR w At n t) :
    Calls Tryz.prog 23 #[.pointer (some ⟨b, 0, none⟩), .slice At n ct] w fun e w' => ∃ s' no er M', e = .returned (.tuple #[.int .i64 no, .int .i64 er]) ∧ E.AddR s t s' no er ∧ Gx W s' b M' w' ∧ Kpm (fun i => i = b) w w' ∧ ∀ i, M' i → M i ∨ w.heap.size ≤ i := by
  obtain ⟨v1, v2, v3, v4, kb, h1, rfl⟩ := h
  refine (gAdd_any (ct := ct) h1.gr h1.ok h1.owf hp he hm hT).mono ?_
  rintro e w' ⟨s', no, er, a1, a2, a3, a4, k', ha⟩
  exact ⟨s', no, er, _, ha.ret, ha.told, ⟨a1, a2, a3, a4, k', h1.add ha, rfl⟩, ha.kp, ha.new⟩
theorem Gx.uni (h : Gx W s b M w) (hp : s.p.length ≤ 800000) (he : s.es.length ≤ 800000) (x y : Int) :
    Calls Tryz.prog 29 #[.pointer (some ⟨b, 0, none⟩), .int .i64 x, .int .i64 y] w fun e w' => ∃ er p1 es1 M', e = .returned (.int .i64 er) ∧ UniR s.p s.wd s.es s.nm x y er p1 es1 ∧ Gx W { s with p := p1, es := es1 } b M' w' ∧ Kpm M w w' ∧ (∀ i, M' i → M i ∨ w.heap.size ≤ i) ∧ p1.length = s.p.length ∧ es1.length ≤ s.es.length := by
  obtain ⟨v1, v2, v3, v4, kb, h1, rfl⟩ := h
  refine (gUnion_any h1.gr h1.ok h1.owf (by omega) (by omega) x y).mono ?_
  rintro e w' ⟨er, p1, es1, v3', k', ha⟩
  exact ⟨er, p1, es1, _, ha.ret, ha.told, ⟨v1, v2, v3', v4, k', h1.uni ha, rfl⟩, ha.kp, ha.new, ha.len, ha.le⟩
theorem Gx.same (h : Gx W s b M w) (x y : Int) : Calls Tryz.prog 24 #[.pointer (some ⟨b, 0, none⟩), .int .i64 x, .int .i64 y] w fun e w' => Below w.heap.size w w' ∧ e = sameEnd s.p s.nm x y := by
  obtain ⟨v1, v2, v3, v4, kb, h1, rfl⟩ := h
  exact gSame_any h1.gr h1.ok x y
theorem Gx.classes (h : Gx W s b M w) (hp : s.p.length ≤ 800000) : Calls Tryz.prog 21 #[.pointer (some ⟨b, 0, none⟩)] w fun e w' => e = .returned (.int .i64 (E.roots s.p : Nat)) ∧ Below w.heap.size w w' := by
  obtain ⟨v1, v2, v3, v4, kb, h1, rfl⟩ := h
  exact gClasses_any h1.gr h1.ok.down (by omega)
theorem Gx.nodes (h : Gx W s b M w) : Calls Tryz.prog 22 #[.pointer (some ⟨b, 0, none⟩)] w fun e w' => e = .returned (.int .i64 (s.es.length : Nat)) ∧ w' = w := by
  obtain ⟨v1, v2, v3, v4, kb, h1, rfl⟩ := h
  exact gNodes_any h1.gr
end

theorem Gx.new_ {W w : World} (hb : Below W.heap.size W w) : Calls Tryz.prog 30 #[] w fun e w' => ∃ b M, e = .returned (.pointer (some ⟨b, 0, none⟩)) ∧ Gx W E.Gr.new b M w' ∧ Below w.heap.size w w' ∧ ∀ i, M i → w.heap.size ≤ i := by
  refine (gNew_any w).mono ?_
  rintro e w' ⟨rfl, hg, hb2⟩
  have hnew : ∀ i, MG (w.heap.size + 1) (.slice none 0 0) (.slice none 0 0) (.slice none 0 0) (.slice none 0 0) w.heap.size i → w.heap.size ≤ i := by
    rintro i (rfl | rfl | e | e | e | e)
    · omega
    · exact Nat.le_refl _
    all_goals simp [Value.ownBlock] at e
  refine ⟨_, _, rfl, ⟨_, _, _, _, _, ⟨hg, ⟨(fun c hc => by simp [E.Gr.new] at hc), rfl, (fun e he => by cases he), (fun e he => by cases he), (fun c hc => by cases hc)⟩, (fun e he => by cases he), hb.trans (hb2.mono hb.size), fun i hi => Nat.le_trans hb.size (hnew i hi)⟩, rfl⟩, hb2, hnew⟩

/-- two graphs that lie apart -/
def GP (W : World) (sg sh : E.Gr) (bg bh : Nat) (w : World) : Prop := ∃ Mg Mh, Gx W sg bg Mg w ∧ Gx W sh bh Mh w ∧ ∀ i, Mg i → ¬ Mh i
section
variable {W w w' : World} {sg sh : E.Gr} {bg bh : Nat}
theorem GP.bel (h : GP W sg sh bg bh w) : Below W.heap.size W w := let ⟨_, _, h1, _, _⟩ := h; h1.bel
theorem GP.below (h : GP W sg sh bg bh w) (hb : Below w.heap.size w w') : GP W sg sh bg bh w' := let ⟨Mg, Mh, h1, h2, h3⟩ := h; ⟨Mg, Mh, h1.below hb, h2.below hb, h3⟩
theorem GP.swap (h : GP W sg sh bg bh w) : GP W sh sg bh bg w := let ⟨Mg, Mh, h1, h2, h3⟩ := h; ⟨Mh, Mg, h2, h1, fun i a b => h3 i b a⟩
theorem gp_new (W : World) : Calls Tryz.prog 30 #[] W fun e w => ∃ b M, e = .returned (.pointer (some ⟨b, 0, none⟩)) ∧ Gx W E.Gr.new b M w :=
  (Gx.new_ (Below.refl _ W)).mono fun e w' ⟨b, M, h1, h2, _, _⟩ => ⟨b, M, h1, h2⟩
theorem Gx.two {s : E.Gr} {b : Nat} {M : Nat → Prop} (h : Gx W s b M w) : Calls Tryz.prog 30 #[] w fun e w' => ∃ bh, e = .returned (.pointer (some ⟨bh, 0, none⟩)) ∧ GP W s E.Gr.new b bh w' :=
  (Gx.new_ h.bel).mono fun e w' ⟨b', M', h1, h2, h3, h4⟩ => ⟨b', h1, M, M', h.below h3, h2, fun i hi hi' => by have := h.lt i hi; have := h4 i hi'; omega⟩
theorem GP.addG (h : GP W sg sh bg bh w) (hp : sg.p.length ≤ 800000) (he : sg.es.length ≤ 800000) (hm : sg.nm.length ≤ 800000) {t : List T.Nd} {n ct : Nat} {At : Option Addr} (hT : StAt 5 NdR w At n t) :
    Calls Tryz.prog 23 #[.pointer (some ⟨bg, 0, none⟩), .slice At n ct] w fun e w' => ∃ s' no er, e = .returned (.tuple #[.int .i64 no, .int .i64 er]) ∧ E.AddR sg t s' no er ∧ GP W s' sh bg bh w' := by
  obtain ⟨Mg, Mh, h1, h2, h3⟩ := h
  refine (h1.add (ct := ct) hp he hm hT).mono ?_
  rintro e w' ⟨s', no, er, M', rfl, q1, q2, q3, q4⟩
  refine ⟨s', no, er, rfl, q1, M', Mh, q2, h2.frame q2.bel fun i hi => q3.block i (h2.lt i hi) (fun e => h3 bg h1.self (e ▸ hi)), fun i hi hi' => ?_⟩
  rcases q4 i hi with q | q
  · exact h3 i q hi'
  · have := h2.lt i hi'; omega
theorem GP.addH (h : GP W sg sh bg bh w) (hp : sh.p.length ≤ 800000) (he : sh.es.length ≤ 800000) (hm : sh.nm.length ≤ 800000) {t : List T.Nd} {n ct : Nat} {At : Option Addr} (hT : StAt 5 NdR w At n t) :
    Calls Tryz.prog 23 #[.pointer (some ⟨bh, 0, none⟩), .slice At n ct] w fun e w' => ∃ s' no er, e = .returned (.tuple #[.int .i64 no, .int .i64 er]) ∧ E.AddR sh t s' no er ∧ GP W sg s' bg bh w' :=
  (h.swap.addG (ct := ct) hp he hm hT).mono fun e w' ⟨s', no, er, h1, h2, h3⟩ => ⟨s', no, er, h1, h2, h3.swap⟩
theorem GP.uniG (h : GP W sg sh bg bh w) (hp : sg.p.length ≤ 800000) (he : sg.es.length ≤ 800000) (x y : Int) :
    Calls Tryz.prog 29 #[.pointer (some ⟨bg, 0, none⟩), .int .i64 x, .int .i64 y] w fun e w' => ∃ er p1 es1, e = .returned (.int .i64 er) ∧ UniR sg.p sg.wd sg.es sg.nm x y er p1 es1 ∧ GP W { sg with p := p1, es := es1 } sh bg bh w' ∧ p1.length = sg.p.length ∧ es1.length ≤ sg.es.length := by
  obtain ⟨Mg, Mh, h1, h2, h3⟩ := h
  refine (h1.uni hp he x y).mono ?_
  rintro e w' ⟨er, p1, es1, M', rfl, q1, q2, q3, q4, q5, q6⟩
  refine ⟨er, p1, es1, rfl, q1, ⟨M', Mh, q2, h2.frame q2.bel fun i hi => q3.block i (h2.lt i hi) (fun e => h3 i e hi), fun i hi hi' => ?_⟩, q5, q6⟩
  rcases q4 i hi with q | q
  · exact h3 i q hi'
  · have := h2.lt i hi'; omega
theorem GP.uniH (h : GP W sg sh bg bh w) (hp : sh.p.length ≤ 800000) (he : sh.es.length ≤ 800000) (x y : Int) :
    Calls Tryz.prog 29 #[.pointer (some ⟨bh, 0, none⟩), .int .i64 x, .int .i64 y] w fun e w' => ∃ er p1 es1, e = .returned (.int .i64 er) ∧ UniR sh.p sh.wd sh.es sh.nm x y er p1 es1 ∧ GP W sg { sh with p := p1, es := es1 } bg bh w' ∧ p1.length = sh.p.length ∧ es1.length ≤ sh.es.length :=
  (h.swap.uniG hp he x y).mono fun e w' ⟨er, p1, es1, h1, h2, h3, h4⟩ => ⟨er, p1, es1, h1, h2, h3.swap, h4⟩
theorem GP.sameG (h : GP W sg sh bg bh w) (x y : Int) : Calls Tryz.prog 24 #[.pointer (some ⟨bg, 0, none⟩), .int .i64 x, .int .i64 y] w fun e w' => GP W sg sh bg bh w' ∧ e = sameEnd sg.p sg.nm x y := by
  obtain ⟨Mg, Mh, h1, h2, h3⟩ := h
  exact (h1.same x y).mono fun e w' ⟨q1, q2⟩ => ⟨⟨Mg, Mh, h1.below q1, h2.below q1, h3⟩, q2⟩
theorem GP.sameH (h : GP W sg sh bg bh w) (x y : Int) : Calls Tryz.prog 24 #[.pointer (some ⟨bh, 0, none⟩), .int .i64 x, .int .i64 y] w fun e w' => GP W sg sh bg bh w' ∧ e = sameEnd sh.p sh.nm x y :=
  (h.swap.sameG x y).mono fun e w' ⟨q1, q2⟩ => ⟨q1.swap, q2⟩
theorem GP.classesG (h : GP W sg sh bg bh w) (hp : sg.p.length ≤ 800000) : Calls Tryz.prog 21 #[.pointer (some ⟨bg, 0, none⟩)] w fun e w' => e = .returned (.int .i64 (E.roots sg.p : Nat)) ∧ GP W sg sh bg bh w' := by
  obtain ⟨Mg, Mh, h1, h2, h3⟩ := h
  exact (h1.classes hp).mono fun e w' ⟨q1, q2⟩ => ⟨q1, Mg, Mh, h1.below q2, h2.below q2, h3⟩
theorem GP.classesH (h : GP W sg sh bg bh w) (hp : sh.p.length ≤ 800000) : Calls Tryz.prog 21 #[.pointer (some ⟨bh, 0, none⟩)] w fun e w' => e = .returned (.int .i64 (E.roots sh.p : Nat)) ∧ GP W sg sh bg bh w' :=
  (h.swap.classesG hp).mono fun e w' ⟨q1, q2⟩ => ⟨q1, q2.swap⟩
theorem GP.nodesG (h : GP W sg sh bg bh w) : Calls Tryz.prog 22 #[.pointer (some ⟨bg, 0, none⟩)] w fun e w' => e = .returned (.int .i64 (sg.es.length : Nat)) ∧ w' = w := by
  obtain ⟨Mg, Mh, h1, h2, h3⟩ := h
  exact h1.nodes
theorem GP.nodesH (h : GP W sg sh bg bh w) : Calls Tryz.prog 22 #[.pointer (some ⟨bh, 0, none⟩)] w fun e w' => e = .returned (.int .i64 (sh.es.length : Nat)) ∧ w' = w := h.swap.nodesG
end

namespace E
theorem Uni.step {s0 : Gr} {out : List T.Nd} {D : List (Int × Int)} {p : List Nat} {es : List (Opn × Nat)} (h : Uni s0 out D p es) (hf : Fr s0 out) (hnm : ∀ c ∈ s0.nm, c < out.length) {x y er : Int} {p1 : List Nat} {es1 : List (Opn × Nat)} (hu : UniR p s0.wd es s0.nm x y er p1 es1) : Uni s0 out (D ++ [(x, y)]) p1 es1 := by
  cases hu with
  | none hn => exact h.no hf (.inl hn)
  | type hn hw => exact h.no hf (.inr hw)
  | ok hn hw hs hd => exact h.ok hf hnm hn hw hs

/-- the first terms and their trees -/
def Trees (ls : List (List T.Nd)) (j : Nat) (fs : List T.F) : Prop := fs.length = j ∧ ∀ (k : Nat) (f : T.F), fs[k]? = some f → ∃ t, ls[k]? = some t ∧ T.valid true t = 0 ∧ T.Rep t [((t.length - 1 : Nat) : Int)] f ∧ ∀ x ∈ t, 0 ≤ x.imm ∧ x.imm < 4294967296
theorem tree_facts {t : List T.Nd} {f : T.F} (hv : T.valid true t = 0) (hr : T.Rep t [((t.length - 1 : Nat) : Int)] f) (hi : ∀ x ∈ t, 0 ≤ x.imm ∧ x.imm < 4294967296) : (∀ x ∈ T.canon f, NdOk x ∧ 0 ≤ x.imm ∧ x.imm < 4294967296) ∧ (T.Rep (T.canon f) [((T.canon f).length : Int) - 1] f ∧ 1 ≤ (T.canon f).length) :=
  ⟨canon_ok (valid_ok hv).2.2.1 hi hr, canon_root hr⟩
theorem Fresh.small {s : Gr} {out : List T.Nd} {rs : List T.F} {c : Nat → Int} (h : Fresh s out rs c) : s.p.length = out.length ∧ s.es.length = out.length ∧ s.nm.length = rs.length :=
  ⟨by rw [h.fr.p]; simp, by rw [h.fr.es, ops_len], h.nm⟩
theorem Fresh.nmlt {s : Gr} {out : List T.Nd} {rs : List T.F} {c : Nat → Int} (h : Fresh s out rs c) : ∀ x ∈ s.nm, x < out.length := fun x hx => by
  obtain ⟨k, hk⟩ := List.getElem?_of_mem hx
  have hl := (List.getElem?_eq_some_iff.1 hk).1
  rw [h.nm] at hl
  obtain ⟨f, hf⟩ : ∃ f, rs[k]? = some f := ⟨_, List.getElem?_eq_getElem hl⟩
  obtain ⟨i, h1, h2⟩ := h.named k f hf
  rw [hk] at h1
  cases h1
  cases h2 with
  | cons h0 hx _ _ => have := (List.getElem?_eq_some_iff.1 hx).1; simpa using this
/-- a term is added to the first graph -/
theorem Fresh.told {s : Gr} {out : List T.Nd} {rs : List T.F} {ls : List (List T.Nd)} {j : Nat} (h : Fresh s out rs s.vr.get) (ht : Trees ls j rs) {t : List T.Nd} (hl : ls[j]? = some t) (hi : ∀ x ∈ t, 0 ≤ x.imm ∧ x.imm < 4294967296) {s' : Gr} {no er : Int} (ha : AddR s t s' no er) (he : er = 0) : ∃ out' rs', Fresh s' out' rs' s'.vr.get ∧ Trees ls (j + 1) rs' ∧ out'.length ≤ 60 := by
  rcases ha with ⟨h1, _, _, h2⟩ | ⟨hv, f, hr, e⟩
  · exact absurd (h2.symm.trans he) h1
  · subst he
    obtain ⟨q1, q2⟩ := tree_facts hv hr hi
    obtain ⟨out', a1, a2, _⟩ := h.add q1 q2 (c' := s'.vr.get) e.symm (fun v _ => .inr rfl)
    refine ⟨out', rs ++ [f], a1, ⟨by simp [ht.1], fun k g hg => ?_⟩, a2⟩
    rcases Nat.lt_or_ge k rs.length with hk | hk
    · rw [List.getElem?_append_left hk] at hg; exact ht.2 k g hg
    · rw [List.getElem?_append_right hk] at hg
      have hk0 : k - rs.length = 0 := by
        rcases Nat.eq_zero_or_pos (k - rs.length) with e | e
        · exact e
        · rw [List.getElem?_eq_none (by simp; omega)] at hg; cases hg
      rw [hk0] at hg
      simp at hg
      subst hg
      have : k = j := by have := ht.1; omega
      subst this
      exact ⟨t, hl, hv, hr, hi⟩
/-- a term goes into the second graph -/
theorem Fresh.back {sg sh : Gr} {og oh : List T.Nd} {fs : List T.F} {ls : List (List T.Nd)} {m j : Nat} (hG : Fresh sg og fs sg.vr.get) (ht : Trees ls m fs) (h60 : og.length ≤ 60) (hj : j < m) (hH : Fresh sh oh (fs.reverse.take j) sg.vr.get) {t : List T.Nd} (hl : ls[m - 1 - j]? = some t) {s' : Gr} {no er : Int} (ha : AddR sh t s' no er) : er = 0 ∧ ∃ oh', Fresh s' oh' (fs.reverse.take (j + 1)) sg.vr.get ∧ oh'.length ≤ 60 := by
  have hlen := ht.1
  obtain ⟨f, hf⟩ : ∃ f, fs[m - 1 - j]? = some f := ⟨_, List.getElem?_eq_getElem (by omega)⟩
  obtain ⟨t', ht', hv, hr, hi⟩ := ht.2 _ _ hf
  rw [hl] at ht'
  cases ht'
  have hrev : fs.reverse[j]? = some f := by
    rw [List.getElem?_reverse (by omega), ← hf]
    congr 1
    omega
  have htk : fs.reverse.take (j + 1) = fs.reverse.take j ++ [f] := by rw [List.take_add_one, hrev]; rfl
  obtain ⟨q1, q2⟩ := tree_facts hv hr hi
  have hmem : f ∈ fs := List.mem_of_getElem? hf
  have hall : ∀ g, ((∃ r ∈ fs.reverse.take j, Sub g r) ∨ Sub g f) → ∃ i : Nat, T.Rep og [(i : Int)] g := fun g hg => by
    have key : ∀ r ∈ fs, Sub g r → ∃ i : Nat, T.Rep og [(i : Int)] g := fun r hr hs => by
      obtain ⟨k, hk⟩ := List.getElem?_of_mem hr
      obtain ⟨i, _, ri⟩ := hG.named k r hk
      exact rep_sub ri hs
    rcases hg with ⟨r, hr, hs⟩ | hs
    · exact key r (List.mem_reverse.1 (List.mem_of_mem_take hr)) hs
    · exact key f hmem hs
  have hc : ∀ x ∈ T.canon f, x.op = 33 → sg.vr.get x.imm.toNat = x.w := fun x hx h33 => by
    obtain ⟨i, hi⟩ := List.getElem?_of_mem hx
    obtain ⟨g, r, hs⟩ := canon_sub (f := f) (List.getElem?_eq_some_iff.1 hi).1
    generalize hq : ([(i : Int)] : List Int) = la at r
    cases r with
    | nil => cases hq
    | @cons a la' y kids rest h0 hy hk hrr =>
      injection hq with e1 e2
      subst e1 e2
      cases hrr
      rw [Int.toNat_natCast, hi] at hy
      cases hy
      have hfl := (q1 x hx).1.fl
      rw [h33, hfl] at hs
      exact (hG.vs f hmem _ _ _ hs).2.2.1
  obtain ⟨s2, no2, e2, hv2⟩ := hH.canAdd q1 hc h60 hall
  rcases ha with ⟨h1, _⟩ | ⟨_, f', hr', e⟩
  · exact absurd hv h1
  · have := hr'.det hr
    subst this
    rw [e2] at e
    simp only [Prod.mk.injEq] at e
    obtain ⟨rfl, rfl, rfl⟩ := e
    obtain ⟨out', a1, a2, _⟩ := hH.add q1 q2 (c' := sg.vr.get) e2 hv2
    exact ⟨rfl, out', by rw [htk]; exact a1, a2⟩

/-- pairs in range, so far, the other way round -/
def backTo (n : Nat) (D : List (Int × Int)) (j : Nat) : List (Int × Int) := ((D.reverse.take j).filter fun q => decide (0 ≤ q.1) && decide (q.1 < (n : Int)) && decide (0 ≤ q.2) && decide (q.2 < (n : Int))).map fun q => ((n : Int) - 1 - q.1, (n : Int) - 1 - q.2)
theorem backTo_all (n : Nat) (D : List (Int × Int)) : backTo n D D.length = back n D := by
  unfold backTo back
  rw [List.take_of_length_le (by simp)]
theorem backTo_in {n : Nat} {D : List (Int × Int)} {j : Nat} {q : Int × Int} (h : D.reverse[j]? = some q) (hin : (0 ≤ q.1 ∧ q.1 < (n : Int)) ∧ 0 ≤ q.2 ∧ q.2 < (n : Int)) : backTo n D (j + 1) = backTo n D j ++ [((n : Int) - 1 - q.1, (n : Int) - 1 - q.2)] := by
  unfold backTo
  rw [List.take_add_one, h, List.filter_append, List.map_append]
  have : (decide (0 ≤ q.1) && decide (q.1 < (n : Int)) && decide (0 ≤ q.2) && decide (q.2 < (n : Int))) = true := by
    simp only [Bool.and_eq_true, decide_eq_true_eq]
    exact ⟨⟨hin.1, hin.2.1⟩, hin.2.2⟩
  simp [this]
theorem backTo_out {n : Nat} {D : List (Int × Int)} {j : Nat} {q : Int × Int} (h : D.reverse[j]? = some q) (hin : ¬ ((0 ≤ q.1 ∧ q.1 < (n : Int)) ∧ 0 ≤ q.2 ∧ q.2 < (n : Int))) : backTo n D (j + 1) = backTo n D j := by
  unfold backTo
  rw [List.take_add_one, h, List.filter_append, List.map_append]
  have : (decide (0 ≤ q.1) && decide (q.1 < (n : Int)) && decide (0 ≤ q.2) && decide (q.2 < (n : Int))) = false := by
    rw [Bool.eq_false_iff]
    intro hb
    simp only [Bool.and_eq_true, decide_eq_true_eq] at hb
    exact hin ⟨hb.1.1, hb.1.2, hb.2⟩
  simp [this]
end E
end Go.Proofs.YtcmlmjbpdaecbaaGreat
