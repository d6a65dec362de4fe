/- Merged: QPlainE8, QPlainE9, QPlainG, QPlainH. -/
import Derived.Test.YtcmlmjbpdaecbaaGreatA03
import Derived.Test.YtcmlmjbpdaecbaaGreatA02
set_option linter.unusedVariables false
set_option linter.unusedSimpArgs false
section
namespace Go.Proofs.YtcmlmjbpdaecbaaGreat
set_option linter.unusedVariables false
set_option linter.unusedSimpArgs false
namespace E

/-- an operand that an operation does not have, or a class -/
def ArOk (n : Nat) (a : Int) : Prop := a = -1 ∨ (0 ≤ a ∧ a < (n : Int))
def Ar (n : Nat) (x : Opn) : Prop := ArOk n x.a0 ∧ ArOk n x.a1 ∧ ArOk n x.a2
theorem ArOk.mono {n m : Nat} (h : n ≤ m) {a : Int} (k : ArOk n a) : ArOk m a := k.imp id fun k => ⟨k.1, by omega⟩
theorem Ar.mono {n m : Nat} (h : n ≤ m) {x : Opn} (k : Ar n x) : Ar m x := ⟨k.1.mono h, k.2.1.mono h, k.2.2.mono h⟩
theorem arOk_cr {p : List Nat} {a : Int} (h : ArOk p.length a) : ArOk p.length (cr p a) := by
  unfold cr
  split
  · exact h
  · rename_i h0
    rcases h with h | ⟨h1, h2⟩
    · omega
    · refine .inr ⟨by omega, ?_⟩
      have := root_lt (p := p) (c := a.toNat) (by omega)
      omega
theorem ar_can {p : List Nat} {x : Opn} (h : Ar p.length x) : Ar p.length (can p x) := ⟨arOk_cr h.1, arOk_cr h.2.1, arOk_cr h.2.2⟩

theorem join_len {p : List Nat} {a b : Nat} : (join p a b).length = p.length := by
  unfold join; split <;> simp
/-- what holds of each operation goes on to hold behind a round -/
theorem pass_all {J : Opn → Prop} {n : Nat} (hJ : ∀ p x, p.length = n → J x → J (can p x)) : ∀ (es : List (Opn × Nat)) {p : List Nat} {kn : List (Opn × Nat)}, p.length = n → (∀ k ∈ kn, J k.1) → (∀ e ∈ es, J e.1) → ∀ k ∈ (pass p kn es).2.1, J k.1 := by
  intro es
  induction es with
  | nil => intro p kn _ hk _; exact hk
  | cons e es ih =>
    intro p kn hp hk he
    have he2 := he e (List.mem_cons_self ..)
    have hes : ∀ x ∈ es, J x.1 := fun x hx => he x (List.mem_cons_of_mem _ hx)
    unfold pass
    cases hf : kn.find? (fun k => decide (k.1 = can p e.1)) with
    | none =>
      dsimp only
      refine ih hp (fun k hk' => ?_) hes
      rcases List.mem_append.1 hk' with h | h
      · exact hk k h
      · simp at h; subst h; exact hJ _ _ hp he2
    | some k =>
      dsimp only
      split
      · exact ih hp hk hes
      · exact ih (by rw [join_len]; exact hp) hk hes
/-- .. also of each operation with its class, where nothing was made one -/
theorem pass_cls : ∀ (es : List (Opn × Nat)) {p : List Nat} {kn : List (Opn × Nat)}, Down p → (∀ k ∈ kn, root p k.2 = k.2) → (pass p kn es).2.2 = false → ∀ k ∈ (pass p kn es).2.1, root p k.2 = k.2 := by
  intro es
  induction es with
  | nil => intro p kn _ hk _; exact hk
  | cons e es ih =>
    intro p kn hd hk
    unfold pass
    cases hf : kn.find? (fun k => decide (k.1 = can p e.1)) with
    | none =>
      dsimp only
      refine ih hd (fun k hk' => ?_)
      rcases List.mem_append.1 hk' with h | h
      · exact hk k h
      · simp at h; subst h; exact root_root hd _
    | some k =>
      dsimp only
      split
      · exact ih hd hk
      · intro h; cases h

/-- between two rounds of close -/
structure Mid (p : List Nat) (es : List (Opn × Nat)) (p1 : List Nat) (es1 : List (Opn × Nat)) : Prop where
  down : Down p1
  len : p1.length = p.length
  inn : In p1 es1
  coarse : Coarse p p1
  rep : ∀ e ∈ es, ∃ k ∈ es1, can p1 k.1 = can p1 e.1 ∧ root p1 k.2 = root p1 e.2
  sound : ∀ (R : Nat → Nat → Prop) (E0 : List (Opn × Nat)), Eqv R → Cong R E0 → Sound R p → (∀ e ∈ es, Good R E0 e) → Sound R p1 ∧ ∀ k ∈ es1, Good R E0 k
  ar : (∀ e ∈ es, Ar p.length e.1) → ∀ k ∈ es1, Ar p1.length k.1
theorem Mid.start {p : List Nat} {es : List (Opn × Nat)} (hd : Down p) (hi : In p es) : Mid p es p es :=
  ⟨hd, rfl, hi, Coarse.rfl_ p, fun e he => ⟨e, he, rfl, rfl⟩, fun R E0 _ _ hs hg => ⟨hs, hg⟩, fun h => h⟩
theorem Mid.step {p : List Nat} {es : List (Opn × Nat)} {p1 : List Nat} {es1 : List (Opn × Nat)} (h : Mid p es p1 es1) : Mid p es (pass p1 [] es1).1 (pass p1 [] es1).2.1 := by
  have t := pass_told es1 (p := p1) (kn := []) h.down (fun e he => by cases he) h.inn
  refine ⟨t.down, t.len.trans h.len, t.inn, h.coarse.trans t.coarse, fun e he => ?_, fun R E0 hq hc hs hg => ?_, fun ha => ?_⟩
  · obtain ⟨k, hk, k1, k2⟩ := h.rep e he
    obtain ⟨m, hm, m1, m2⟩ := t.rep k (.inr hk)
    exact ⟨m, hm, m1.trans (t.coarse.can k1), m2.trans (t.coarse _ _ k2)⟩
  · obtain ⟨s1, s2⟩ := h.sound R E0 hq hc hs hg
    exact pass_sound hq hc es1 h.down (fun e he => by cases he) h.inn s1 (fun e he => by cases he) s2
  · rw [t.len]
    exact pass_all (n := p1.length) (fun q x hq hx => by rw [← hq] at hx ⊢; exact ar_can hx) es1 rfl (fun e he => by cases he) (h.ar ha)
/-- behind close -/
structure Shut (p : List Nat) (es : List (Opn × Nat)) (p1 : List Nat) (es1 : List (Opn × Nat)) : Prop where
  mid : Mid p es p1 es1
  nd : (es1.map Prod.fst).Nodup
  keys : ∀ k ∈ es1, can p1 k.1 = k.1
  cls : ∀ k ∈ es1, root p1 k.2 = k.2
theorem Mid.last {p : List Nat} {es : List (Opn × Nat)} {p1 : List Nat} {es1 : List (Opn × Nat)} (h : Mid p es p1 es1) (hq : (pass p1 [] es1).2.2 = false) : Shut p es (pass p1 [] es1).1 (pass p1 [] es1).2.1 := by
  obtain ⟨q1, q2, q3⟩ := pass_quiet es1 (p := p1) (kn := []) h.down List.nodup_nil (fun e he => by cases he) hq
  refine ⟨h.step, q2, ?_, ?_⟩
  · rw [q1]; exact q3
  · rw [q1]; exact pass_cls es1 h.down (fun e he => by cases he) hq

section
end

theorem eq1_of_sound {R : Nat → Nat → Prop} {p : List Nat} (hq : Eqv R) (h : Sound R p) {a b : Nat} (e : Eq1 p a b) : R a b := by
  have h1 := h a
  have h2 := h b
  rw [show root p a = root p b from e] at h1
  exact hq.trans _ _ _ h1 (hq.symm _ _ h2)
theorem sound_join {R : Nat → Nat → Prop} {p : List Nat} (hq : Eqv R) (hd : Down p) (hs : Sound R p) {a b : Nat} (ha : a < p.length) (hb : b < p.length) (hr : R a b) : Sound R (join p a b) := fun c => by
  obtain ⟨_, _, hj⟩ := join_spec hd ha hb
  rw [hj c]
  have hab : R (root p a) (root p b) := hq.trans _ _ _ (hq.symm _ _ (hs a)) (hq.trans _ _ _ hr (hs b))
  split
  · rename_i e
    have h1 := hs c
    rw [e] at h1
    refine hq.trans _ _ _ h1 ?_
    rcases Nat.le_total (root p a) (root p b) with h | h
    · rw [Nat.max_eq_right h, Nat.min_eq_left h]; exact hq.symm _ _ hab
    · rw [Nat.max_eq_left h, Nat.min_eq_right h]; exact hab
  · exact hs c

end E
end Go.Proofs.YtcmlmjbpdaecbaaGreat
end
section
namespace Go.Proofs.YtcmlmjbpdaecbaaGreat
set_option linter.unusedVariables false
set_option linter.unusedSimpArgs false
namespace E

/-- the operation of a node -/
def opn (x : T.Nd) : Opn := ⟨x.op, x.w, x.imm, x.args.getD 0 (-1), x.args.getD 1 (-1), x.args.getD 2 (-1)⟩
end E
end Go.Proofs.YtcmlmjbpdaecbaaGreat
end
section
namespace Go.Proofs.YtcmlmjbpdaecbaaGreat
set_option linter.unusedVariables false
set_option linter.unusedSimpArgs false
namespace T

/-- a way to tell a node -/
structure MkOk (mk : Nd → List Nd → List Nd × Int) : Prop where
  told : ∀ {out : List Nd} {x : Nd}, out.Nodup → Ord out → (∀ a ∈ x.args, 0 ≤ a ∧ a < (out.length : Int)) →
    out <+: (mk x out).1 ∧ (mk x out).1.Nodup ∧ Ord (mk x out).1 ∧ 0 ≤ (mk x out).2 ∧ (mk x out).2 < ((mk x out).1.length : Int)
  again : ∀ {out u : List Nd} {x : Nd}, out.Nodup → Ord out → (∀ a ∈ x.args, 0 ≤ a ∧ a < (out.length : Int)) → (mk x out).1 <+: u → u.Nodup → Ord u → mk x u = (u, (mk x out).2)

def cnnG (mk : Nd → List Nd → List Nd × Int) : F → List Nd → List Nd × List Int
  | .nil, out => (out, [])
  | .cons op w fl imm kids rest, out =>
    ((cnnG mk rest (mk ⟨op, w, fl, (cnnG mk kids out).2, imm⟩ (cnnG mk kids out).1).1).1,
      (mk ⟨op, w, fl, (cnnG mk kids out).2, imm⟩ (cnnG mk kids out).1).2 :: (cnnG mk rest (mk ⟨op, w, fl, (cnnG mk kids out).2, imm⟩ (cnnG mk kids out).1).1).2)

structure ToldG (out : List Nd) (r : List Nd × List Int) : Prop where
  pre : out <+: r.1
  nd : r.1.Nodup
  ord : Ord r.1
  lo : ∀ a ∈ r.2, 0 ≤ a ∧ a < (r.1.length : Int)

section
variable {mk : Nd → List Nd → List Nd × Int}

theorem cnnG_told (ok : MkOk mk) (f : F) : ∀ {out : List Nd}, out.Nodup → Ord out → ToldG out (cnnG mk f out) := by
  induction f with
  | nil => intro out hn ho; exact ⟨List.prefix_rfl, hn, ho, fun a ha => by simp [cnnG] at ha⟩
  | cons op w fl imm kids rest ih1 ih2 =>
    intro out hn ho
    obtain ⟨p1, n1, o1, l1⟩ := ih1 hn ho
    simp only [cnnG]
    generalize hc1 : cnnG mk kids out = c1 at *
    obtain ⟨p2, n2, o2, z2, l2⟩ := ok.told (x := ⟨op, w, fl, c1.2, imm⟩) n1 o1 l1
    generalize hc2 : mk ⟨op, w, fl, c1.2, imm⟩ c1.1 = c2 at *
    obtain ⟨p3, n3, o3, l3⟩ := ih2 n2 o2
    generalize hc3 : cnnG mk rest c2.1 = c3 at *
    refine ⟨(p1.trans p2).trans p3, n3, o3, ?_⟩
    intro a ha
    rcases List.mem_cons.1 ha with rfl | ha
    · have := pre_le p3; dsimp only; omega
    · exact l3 a ha

theorem cnnG_again (ok : MkOk mk) (f : F) : ∀ {out u : List Nd}, out.Nodup → Ord out → (cnnG mk f out).1 <+: u → u.Nodup → Ord u → cnnG mk f u = (u, (cnnG mk f out).2) := by
  induction f with
  | nil => intro out u _ _ _ _ _; rfl
  | cons op w fl imm kids rest ih1 ih2 =>
    intro out u hn ho hp hu ou
    have t1 := cnnG_told ok kids hn ho
    simp only [cnnG] at hp ⊢
    have t2 := ok.told (x := ⟨op, w, fl, (cnnG mk kids out).2, imm⟩) t1.nd t1.ord t1.lo
    have t3 := cnnG_told ok rest t2.2.1 t2.2.2.1
    have e1 := ih1 hn ho (t2.1.trans (t3.pre.trans hp)) hu ou
    have e2 := ok.again (x := ⟨op, w, fl, (cnnG mk kids out).2, imm⟩) t1.nd t1.ord t1.lo (t3.pre.trans hp) hu ou
    have e3 := ih2 t2.2.1 t2.2.2.1 hp hu ou
    rw [e1]
    simp only [e2, e3]

theorem cnnG_app (f g : F) : ∀ (out : List Nd), cnnG mk (f.app g) out = ((cnnG mk g (cnnG mk f out).1).1, (cnnG mk f out).2 ++ (cnnG mk g (cnnG mk f out).1).2) := by
  induction f with
  | nil => intro out; rfl
  | cons op w fl imm kids rest _ ih2 => intro out; simp only [F.app, cnnG, ih2]; rfl
end

/-- the plain way -/
def mkA (x : Nd) (out : List Nd) : List Nd × Int := addN out x

theorem cnnG_A (f : F) : ∀ (out : List Nd), cnnG mkA f out = cnn f out := by
  induction f with
  | nil => intro out; rfl
  | cons op w fl imm kids rest ih1 ih2 => intro out; simp only [cnnG, cnn, ih1, ih2, mkA]

theorem addN_again {out u : List Nd} {y : Nd} (hn : out.Nodup) (hp : (addN out y).1 <+: u) (hu : u.Nodup) : addN u y = (u, (addN out y).2) := by
  obtain ⟨_, _, h0, _, hy⟩ := addN_spec (y := y) hn
  have hy := pre_at hp _ _ hy
  obtain ⟨hm, hi⟩ := idx_at hu hy
  unfold addN at hi h0 ⊢
  rw [if_pos hm, hi, Int.toNat_of_nonneg h0]

theorem mkA_ok : MkOk mkA := by
  constructor
  · intro out x hn ho hx
    obtain ⟨h1, h2, h3, h4, _⟩ := addN_spec (y := x) hn
    exact ⟨h1, h2, addN_ord ho hx, h3, h4⟩
  · intro out u x hn ho hx hp hu _
    exact addN_again hn hp hu

theorem cnn_again (f : F) {out u : List Nd} (hn : out.Nodup) (ho : Ord out) (hp : (cnn f out).1 <+: u) (hu : u.Nodup) (ou : Ord u) : cnn f u = (u, (cnn f out).2) := by
  rw [← cnnG_A, ← cnnG_A] at *
  exact cnnG_again mkA_ok f hn ho hp hu ou

end T

namespace R
open T (Nd F)
end R
end Go.Proofs.YtcmlmjbpdaecbaaGreat
end
section
namespace Go.Proofs.YtcmlmjbpdaecbaaGreat
set_option linter.unusedVariables false
set_option linter.unusedSimpArgs false
namespace T

/-- these nodes are told one after the other -/
inductive Fin_ (t : List Nd) : List Nat → List Nd → List Nd → Prop where
  | nil {out : List Nd} : Fin_ t [] out out
  | cons {n : Nat} {S : List Nat} {f : F} {out res : List Nd} (r : Rep t [(n : Int)] f) (h : Fin_ t S (cnn f out).1 res) : Fin_ t (n :: S) out res

def untold (l : List Int) : Nat := l.countP fun v => decide (v < 0)

structure ShI (t : List Nd) (tab : List Int) (S : List Nat) (out res : List Nd) : Prop where
  nd : out.Nodup
  ord : Ord out
  len : tab.length = t.length
  told : ∀ (k : Nat) (v : Int), tab[k]? = some v → 0 ≤ v → ∃ f, Rep t [(k : Int)] f ∧ Rep out [v] f
  unt : ∀ n ∈ S, ∃ v, tab[n]? = some v ∧ v < 0
  asc : S.Pairwise (· < ·)
  lt : ∀ n ∈ S, n < t.length
  sz : out.length + untold tab ≤ t.length
  fin : Fin_ t S out res

theorem ShI.start {t : List Nd} {k : Nat} {f : F} (hk : k < t.length) (hf : Rep t [(k : Int)] f) : ShI t (List.replicate t.length (-1)) [k] [] (canon f) := by
  refine ⟨List.nodup_nil, ord_nil, by simp, fun j v hv h0 => ?_, fun n hn => ?_, by simp, fun n hn => ?_, ?_, .cons hf .nil⟩
  · rw [List.getElem?_replicate] at hv
    split at hv
    · cases hv; omega
    · cases hv
  · simp at hn; subst hn
    exact ⟨-1, by rw [List.getElem?_replicate, if_pos hk], by omega⟩
  · simp at hn; subst hn; exact hk
  · have := List.countP_le_length (p := fun v : Int => decide (v < 0)) (l := List.replicate t.length (-1))
    simp only [List.length_nil, Nat.zero_add, T.untold]
    simpa using this

theorem asc_len {S : List Nat} {n : Nat} (h : S.Pairwise (· < ·)) (hl : ∀ x ∈ S, x < n) : S.length ≤ n := by
  have key : ∀ (S : List Nat) (lo : Nat), S.Pairwise (· < ·) → (∀ x ∈ S, lo ≤ x ∧ x < n) → lo ≤ n → lo + S.length ≤ n := by
    intro S
    induction S with
    | nil => intro lo _ _ h; simpa using h
    | cons x S ih =>
      intro lo hp hx h
      have h1 := hx x (by simp)
      rw [List.pairwise_cons] at hp
      have := ih (x + 1) hp.2 (fun y hy => ⟨hp.1 y hy, (hx y (by simp [hy])).2⟩) (by omega)
      simp only [List.length_cons]
      omega
  have := key S 0 h (fun x hx => ⟨Nat.zero_le _, hl x hx⟩) (Nat.zero_le _)
  omega

/-- the first operand that is not told -/
def miss (tab : List Int) : List Int → Int
  | [] => -1
  | a :: l => if tab.getD a.toNat 0 < 0 then a else miss tab l

theorem miss_none {tab : List Int} : ∀ {l : List Int}, (∀ a ∈ l, 0 ≤ a) → miss tab l < 0 → ∀ a ∈ l, 0 ≤ tab.getD a.toNat 0
  | [], _, _, a, ha => by simp at ha
  | b :: l, h0, h, a, ha => by
    unfold miss at h
    split at h
    · have := h0 b (by simp); omega
    · rcases List.mem_cons.1 ha with rfl | ha
      · omega
      · exact miss_none (fun c hc => h0 c (by simp [hc])) h a ha

theorem miss_some {tab : List Int} : ∀ {l : List Int}, 0 ≤ miss tab l → ∃ p q, l = p ++ miss tab l :: q ∧ (∀ a ∈ p, 0 ≤ tab.getD a.toNat 0) ∧ tab.getD (miss tab l).toNat 0 < 0
  | [], h => by simp [miss] at h
  | b :: l, h => by
    unfold miss at h ⊢
    by_cases e : tab.getD b.toNat 0 < 0
    · rw [if_pos e]
      exact ⟨[], l, rfl, fun a ha => by simp at ha, e⟩
    · rw [if_neg e] at h ⊢
      obtain ⟨p, q, h1, h2, h3⟩ := miss_some h
      refine ⟨b :: p, q, by rw [List.cons_append, ← h1], fun a ha => ?_, h3⟩
      rcases List.mem_cons.1 ha with rfl | ha
      · omega
      · exact h2 a ha

theorem getD_some {α : Type} {l : List α} {k : Nat} {d : α} (hk : k < l.length) : l[k]? = some (l.getD k d) := by
  rw [List.getD_eq_getElem?_getD, List.getElem?_eq_getElem hk]; rfl

/-- what is told of a list of operands -/
theorem ShI.kids {t : List Nd} {tab : List Int} {S : List Nat} {out res : List Nd} (h : ShI t tab S out res) {l : List Int} (hl : ∀ a ∈ l, 0 ≤ a ∧ a < (t.length : Int)) (ht : ∀ a ∈ l, 0 ≤ tab.getD a.toNat 0) :
    ∃ f, Rep t l f ∧ Rep out (l.map fun a => tab.getD a.toNat 0) f := by
  induction l with
  | nil => exact ⟨.nil, .nil, .nil⟩
  | cons a l ih =>
    obtain ⟨f, h1, h2⟩ := ih (fun b hb => hl b (by simp [hb])) (fun b hb => ht b (by simp [hb]))
    have ha := hl a (by simp)
    obtain ⟨g, g1, g2⟩ := h.told a.toNat _ (getD_some (d := 0) (by rw [h.len]; omega)) (ht a (by simp))
    rw [Int.toNat_of_nonneg ha.1] at g1
    exact ⟨g.app f, g1.app h1, g2.app h2⟩

theorem Rep.split {t : List Nd} {p q : List Int} {f : F} (r : Rep t (p ++ q) f) : ∃ g h, f = g.app h ∧ Rep t p g ∧ Rep t q h := by
  induction p generalizing f with
  | nil => exact ⟨.nil, f, rfl, .nil, r⟩
  | cons a p ih =>
    cases r with
    | cons h0 hx hk hr =>
      obtain ⟨g, h, rfl, h1, h2⟩ := ih hr
      exact ⟨_, h, rfl, .cons h0 hx hk h1, h2⟩

theorem addN_len {out : List Nd} {y : Nd} : (addN out y).1.length ≤ out.length + 1 := by
  unfold addN; split <;> simp

theorem ShI.pop {t : List Nd} {tab : List Int} {n : Nat} {S : List Nat} {out res : List Nd} {x : Nd} (h : ShI t tab (n :: S) out res) (ho : Ord t) (hx : t[n]? = some x) (ht : ∀ a ∈ x.args, 0 ≤ tab.getD a.toNat 0) :
    ShI t (tab.set n (addN out ⟨x.op, x.w, x.fl, x.args.map fun a => tab.getD a.toNat 0, x.imm⟩).2) S (addN out ⟨x.op, x.w, x.fl, x.args.map fun a => tab.getD a.toNat 0, x.imm⟩).1 res ∧
    T.untold (tab.set n (addN out ⟨x.op, x.w, x.fl, x.args.map fun a => tab.getD a.toNat 0, x.imm⟩).2) + 1 = T.untold tab := by
  have hn : n < t.length := h.lt n (by simp)
  obtain ⟨kids, k1, k2⟩ := h.kids (l := x.args) (fun a ha => by have := ho n x hx a ha; omega) ht
  have hr : Rep t [(n : Int)] (.cons x.op x.w x.fl x.imm kids .nil) := Rep.cons (by omega) (by rw [Int.toNat_natCast]; exact hx) k1 .nil
  have hs := cnn_stable h.nd k2
  have hlo : ∀ a ∈ (x.args.map fun a => tab.getD a.toNat 0), 0 ≤ a ∧ a < (out.length : Int) := by
    intro a ha
    obtain ⟨b, hb, rfl⟩ := List.mem_map.1 ha
    have hb' := ho n x hx b hb
    obtain ⟨g, g1, g2⟩ := h.told b.toNat _ (getD_some (d := 0) (by rw [h.len]; omega)) (ht b hb)
    cases g2 with
    | cons h0 hx' _ _ => have := (List.getElem?_eq_some_iff.1 hx').1; omega
  generalize hy : (⟨x.op, x.w, x.fl, x.args.map fun a => tab.getD a.toNat 0, x.imm⟩ : Nd) = y
  have hya : y.args = x.args.map fun a => tab.getD a.toNat 0 := by rw [← hy]
  obtain ⟨a1, a2, a3, a4, a5⟩ := addN_spec (y := y) h.nd
  have a6 := addN_ord (y := y) h.ord (by rw [hya]; exact hlo)
  have a7 := addN_len (out := out) (y := y)
  obtain ⟨v0, hv0, hv1⟩ := h.unt n (by simp)
  have hnt : n < tab.length := by rw [h.len]; exact hn
  have hpw := h.asc
  rw [List.pairwise_cons] at hpw
  have hcount : T.untold (tab.set n (addN out y).2) + 1 = T.untold tab := by
    unfold T.untold
    have hpos : 0 < tab.countP fun v => decide (v < 0) := List.countP_pos_iff.2 ⟨v0, List.mem_of_getElem? hv0, by simpa using hv1⟩
    rw [List.countP_set (h := hnt)]
    have e1 : tab[n] = v0 := by rw [List.getElem?_eq_getElem hnt] at hv0; exact Option.some.inj hv0
    rw [e1, if_pos (by simpa using hv1), if_neg (by simp; omega)]
    omega
  refine ⟨⟨a2, a6, by rw [List.length_set]; exact h.len, ?_, ?_, hpw.2, fun m hm => h.lt m (by simp [hm]), by have := h.sz; omega, ?_⟩, hcount⟩
  · intro k v hv h0
    rw [List.getElem?_set] at hv
    split at hv
    · rename_i e
      subst e
      have hv : some (addN out y).2 = some v := by simpa [hnt] using hv
      cases hv
      refine ⟨_, hr, ?_⟩
      have : Rep (addN out y).1 [(addN out y).2] (.cons y.op y.w y.fl y.imm kids .nil) := Rep.cons a3 a5 (by rw [hya]; exact k2.mono (pre_at a1)) .nil
      rw [← hy] at this ⊢
      exact this
    · obtain ⟨f, f1, f2⟩ := h.told k v hv h0
      exact ⟨f, f1, f2.mono (pre_at a1)⟩
  · intro m hm
    obtain ⟨v, hv, hv'⟩ := h.unt m (by simp [hm])
    have := hpw.1 m hm
    exact ⟨v, by rw [List.getElem?_set_ne (by omega)]; exact hv, hv'⟩
  · have hf := h.fin
    cases hf with
    | cons r hrest =>
      have := r.det hr
      subst this
      have e : (cnn (.cons x.op x.w x.fl x.imm kids .nil) out).1 = (addN out y).1 := by
        simp only [cnn, hs, hy]
      rw [e] at hrest
      exact hrest

theorem ShI.push {t : List Nd} {tab : List Int} {n : Nat} {S : List Nat} {out res : List Nd} {x : Nd} (h : ShI t tab (n :: S) out res) (ho : Ord t) (hx : t[n]? = some x) (hm : 0 ≤ miss tab x.args) :
    ShI t tab ((miss tab x.args).toNat :: n :: S) out res ∧ (miss tab x.args).toNat < n := by
  obtain ⟨p, q, hpq, hp, hneg⟩ := miss_some hm
  generalize miss tab x.args = m at *
  have hmem : m ∈ x.args := by rw [hpq]; simp
  have hm2 := ho n x hx m hmem
  have hn : n < t.length := h.lt n (by simp)
  have hmn : m.toNat < n := by omega
  have hasc := h.asc
  refine ⟨⟨h.nd, h.ord, h.len, h.told, ?_, ?_, ?_, h.sz, ?_⟩, hmn⟩
  · intro k hk
    rcases List.mem_cons.1 hk with rfl | hk
    · exact ⟨_, getD_some (d := 0) (by rw [h.len]; omega), hneg⟩
    · exact h.unt k hk
  · rw [List.pairwise_cons]
    refine ⟨fun k hk => ?_, hasc⟩
    rcases List.mem_cons.1 hk with rfl | hk
    · exact hmn
    · rw [List.pairwise_cons] at hasc
      have := hasc.1 k hk
      omega
  · intro k hk
    rcases List.mem_cons.1 hk with rfl | hk
    · omega
    · exact h.lt k hk
  · have hf := h.fin
    cases hf with
    | @cons _ _ f _ _ r hrest =>
      cases r with
      | @cons _ _ x' kids rest h0 hx' hk hr =>
        cases hr
        rw [Int.toNat_natCast, hx] at hx'
        cases hx'
        rw [hpq] at hk
        obtain ⟨g1, g2, rfl, r1, r2⟩ := hk.split
        obtain ⟨gm, g3, rfl, r3, r4⟩ := Rep.split (p := [m]) (q := q) r2
        have r3' : Rep t [(m.toNat : Int)] gm := by rw [Int.toNat_of_nonneg hm]; exact r3
        refine .cons r3' (.cons (f := .cons x.op x.w x.fl x.imm (g1.app (gm.app g3)) .nil) ?_ ?_)
        · exact Rep.cons (by omega) (by rw [Int.toNat_natCast]; exact hx) (by rw [hpq]; exact r1.app (r3.app r4)) .nil
        · obtain ⟨fp, p1, p2⟩ := h.kids (l := p) (fun a ha => by have := ho n x hx a (by rw [hpq]; simp [ha]); omega) hp
          obtain rfl := p1.det r1
          have tm := cnn_told gm h.nd h.ord
          have s1 := cnn_stable h.nd p2
          have s2 := cnn_stable tm.nd (p2.mono (pre_at tm.pre))
          have s3 := cnn_again gm h.nd h.ord List.prefix_rfl tm.nd tm.ord
          have e : cnn (fp.app (gm.app g3)) (cnn gm out).1 = cnn (fp.app (gm.app g3)) out := by
            simp only [cnn_app, s1, s2, s3]
          have e2 : (cnn (.cons x.op x.w x.fl x.imm (fp.app (gm.app g3)) .nil) (cnn gm out).1).1 = (cnn (.cons x.op x.w x.fl x.imm (fp.app (gm.app g3)) .nil) out).1 := by
            simp only [cnn, e]
          rw [e2]
          exact hrest

theorem ShI.end_ {t : List Nd} {tab : List Int} {out res : List Nd} (h : ShI t tab [] out res) : out = res := by
  have := h.fin
  cases this with
  | nil => rfl
end T
end Go.Proofs.YtcmlmjbpdaecbaaGreat
end
