/- Merged: C4PlainH, C4Fr. -/
import Derived.Test.YtbiopedpceddeaaGreatDoorW03
import Derived.Test.YtbiopedpceddeaaGreatDoorW04
set_option linter.unusedVariables false
set_option linter.unusedSimpArgs false
section
namespace Go.Proofs.YtbiopedpceddeaaGreatDoor
set_option linter.unusedVariables false
set_option linter.unusedSimpArgs false
namespace T

/-- these nodes are told one after the other -/
inductive Fin_ (t : List Nd) : List Nat → List Nd → List Nd → Prop where
  | nil {out : List Nd} : Fin_ t [] out out
  | cons {n : Nat} {S : List Nat} {f : F} {out res : List Nd} (r : Rep t [(n : Int)] f) (h : Fin_ t S (cnn f out).1 res) : Fin_ t (n :: S) out res

def untold (l : List Int) : Nat := l.countP fun v => decide (v < 0)

structure ShI (t : List Nd) (tab : List Int) (S : List Nat) (out res : List Nd) : Prop where
  nd : out.Nodup
  ord : Ord out
  len : tab.length = t.length
  told : ∀ (k : Nat) (v : Int), tab[k]? = some v → 0 ≤ v → ∃ f, Rep t [(k : Int)] f ∧ Rep out [v] f
  unt : ∀ n ∈ S, ∃ v, tab[n]? = some v ∧ v < 0
  asc : S.Pairwise (· < ·)
  lt : ∀ n ∈ S, n < t.length
  sz : out.length + untold tab ≤ t.length
  fin : Fin_ t S out res

theorem ShI.start {t : List Nd} {k : Nat} {f : F} (hk : k < t.length) (hf : Rep t [(k : Int)] f) : ShI t (List.replicate t.length (-1)) [k] [] (canon f) := by
  refine ⟨List.nodup_nil, ord_nil, by simp, fun j v hv h0 => ?_, fun n hn => ?_, by simp, fun n hn => ?_, ?_, .cons hf .nil⟩
  · rw [List.getElem?_replicate] at hv
    split at hv
    · cases hv; omega
    · cases hv
  · simp at hn; subst hn
    exact ⟨-1, by rw [List.getElem?_replicate, if_pos hk], by omega⟩
  · simp at hn; subst hn; exact hk
  · have := List.countP_le_length (p := fun v : Int => decide (v < 0)) (l := List.replicate t.length (-1))
    simp only [List.length_nil, Nat.zero_add, T.untold]
    simpa using this

theorem asc_len {S : List Nat} {n : Nat} (h : S.Pairwise (· < ·)) (hl : ∀ x ∈ S, x < n) : S.length ≤ n := by
  have key : ∀ (S : List Nat) (lo : Nat), S.Pairwise (· < ·) → (∀ x ∈ S, lo ≤ x ∧ x < n) → lo ≤ n → lo + S.length ≤ n := by
    intro S
    induction S with
    | nil => intro lo _ _ h; simpa using h
    | cons x S ih =>
      intro lo hp hx h
      have h1 := hx x (by simp)
      rw [List.pairwise_cons] at hp
      have := ih (x + 1) hp.2 (fun y hy => ⟨hp.1 y hy, (hx y (by simp [hy])).2⟩) (by omega)
      simp only [List.length_cons]
      omega
  have := key S 0 h (fun x hx => ⟨Nat.zero_le _, hl x hx⟩) (Nat.zero_le _)
  omega

/-- the first operand that is not told -/
def miss (tab : List Int) : List Int → Int
  | [] => -1
  | a :: l => if tab.getD a.toNat 0 < 0 then a else miss tab l

theorem miss_none {tab : List Int} : ∀ {l : List Int}, (∀ a ∈ l, 0 ≤ a) → miss tab l < 0 → ∀ a ∈ l, 0 ≤ tab.getD a.toNat 0
  | [], _, _, a, ha => by simp at ha
  | b :: l, h0, h, a, ha => by
    unfold miss at h
    split at h
    · have := h0 b (by simp); omega
    · rcases List.mem_cons.1 ha with rfl | ha
      · omega
      · exact miss_none (fun c hc => h0 c (by simp [hc])) h a ha

theorem miss_some {tab : List Int} : ∀ {l : List Int}, 0 ≤ miss tab l → ∃ p q, l = p ++ miss tab l :: q ∧ (∀ a ∈ p, 0 ≤ tab.getD a.toNat 0) ∧ tab.getD (miss tab l).toNat 0 < 0
  | [], h => by simp [miss] at h
  | b :: l, h => by
    unfold miss at h ⊢
    by_cases e : tab.getD b.toNat 0 < 0
    · rw [if_pos e]
      exact ⟨[], l, rfl, fun a ha => by simp at ha, e⟩
    · rw [if_neg e] at h ⊢
      obtain ⟨p, q, h1, h2, h3⟩ := miss_some h
      refine ⟨b :: p, q, by rw [List.cons_append, ← h1], fun a ha => ?_, h3⟩
      rcases List.mem_cons.1 ha with rfl | ha
      · omega
      · exact h2 a ha

theorem getD_some {α : Type} {l : List α} {k : Nat} {d : α} (hk : k < l.length) : l[k]? = some (l.getD k d) := by
  rw [List.getD_eq_getElem?_getD, List.getElem?_eq_getElem hk]; rfl

/-- what is told of a list of operands -/
theorem ShI.kids {t : List Nd} {tab : List Int} {S : List Nat} {out res : List Nd} (h : ShI t tab S out res) {l : List Int} (hl : ∀ a ∈ l, 0 ≤ a ∧ a < (t.length : Int)) (ht : ∀ a ∈ l, 0 ≤ tab.getD a.toNat 0) :
    ∃ f, Rep t l f ∧ Rep out (l.map fun a => tab.getD a.toNat 0) f := by
  induction l with
  | nil => exact ⟨.nil, .nil, .nil⟩
  | cons a l ih =>
    obtain ⟨f, h1, h2⟩ := ih (fun b hb => hl b (by simp [hb])) (fun b hb => ht b (by simp [hb]))
    have ha := hl a (by simp)
    obtain ⟨g, g1, g2⟩ := h.told a.toNat _ (getD_some (d := 0) (by rw [h.len]; omega)) (ht a (by simp))
    rw [Int.toNat_of_nonneg ha.1] at g1
    exact ⟨g.app f, g1.app h1, g2.app h2⟩

theorem Rep.split {t : List Nd} {p q : List Int} {f : F} (r : Rep t (p ++ q) f) : ∃ g h, f = g.app h ∧ Rep t p g ∧ Rep t q h := by
  induction p generalizing f with
  | nil => exact ⟨.nil, f, rfl, .nil, r⟩
  | cons a p ih =>
    cases r with
    | cons h0 hx hk hr =>
      obtain ⟨g, h, rfl, h1, h2⟩ := ih hr
      exact ⟨_, h, rfl, .cons h0 hx hk h1, h2⟩

theorem addN_len {out : List Nd} {y : Nd} : (addN out y).1.length ≤ out.length + 1 := by
  unfold addN; split <;> simp

theorem ShI.pop {t : List Nd} {tab : List Int} {n : Nat} {S : List Nat} {out res : List Nd} {x : Nd} (h : ShI t tab (n :: S) out res) (ho : Ord t) (hx : t[n]? = some x) (ht : ∀ a ∈ x.args, 0 ≤ tab.getD a.toNat 0) :
    ShI t (tab.set n (addN out ⟨x.op, x.w, x.fl, x.args.map fun a => tab.getD a.toNat 0, x.imm⟩).2) S (addN out ⟨x.op, x.w, x.fl, x.args.map fun a => tab.getD a.toNat 0, x.imm⟩).1 res ∧
    T.untold (tab.set n (addN out ⟨x.op, x.w, x.fl, x.args.map fun a => tab.getD a.toNat 0, x.imm⟩).2) + 1 = T.untold tab := by
  have hn : n < t.length := h.lt n (by simp)
  obtain ⟨kids, k1, k2⟩ := h.kids (l := x.args) (fun a ha => by have := ho n x hx a ha; omega) ht
  have hr : Rep t [(n : Int)] (.cons x.op x.w x.fl x.imm kids .nil) := Rep.cons (by omega) (by rw [Int.toNat_natCast]; exact hx) k1 .nil
  have hs := cnn_stable h.nd k2
  have hlo : ∀ a ∈ (x.args.map fun a => tab.getD a.toNat 0), 0 ≤ a ∧ a < (out.length : Int) := by
    intro a ha
    obtain ⟨b, hb, rfl⟩ := List.mem_map.1 ha
    have hb' := ho n x hx b hb
    obtain ⟨g, g1, g2⟩ := h.told b.toNat _ (getD_some (d := 0) (by rw [h.len]; omega)) (ht b hb)
    cases g2 with
    | cons h0 hx' _ _ => have := (List.getElem?_eq_some_iff.1 hx').1; omega
  generalize hy : (⟨x.op, x.w, x.fl, x.args.map fun a => tab.getD a.toNat 0, x.imm⟩ : Nd) = y
  have hya : y.args = x.args.map fun a => tab.getD a.toNat 0 := by rw [← hy]
  obtain ⟨a1, a2, a3, a4, a5⟩ := addN_spec (y := y) h.nd
  have a6 := addN_ord (y := y) h.ord (by rw [hya]; exact hlo)
  have a7 := addN_len (out := out) (y := y)
  obtain ⟨v0, hv0, hv1⟩ := h.unt n (by simp)
  have hnt : n < tab.length := by rw [h.len]; exact hn
  have hpw := h.asc
  rw [List.pairwise_cons] at hpw
  have hcount : T.untold (tab.set n (addN out y).2) + 1 = T.untold tab := by
    unfold T.untold
    have hpos : 0 < tab.countP fun v => decide (v < 0) := List.countP_pos_iff.2 ⟨v0, List.mem_of_getElem? hv0, by simpa using hv1⟩
    rw [List.countP_set (h := hnt)]
    have e1 : tab[n] = v0 := by rw [List.getElem?_eq_getElem hnt] at hv0; exact Option.some.inj hv0
    rw [e1, if_pos (by simpa using hv1), if_neg (by simp; omega)]
    omega
  refine ⟨⟨a2, a6, by rw [List.length_set]; exact h.len, ?_, ?_, hpw.2, fun m hm => h.lt m (by simp [hm]), by have := h.sz; omega, ?_⟩, hcount⟩
  · intro k v hv h0
    rw [List.getElem?_set] at hv
    split at hv
    · rename_i e
      subst e
      have hv : some (addN out y).2 = some v := by simpa [hnt] using hv
      cases hv
      refine ⟨_, hr, ?_⟩
      have : Rep (addN out y).1 [(addN out y).2] (.cons y.op y.w y.fl y.imm kids .nil) := Rep.cons a3 a5 (by rw [hya]; exact k2.mono (pre_at a1)) .nil
      rw [← hy] at this ⊢
      exact this
    · obtain ⟨f, f1, f2⟩ := h.told k v hv h0
      exact ⟨f, f1, f2.mono (pre_at a1)⟩
  · intro m hm
    obtain ⟨v, hv, hv'⟩ := h.unt m (by simp [hm])
    have := hpw.1 m hm
    exact ⟨v, by rw [List.getElem?_set_ne (by omega)]; exact hv, hv'⟩
  · have hf := h.fin
    cases hf with
    | cons r hrest =>
      have := r.det hr
      subst this
      have e : (cnn (.cons x.op x.w x.fl x.imm kids .nil) out).1 = (addN out y).1 := by
        simp only [cnn, hs, hy]
      rw [e] at hrest
      exact hrest

theorem ShI.push {t : List Nd} {tab : List Int} {n : Nat} {S : List Nat} {out res : List Nd} {x : Nd} (h : ShI t tab (n :: S) out res) (ho : Ord t) (hx : t[n]? = some x) (hm : 0 ≤ miss tab x.args) :
    ShI t tab ((miss tab x.args).toNat :: n :: S) out res ∧ (miss tab x.args).toNat < n := by
  obtain ⟨p, q, hpq, hp, hneg⟩ := miss_some hm
  generalize miss tab x.args = m at *
  have hmem : m ∈ x.args := by rw [hpq]; simp
  have hm2 := ho n x hx m hmem
  have hn : n < t.length := h.lt n (by simp)
  have hmn : m.toNat < n := by omega
  have hasc := h.asc
  refine ⟨⟨h.nd, h.ord, h.len, h.told, ?_, ?_, ?_, h.sz, ?_⟩, hmn⟩
  · intro k hk
    rcases List.mem_cons.1 hk with rfl | hk
    · exact ⟨_, getD_some (d := 0) (by rw [h.len]; omega), hneg⟩
    · exact h.unt k hk
  · rw [List.pairwise_cons]
    refine ⟨fun k hk => ?_, hasc⟩
    rcases List.mem_cons.1 hk with rfl | hk
    · exact hmn
    · rw [List.pairwise_cons] at hasc
      have := hasc.1 k hk
      omega
  · intro k hk
    rcases List.mem_cons.1 hk with rfl | hk
    · omega
    · exact h.lt k hk
  · have hf := h.fin
    cases hf with
    | @cons _ _ f _ _ r hrest =>
      cases r with
      | @cons _ _ x' kids rest h0 hx' hk hr =>
        cases hr
        rw [Int.toNat_natCast, hx] at hx'
        cases hx'
        rw [hpq] at hk
        obtain ⟨g1, g2, rfl, r1, r2⟩ := hk.split
        obtain ⟨gm, g3, rfl, r3, r4⟩ := Rep.split (p := [m]) (q := q) r2
        have r3' : Rep t [(m.toNat : Int)] gm := by rw [Int.toNat_of_nonneg hm]; exact r3
        refine .cons r3' (.cons (f := .cons x.op x.w x.fl x.imm (g1.app (gm.app g3)) .nil) ?_ ?_)
        · exact Rep.cons (by omega) (by rw [Int.toNat_natCast]; exact hx) (by rw [hpq]; exact r1.app (r3.app r4)) .nil
        · obtain ⟨fp, p1, p2⟩ := h.kids (l := p) (fun a ha => by have := ho n x hx a (by rw [hpq]; simp [ha]); omega) hp
          obtain rfl := p1.det r1
          have tm := cnn_told gm h.nd h.ord
          have s1 := cnn_stable h.nd p2
          have s2 := cnn_stable tm.nd (p2.mono (pre_at tm.pre))
          have s3 := cnn_again gm h.nd h.ord List.prefix_rfl tm.nd tm.ord
          have e : cnn (fp.app (gm.app g3)) (cnn gm out).1 = cnn (fp.app (gm.app g3)) out := by
            simp only [cnn_app, s1, s2, s3]
          have e2 : (cnn (.cons x.op x.w x.fl x.imm (fp.app (gm.app g3)) .nil) (cnn gm out).1).1 = (cnn (.cons x.op x.w x.fl x.imm (fp.app (gm.app g3)) .nil) out).1 := by
            simp only [cnn, e]
          rw [e2]
          exact hrest

theorem ShI.end_ {t : List Nd} {tab : List Int} {out res : List Nd} (h : ShI t tab [] out res) : out = res := by
  have := h.fin
  cases this with
  | nil => rfl
end T
end Go.Proofs.YtbiopedpceddeaaGreatDoor
end
section
namespace Go.Proofs.YtbiopedpceddeaaGreatDoor
open Go.RowKit

namespace Fr
open Rg
section
variable {P : Program} {ops : Array Oper} {md : Region.Mode}

/-- values with the allocs' addresses -/
def vg (al : Nat → Option Obj) (vs : Nat → Value) (g : Nat → Nat) (k : Nat) : Value := if (al k).isSome then .pointer (some ⟨g k, 0, none⟩) else vs k

structure FineF (md : Region.Mode) (ops : Array Oper) (al : Nat → Option Obj) : Prop where
  sel : ∀ (j : Nat) (o : Oper) cs b, ops[j]? = some o → o.op ≠ .select cs b
  apart : ∀ (i j : Nat) (t : Tmp), i < ops.size → j < ops.size → i ≠ j → dst ops i = some t → dst ops j ≠ some t
  dep : ∀ (i : Nat) (o : Oper) (t : Tmp) (k : Nat), ops[i]? = some o → t ∈ o.looksAt ops → dst ops k = some t → al k = none ∧ ∃ e ∈ o.after, Region.binds md e = true ∧ e.on = k
  lex : ∀ (i : Nat) (o : Oper) (e : Edge), ops[i]? = some o → e ∈ o.after → Region.binds md e = true → e.on < i

structure InvF (md : Region.Mode) (ops : Array Oper) (al : Nat → Option Obj) (W : World) (vs : Nat → Value) (a : Act) (listed : Array Bool) (g : Nat → Nat) (act : Act) (w : World) : Prop where
  size : listed.size = ops.size
  act : act = cp ops (vg al vs g) a (fun k => listed.getD k false) ops.size
  below : Below W.heap.size W w
  row : ∀ k obj, al k = some obj → listed.getD k false = true → W.heap.size ≤ g k ∧ w.heap[g k]? = some obj
  ne : ∀ k k', (al k).isSome → (al k').isSome → listed.getD k false = true → listed.getD k' false = true → k ≠ k' → g k ≠ g k'

theorem cp_vals {vs vs' : Nat → Value} (a : Act) (c : Nat → Bool) (m : Nat) (h : ∀ k, k < m → c k = true → vs k = vs' k) : cp ops vs a c m = cp ops vs' a c m := by
  induction m with
  | zero => rfl
  | succ m ih =>
    simp only [cp, ih fun k hk => h k (by omega)]
    split
    · rename_i hc; rw [h m (by omega) hc]
    · rfl

theorem some_readyF {al : Nat → Option Obj} (hf : FineF md ops al) {listed : Array Bool} (hs : listed.size = ops.size) (m : Nat) (hm : m ≤ ops.size) (h : ∃ k, k < m ∧ listed.getD k true = false) : ∃ i, i ∈ Region.ready md ops listed := by
  induction m with
  | zero => obtain ⟨k, hk, _⟩ := h; omega
  | succ m ih =>
    by_cases h' : ∃ k, k < m ∧ listed.getD k true = false
    · exact ih (by omega) h'
    · obtain ⟨k, hk, hl⟩ := h
      have e : k = m := by
        rcases Nat.lt_or_ge k m with h1 | h1
        · exact absurd ⟨k, h1, hl⟩ h'
        · omega
      subst e
      have hks : k < ops.size := by omega
      refine ⟨k, mem_ready.2 ⟨hl, ops[k], Array.getElem?_eq_getElem hks, fun e he hb => ?_⟩⟩
      have hlt := hf.lex k _ e (Array.getElem?_eq_getElem hks) he hb
      have : ¬ listed.getD e.on true = false := fun h1 => h' ⟨e.on, hlt, h1⟩
      rw [two_getD (by omega) false true]
      simpa using this

theorem any_free {al : Nat → Option Obj} (hf : FineF md ops al) {W : World} {vs : Nat → Value} {a : Act} {K : Act → World → Prop}
    (hq : ∀ i, i < ops.size → al i = none → ∃ o, ops[i]? = some o ∧ ∀ X, Below W.heap.size W X → YieldsIn P ops (fun Y => Below X.heap.size X Y) o (vs i) (cp ops vs a (fun k => (al k).isNone) i))
    (ha : ∀ i obj, al i = some obj → ∃ o, ops[i]? = some o ∧ o.guard = none ∧ ∀ ρ w, (execOp ρ o).run P w = .ok (.value (.pointer (some ⟨w.heap.size, 0, none⟩))) (w.alloc obj))
    (hK : ∀ (g : Nat → Nat) w, Below W.heap.size W w → (∀ k obj, al k = some obj → k < ops.size → W.heap.size ≤ g k ∧ w.heap[g k]? = some obj) → (∀ k k', k < ops.size → k' < ops.size → (al k).isSome → (al k').isSome → k ≠ k' → g k ≠ g k') → K (cp ops (vg al vs g) a (fun _ => true) ops.size) w) :
    ∀ (fuel : Nat) (listed : Array Bool) (g : Nat → Nat) (act : Act) (w : World), unl listed ops.size ≤ fuel → InvF md ops al W vs a listed g act w → wpAny P md ops (onlyK K) fuel listed act w := by
  intro fuel
  have done : ∀ (listed : Array Bool) (g : Nat → Nat) (act : Act) (w : World), unl listed ops.size = 0 → InvF md ops al W vs a listed g act w → onlyK K .normal act w := by
    intro listed g act w h0 I
    have hall := unl_zero h0
    have hall' : ∀ k, k < ops.size → listed.getD k false = true := fun k hk => by rw [two_getD (by rw [I.size]; omega) false true]; exact hall k hk
    show K act w
    rw [I.act, cp_congr (ops := ops) (vg al vs g) a (c' := fun _ => true) ops.size fun k hk => hall' k hk]
    exact hK g w I.below (fun k obj hk hkl => I.row k obj hk (hall' k hkl)) (fun k k' hk hk' h1 h2 hne => I.ne k k' h1 h2 (hall' k hk) (hall' k' hk') hne)
  have noReady : ∀ (listed : Array Bool) (g : Nat → Nat) (act : Act) (w : World), InvF md ops al W vs a listed g act w → Region.ready md ops listed = [] → unl listed ops.size = 0 := by
    intro listed g act w I hr
    rcases Nat.eq_zero_or_pos (unl listed ops.size) with h | h
    · exact h
    · have hex : ∃ k, k < ops.size ∧ listed.getD k true = false := by
        apply Classical.byContradiction
        intro hno
        have : ∀ m, m ≤ ops.size → unl listed m = 0 := by
          intro m
          induction m with
          | zero => intro _; rfl
          | succ m ih =>
            intro hm
            simp only [unl, ih (by omega)]
            cases hl : listed.getD m true
            · exact absurd ⟨m, by omega, hl⟩ hno
            · simp
        have := this _ (Nat.le_refl _)
        omega
      obtain ⟨i, hi⟩ := some_readyF hf I.size ops.size (Nat.le_refl _) hex
      rw [hr] at hi
      cases hi
  induction fuel with
  | zero =>
    intro listed g act w hu I
    have h0 : unl listed ops.size = 0 := by omega
    refine ⟨?_, done listed g act w h0 I⟩
    have hall := unl_zero h0
    cases hr : Region.ready md ops listed with
    | nil => rfl
    | cons i r =>
      have hi : i ∈ Region.ready md ops listed := by rw [hr]; simp
      obtain ⟨h1, o, ho, _⟩ := mem_ready.1 hi
      rw [hall i (at_lt ho)] at h1
      cases h1
  | succ fuel ih =>
    intro listed g act w hu I
    refine ⟨fun hr => done listed g act w (noReady listed g act w I hr) I, fun i hi => ?_⟩
    obtain ⟨hun, o, ho, hedges⟩ := mem_ready.1 hi
    have hilt := at_lt ho
    have hun' : listed.getD i false = false := by rw [two_getD (by rw [I.size]; omega) false true]; exact hun
    have hcount := unl_set hun ops.size hilt
    have his : i < listed.size := by rw [I.size]; exact hilt
    have hset : (listed.setIfInBounds i true).getD i false = true := by simp [his]
    have hother : ∀ k, k ≠ i → (listed.setIfInBounds i true).getD k false = listed.getD k false := fun k hk => getD_set_ne false (fun e => hk e.symm)
    have hdi : dst ops i = o.dst := by simp [dst, ho]
    cases hal : al i with
    | none =>
      obtain ⟨o2, ho2, hy⟩ := hq i hilt hal
      rw [ho] at ho2
      cases ho2
      have evs : ∀ t, t ∈ o.looksAt ops → act.eval (.tmp t) = (cp ops vs a (fun k => (al k).isNone) i).eval (.tmp t) := by
        intro t ht
        rw [I.act]
        by_cases hex : ∃ k, k < ops.size ∧ dst ops k = some t
        · obtain ⟨k, hk, hd⟩ := hex
          obtain ⟨hak, e, he, hb, hon⟩ := hf.dep i o t k ho ht hd
          have hkl : listed.getD k false = true := by rw [← hon]; exact hedges e he hb
          have hki : k < i := by rw [← hon]; exact hf.lex i o e ho he hb
          rw [eval_hit (vg al vs g) a _ t k hd hkl ops.size hk fun j hj hjk => hf.apart k j t (dst_lt hd) (by omega) (fun e => hjk e.symm) hd,
            eval_hit vs a _ t k hd (by simp [hak]) i hki fun j hj hjk => hf.apart k j t (dst_lt hd) (by omega) (fun e => hjk e.symm) hd]
          unfold vg
          rw [hak]
          rfl
        · have hno : ∀ k, k < ops.size → dst ops k ≠ some t := fun k hk hd => hex ⟨k, hk, hd⟩
          rw [eval_none (vg al vs g) a _ t ops.size hno, eval_none vs a _ t i fun k hk => hno k (by omega)]
      obtain ⟨e1, e2⟩ := same_of_evals (hf.sel i o · · ho) evs
      have hy' := (hy w I.below).of_same e1 e2
      refine wpOp_of_qOp (C := fun Y => Below w.heap.size w Y) (K := fun a' => a' = act.put o.dst (vs i)) (Below.refl _ _) ?_ (hy'.qOp ho rfl)
      rintro a' w' hw' rfl
      refine ih _ g _ _ (by omega) ⟨by simp [I.size], ?_, I.below.trans (hw'.mono I.below.size), fun k obj hk hkl => ?_, fun k k' h1 h2 hk hk' hne => ?_⟩
      · have := cp_set (ops := ops) (vg al vs g) a (c := fun k => listed.getD k false) (c' := fun k => (listed.setIfInBounds i true).getD k false) i ops.size hilt hun' hset hother (fun k t hk hki hd => hf.apart k i t (dst_lt hd) hilt hki hd)
        rw [this, ← I.act, hdi]
        unfold vg
        rw [hal]
        rfl
      · have hki : k ≠ i := by rintro rfl; rw [hal] at hk; cases hk
        rw [hother k hki] at hkl
        obtain ⟨h1, h2⟩ := I.row k obj hk hkl
        exact ⟨h1, (hw'.block _ (Array.getElem?_eq_some_iff.1 h2).1).trans h2⟩
      · have hki : k ≠ i := by rintro rfl; rw [hal] at h1; cases h1
        have hki' : k' ≠ i := by rintro rfl; rw [hal] at h2; cases h2
        rw [hother k hki] at hk
        rw [hother k' hki'] at hk'
        exact I.ne k k' h1 h2 hk hk' hne
    | some obj =>
      obtain ⟨o2, ho2, hgd, hrun⟩ := ha i obj hal
      rw [ho] at ho2
      cases ho2
      have hwant : Region.wanted o (yielded ops act.tmps) = true := by unfold Region.wanted; rw [hgd]
      unfold wpOp
      simp only [ho]
      rw [if_pos hwant]
      left
      unfold Oper.wp
      rw [hrun]
      simp only [Oper.upon]
      have hg : ∀ k, k ≠ i → (fun k => if k = i then w.heap.size else g k) k = g k := fun k hk => if_neg hk
      refine ih _ (fun k => if k = i then w.heap.size else g k) _ _ (by omega) ⟨by simp [I.size], ?_, I.below.alloc I.below.size obj, fun k ob hk hkl => ?_, fun k k' h1 h2 hk hk' hne => ?_⟩
      · have := cp_set (ops := ops) (vg al vs (fun k => if k = i then w.heap.size else g k)) a (c := fun k => listed.getD k false) (c' := fun k => (listed.setIfInBounds i true).getD k false) i ops.size hilt hun' hset hother (fun k t hk hki hd => hf.apart k i t (dst_lt hd) hilt hki hd)
        rw [this, hdi, I.act]
        have e : cp ops (vg al vs g) a (fun k => listed.getD k false) ops.size = cp ops (vg al vs (fun k => if k = i then w.heap.size else g k)) a (fun k => listed.getD k false) ops.size := by
          refine cp_vals a _ _ fun k hk hkl => ?_
          have hki : k ≠ i := by rintro rfl; rw [hun'] at hkl; cases hkl
          unfold vg
          simp only [if_neg hki]
        rw [e]
        congr 1
        unfold vg
        simp [hal]
      · by_cases hki : k = i
        · subst hki
          rw [hal] at hk
          cases hk
          simp only [if_true]
          exact ⟨I.below.size, heap_alloc_new w obj⟩
        · rw [hother k hki] at hkl
          obtain ⟨h1, h2⟩ := I.row k ob hk hkl
          simp only [if_neg hki]
          exact ⟨h1, (Below.heap_alloc _ _ _ (Array.getElem?_eq_some_iff.1 h2).1).trans h2⟩
      · have lt : ∀ q, q ≠ i → (al q).isSome → (listed.setIfInBounds i true).getD q false = true → g q < w.heap.size := fun q hq h hl => by
          obtain ⟨ob, hob⟩ := Option.isSome_iff_exists.1 h
          rw [hother q hq] at hl
          exact (Array.getElem?_eq_some_iff.1 (I.row q ob hob hl).2).1
        by_cases hki : k = i
        · have hki' : k' ≠ i := fun e => hne (hki.trans e.symm)
          simp only [if_pos hki, if_neg hki']
          have := lt k' hki' h2 hk'
          omega
        · by_cases hki' : k' = i
          · simp only [if_neg hki, if_pos hki']
            have := lt k hki h1 hk
            omega
          · simp only [if_neg hki, if_neg hki']
            rw [hother k hki] at hk
            rw [hother k' hki'] at hk'
            exact I.ne k k' h1 h2 hk hk' hne
end
end Fr
end Go.Proofs.YtbiopedpceddeaaGreatDoor
end
