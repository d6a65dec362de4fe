/- Merged: M6, T1, OpenN, PlainS. -/
import Derived.Test.YtmebpgggfppmhaaDoorG06
import Derived.RangeFuncCalls
import Derived.Test.YtmebpgggfppmhaaDoorG03
import Derived.BigGuardPart
import Derived.Laws.StructEq
import Derived.Test.YtmebpgggfppmhaaDoorG04
set_option linter.unusedVariables false
set_option linter.unusedSimpArgs false
section
section
namespace Go.Proofs.YtmebpgggfppmhaaDoor
open Go.RowKit
set_option linter.unusedVariables false
set_option linter.unusedSimpArgs false
attribute [local go_sem] Oper.semAt_some

/-- the mark that a range over a function leaves -/
def Mk (r : Nat) : Deferred := { target := .collected r, args := #[] }
/-- marks whose blocks hold no call -/
structure Marks (W : World) (B : Nat) (rs : List Nat) : Prop where
  nodup : rs.Nodup
  all : ∀ r ∈ rs, B ≤ r ∧ W.heap[r]? = some (.deferred (some []))

/-- what stays where marks are shut -/
structure Off (B : Nat) (W W' : World) : Prop where
  below : Below B W W'
  keep : ∀ (g : Nat) (o : Obj), W.heap[g]? = some o → (∀ ds, o ≠ .deferred ds) → W'.heap[g]? = some o
theorem Off.refl (B : Nat) (W : World) : Off B W W := ⟨Below.refl _ _, fun _ _ h _ => h⟩

theorem leaves_marks {F : Fence} {n : Nat} {P : Program} {fn : Func} {tmps : Array Value} {R : Ending → World → Prop} {B : Nat} : ∀ (rs : List Nat) (W : World), Marks W B rs →
    (∀ W', Off B W W' → ∃ v, (results fn tmps).run P W' = .ok v W' ∧ R (.returned v) W') → LeavesInM F n P fn tmps R (rs.map Mk) .returning W
  | [], W, _, h => h W (Off.refl _ _)
  | r :: rs, W, hm, h => by
    obtain ⟨hB, hr⟩ := hm.all r (List.mem_cons_self ..)
    refine ⟨by simp, .inl ⟨r, _, rfl, run_takeDeferred hr, ?_⟩⟩
    have hnd := List.nodup_cons.1 hm.nodup
    have hoff : Off B W (W.putObj r (.deferred none)) := ⟨below_putObj (Below.refl _ _) hB _, fun g o hg hne => by
      have : g ≠ r := by rintro rfl; rw [hr] at hg; exact hne _ (Option.some.inj hg).symm
      rw [World.putObj_heap_other this]; exact hg⟩
    refine leaves_marks rs _ ⟨hnd.2, fun r' hr' => ?_⟩ fun W' hW' => h W' ⟨hoff.below.trans hW'.below, fun g o hg hne => hW'.keep g o (hoff.keep g o hg hne) hne⟩
    obtain ⟨hB', h'⟩ := hm.all r' (List.mem_cons_of_mem _ hr')
    have : r' ≠ r := by rintro rfl; exact hnd.1 hr'
    exact ⟨hB', by rw [World.putObj_heap_other this]; exact h'⟩

theorem Marks.lt {W : World} {B : Nat} {rs : List Nat} (h : Marks W B rs) : ∀ r ∈ rs, r < W.heap.size := fun r hr => (Array.getElem?_eq_some_iff.1 (h.all r hr).2).1
theorem Marks.keep {W Y : World} {B C : Nat} {rs : List Nat} (h : Marks W B rs) (hlt : ∀ r ∈ rs, r < C) (hk : ∀ g, g < C → Y.heap[g]? = W.heap[g]?) : Marks Y B rs := ⟨h.nodup, fun r hr => ⟨(h.all r hr).1, (hk r (hlt r hr)).trans (h.all r hr).2⟩⟩
theorem RowArg.ck {k w : Nat} {A A' : World} {x : List K.Stp} {args : Array Value} (h : RowArg k w A x args) (hc : CK A A') : RowArg k w A' x args := by
  obtain ⟨Ar, cr, Al, cl, rfl, h1, h2⟩ := h
  refine ⟨Ar, cr, Al, cl, rfl, ⟨h1.1, h1.2.1, fun j y hy => ?_⟩, ⟨h2.1, h2.2.1, fun j y hy => ?_⟩⟩
  · obtain ⟨b, off, us, e1, e2, e3, e4, e5⟩ := h1.2.2 j y hy
    exact ⟨b, off, us, e1, Nat.lt_of_lt_of_le e2 hc.size, e3, fun i u hu => hc.cell _ _ (e4 i u hu), e5⟩
  · obtain ⟨b, off, u, e1, e2, e3, e4⟩ := h2.2.2 j y hy
    exact ⟨b, off, u, e1, Nat.lt_of_lt_of_le e2 hc.size, hc.cell _ _ e3, e4⟩
theorem Marks.cons {W : World} {B g : Nat} {rs : List Nat} (h : Marks W B rs) (hg : W.heap[g]? = some (.deferred (some []))) (hB : B ≤ g) (hlt : ∀ r ∈ rs, r < g) : Marks W B (g :: rs) :=
  ⟨List.nodup_cons.2 ⟨fun hm => Nat.lt_irrefl _ (hlt g hm), h.nodup⟩, fun r hr => by
    rcases List.mem_cons.1 hr with rfl | hr
    · exact ⟨hB, hg⟩
    · exact h.all r hr⟩
theorem first_at {k w q most : Nat} {t : List Int} {pre : List (List K.Stp)} {x : List K.Stp} (h1 : K.None_ k w t (K.upTo k q)) (h2 : K.None_ k w t pre) (hp : pre ++ [x] <+: K.rows k q) (hx : K.meaning k w x = t) (hq : q < most) : K.first k w t most = some x := by
  obtain ⟨l, hl⟩ := hp
  refine K.first_some h1 (i := pre.length) (row := x) ?_ ?_ hx hq
  · rw [← hl, List.append_assoc, List.take_left]; exact h2
  · rw [← hl, List.append_assoc, List.getElem?_append_right (Nat.le_refl _)]; simp

end Go.Proofs.YtmebpgggfppmhaaDoor
end
section
namespace Go.Proofs.YtmebpgggfppmhaaDoor
open Go.RowKit
set_option linter.unusedVariables false
set_option linter.unusedSimpArgs false

theorem shortest_cases (k w : Int) (t : List Int) : K.shortest k w t = if (K.over k w && K.isTable k.toNat w.toNat t) = true then (match K.first k.toNat w.toNat t 3 with | some r => (r, true, (0 : Int)) | none => ([], false, 0)) else ([], false, 1) := by
  unfold K.shortest
  cases K.over k w <;> cases K.isTable k.toNat w.toNat t <;> first | rfl | simp

/-- three fields of type e, one cell each, none of them blank -/
def threeB (fs : List Field) (e : TypeId) : Bool := match fs with
  | [f0, f1, f2] => decide (f0.name ≠ "_") && decide (f1.name ≠ "_") && decide (f2.name ≠ "_") && decide (f0.type = e) && decide (f1.type = e) && decide (f2.type = e) && decide (f0.offset = 0) && decide (f1.offset = 1) && decide (f2.offset = 2)
  | _ => false
theorem threeB_spec {fs : List Field} {e : TypeId} (h : threeB fs e = true) : ∃ f0 f1 f2 : Field, fs = [f0, f1, f2] ∧ f0.name ≠ "_" ∧ f1.name ≠ "_" ∧ f2.name ≠ "_" ∧ f0.type = e ∧ f1.type = e ∧ f2.type = e ∧ f0.offset = 0 ∧ f1.offset = 1 ∧ f2.offset = 2 := by
  unfold threeB at h
  split at h
  · rename_i f0 f1 f2
    simp only [Bool.and_eq_true, decide_eq_true_eq] at h
    obtain ⟨⟨⟨⟨⟨⟨⟨⟨a, b⟩, c⟩, d⟩, e⟩, f⟩, g⟩, i⟩, j⟩ := h
    exact ⟨f0, f1, f2, rfl, a, b, c, d, e, f, g, i, j⟩
  · cases h
theorem known_plain : K.shortest 1 3 [7, 0, 1, 2, 3, 4, 5, 6] = ([(1, 0, 2)], true, 0) := by decide +kernel
end Go.Proofs.YtmebpgggfppmhaaDoor
end
section
namespace Go.Proofs.YtmebpgggfppmhaaDoor
open Go.RowKit
set_option linter.unusedVariables false
set_option linter.unusedSimpArgs false

end Go.Proofs.YtmebpgggfppmhaaDoor
end
end
section
namespace Go.Proofs.YtmebpgggfppmhaaDoor
open Go.RowKit
set_option linter.unusedVariables false
set_option linter.unusedSimpArgs false

/-- the cells of a node -/
def ndC (x : T.Nd) (A : Option Addr) (c : Nat) : List Value := [.int .i64 x.op, .int .i64 x.w, .int .i64 x.fl, .slice A x.args.length c, .int .u32 x.imm]
/-- five cells read as a node -/
def NdR (W : World) (us : List Value) (x : T.Nd) : Prop := ∃ A c, us = ndC x A c ∧ SlAt (IntR .i64) W A x.args.length x.args ∧ 0 ≤ x.imm ∧ x.imm < 4294967296
theorem monoNd : MonoL NdR := by
  rintro w w' us x hb ⟨A, c, rfl, h, h2⟩
  exact ⟨A, c, rfl, h.below (monoInt _) hb, h2⟩

theorem ret_ib {a b : Int} {x y : Bool} (h1 : a = b) (h2 : x = y) : Ending.returned (.tuple #[.int .i64 a, .bool x]) = .returned (.tuple #[.int .i64 b, .bool y]) := by rw [h1, h2]

theorem ar_cases (op : Int) : (op = 0 ∧ T.ar op = 0) ∨ (op = 33 ∧ T.ar op = 0) ∨ (1 ≤ op ∧ op ≤ 14 ∧ T.ar op = 2) ∨ (op = 15 ∧ T.ar op = 3) ∨ (16 ≤ op ∧ op ≤ 18 ∧ T.ar op = 1) ∨ (¬ op = 0 ∧ ¬ op = 33 ∧ ¬ (1 ≤ op ∧ op ≤ 14) ∧ ¬ op = 15 ∧ ¬ (16 ≤ op ∧ op ≤ 18) ∧ T.ar op = -1) := by
  unfold T.ar
  by_cases h0 : op = 0
  · exact .inl ⟨h0, by rw [if_pos (.inl h0)]⟩
  by_cases h33 : op = 33
  · exact .inr (.inl ⟨h33, by rw [if_pos (.inr h33)]⟩)
  rw [if_neg (by omega)]
  by_cases h14 : 1 ≤ op ∧ op ≤ 14
  · exact .inr (.inr (.inl ⟨h14.1, h14.2, by rw [if_pos h14]⟩))
  rw [if_neg h14]
  by_cases h15 : op = 15
  · exact .inr (.inr (.inr (.inl ⟨h15, by rw [if_pos h15]⟩)))
  rw [if_neg h15]
  by_cases h18 : 16 ≤ op ∧ op ≤ 18
  · exact .inr (.inr (.inr (.inr (.inl ⟨h18.1, h18.2, by rw [if_pos h18]⟩))))
  rw [if_neg h18]
  exact .inr (.inr (.inr (.inr (.inr ⟨h0, h33, h14, h15, h18, rfl⟩))))

/-- the node as a value -/
def ndV (x : T.Nd) (A : Option Addr) (c : Nat) : Value := .agg #[.int .i64 x.op, .int .i64 x.w, .int .i64 x.fl, .slice A x.args.length c, .int .u32 x.imm]

end Go.Proofs.YtmebpgggfppmhaaDoor
end
section
namespace Go.Proofs.YtmebpgggfppmhaaDoor
open Go.ChangeShapes Go.WideShapes Go.ChangeAt Go.RowKit Go.Deep
set_option linter.unusedVariables false
set_option linter.unusedSimpArgs false

theorem cellsIntN : Tryd.prog.cellsOf 3 = 1 := by kernel_rfl
theorem cellsNode : Tryd.prog.cellsOf 41 = 5 := by kernel_rfl

/-- five cells read as a node -/
theorem readsNode {H : Type} {enc : TypeId × Value → H} {W : World} {fs : Array Field} (hfs : fs.size = 5) (hty : ∀ (j : Nat) (f : Field), fs[j]? = some f → f.type = (#[3, 3, 3, 38, 39]).getD j 0) : ReadsSt enc Tryd.prog W fs NdR := by
  intro n us hl hu
  have get : ∀ j, j < 5 → ∃ u y, us[j]? = some u ∧ DataW.trod enc Tryd.prog W 0 (fun _ => true) true n ((#[3, 3, 3, 38, 39]).getD j 0) [u] = some y := fun j hj => by
    have hj' : j < fs.size := by omega
    obtain ⟨u, y, h1, h2⟩ := hu j fs[j] (Array.getElem?_eq_getElem hj')
    rw [hty j _ (Array.getElem?_eq_getElem hj')] at h2
    exact ⟨u, y, h1, h2⟩
  obtain ⟨u0, y0, g0, h0⟩ := get 0 (by omega)
  obtain ⟨u1, y1, g1, h1⟩ := get 1 (by omega)
  obtain ⟨u2, y2, g2, h2⟩ := get 2 (by omega)
  obtain ⟨u3, y3, g3, h3⟩ := get 3 (by omega)
  obtain ⟨u4, y4, g4, h4⟩ := get 4 (by omega)
  obtain ⟨a, e0, _, _⟩ := DataW.trod_int Tryd.underlying3 h0
  obtain ⟨b, e1, _, _⟩ := DataW.trod_int Tryd.underlying3 h1
  obtain ⟨c, e2, _, _⟩ := DataW.trod_int Tryd.underlying3 h2
  obtain ⟨l, A, cp, e3, s3⟩ := readsSl (enc := enc) (W := W) Tryd.underlying38 cellsIntN (readsInt Tryd.underlying3) n u3 y3 h3
  obtain ⟨d, e4, d0, d1⟩ := readsWord (enc := enc) (W := W) Tryd.underlying39 n u4 y4 h4
  have e0' := (List.cons.inj e0).1
  have e1' := (List.cons.inj e1).1
  have e2' := (List.cons.inj e2).1
  rw [hfs] at hl
  refine ⟨⟨a, b, c, l, d⟩, A, cp, ?_, s3, d0, d1⟩
  match us, hl, g0, g1, g2, g3, g4 with
  | [v0, v1, v2, v3, v4], _, g0, g1, g2, g3, g4 =>
    simp at g0 g1 g2 g3 g4
    subst g0 g1 g2 g3 g4
    rw [e0', e1', e2', e3, e4]
    rfl

set_option maxRecDepth 100000 in
/-- a list of nodes that came in -/
theorem open_nodes {H : Type} {enc : TypeId × Value → H} {W : World} {r : Reach} {b0 : Nat} {v : Value} {d : DataW H} {ps : List MemPlace} (hval : Value.okWide Tryd.prog W r b0 22 v) (h : DataW.Trod enc Tryd.prog W 0 (fun _ => true) true 22 v d ps) :
    ∃ A m c xs, v = .slice A m c ∧ StAt 5 NdR W A m xs :=
  open_st (R := NdR) Tryd.underlying22 Tryd.underlying41 (by kernel_rfl) cellsNode (by decide) (readsNode rfl (fun j f h => by rcases j with _ | _ | _ | _ | _ | j <;> simp at h <;> (subst h; rfl))) hval h
end Go.Proofs.YtmebpgggfppmhaaDoor
end
section
namespace Go.Proofs.YtmebpgggfppmhaaDoor
set_option linter.unusedVariables false
set_option linter.unusedSimpArgs false
namespace T

/-- what nodes stand for: a forest -/
inductive F where
  | nil
  | cons (op w fl imm : Int) (kids rest : F)

def F.app : F → F → F
  | .nil, g => g
  | .cons op w fl imm kids rest, g => .cons op w fl imm kids (rest.app g)
def F.ht : F → Nat
  | .nil => 0
  | .cons _ _ _ _ kids rest => max (kids.ht + 1) rest.ht

def addN (out : List Nd) (y : Nd) : List Nd × Int := (if y ∈ out then out else out ++ [y], (out.idxOf y : Int))

/-- a forest told onto a list of nodes -/
def cnn : F → List Nd → List Nd × List Int
  | .nil, out => (out, [])
  | .cons op w fl imm kids rest, out =>
    ((cnn rest (addN (cnn kids out).1 ⟨op, w, fl, (cnn kids out).2, imm⟩).1).1,
      (addN (cnn kids out).1 ⟨op, w, fl, (cnn kids out).2, imm⟩).2 :: (cnn rest (addN (cnn kids out).1 ⟨op, w, fl, (cnn kids out).2, imm⟩).1).2)

/-- the nodes of these numbers stand for a forest -/
inductive Rep (t : List Nd) : List Int → F → Prop where
  | nil : Rep t [] .nil
  | cons {a : Int} {la : List Int} {x : Nd} {kids rest : F} (h0 : 0 ≤ a) (hx : t[a.toNat]? = some x) (hk : Rep t x.args kids) (hr : Rep t la rest) : Rep t (a :: la) (.cons x.op x.w x.fl x.imm kids rest)

/-- each operand stands ahead -/
def Ord (t : List Nd) : Prop := ∀ (k : Nat) (x : Nd), t[k]? = some x → ∀ a ∈ x.args, 0 ≤ a ∧ a < (k : Int)

theorem Rep.mono {t u : List Nd} (h : ∀ (i : Nat) (x : Nd), t[i]? = some x → u[i]? = some x) {la : List Int} {f : F} (r : Rep t la f) : Rep u la f := by
  induction r with
  | nil => exact .nil
  | cons h0 hx _ _ ih1 ih2 => exact .cons h0 (h _ _ hx) ih1 ih2

theorem Rep.det {t : List Nd} {la : List Int} {f g : F} (r : Rep t la f) : Rep t la g → f = g := by
  induction r generalizing g with
  | nil => intro s; cases s; rfl
  | cons h0 hx _ _ ih1 ih2 =>
    intro s
    cases s with
    | cons h0' hx' hk' hr' =>
      rw [hx] at hx'
      cases hx'
      rw [ih1 hk', ih2 hr']

theorem Rep.app {t : List Nd} {la bs : List Int} {f g : F} (r : Rep t la f) (s : Rep t bs g) : Rep t (la ++ bs) (f.app g) := by
  induction r with
  | nil => exact s
  | cons h0 hx hk _ _ ih2 => exact .cons h0 hx hk ih2

theorem Rep.ex {t : List Nd} (ho : Ord t) : ∀ (n : Nat), n ≤ t.length → ∀ (la : List Int), (∀ a ∈ la, 0 ≤ a ∧ a < (n : Int)) → ∃ f, Rep t la f := by
  intro n
  induction n with
  | zero =>
    intro _ la h
    cases la with
    | nil => exact ⟨_, .nil⟩
    | cons a la => have := h a (by simp); omega
  | succ n ih =>
    intro hn la h
    induction la with
    | nil => exact ⟨_, .nil⟩
    | cons a la ih2 =>
      obtain ⟨g, hg⟩ := ih2 (fun b hb => h b (by simp [hb]))
      have ha := h a (by simp)
      have hl : a.toNat < t.length := by omega
      have hx := List.getElem?_eq_getElem hl
      obtain ⟨f, hf⟩ := ih (by omega) (t[a.toNat]).args (fun b hb => by have := ho _ _ hx b hb; omega)
      exact ⟨_, .cons ha.1 hx hf hg⟩

theorem Rep.one {t : List Nd} (ho : Ord t) {k : Nat} (hk : k < t.length) : ∃ f, Rep t [(k : Int)] f := Rep.ex ho (k + 1) hk _ (fun a ha => by simp at ha; omega)

theorem addN_spec {out : List Nd} {y : Nd} (hn : out.Nodup) : out <+: (addN out y).1 ∧ (addN out y).1.Nodup ∧ 0 ≤ (addN out y).2 ∧ (addN out y).2 < (addN out y).1.length ∧ (addN out y).1[(addN out y).2.toNat]? = some y := by
  unfold addN
  by_cases h : y ∈ out
  · rw [if_pos h]
    have hl := List.idxOf_lt_length_of_mem h
    exact ⟨List.prefix_rfl, hn, by omega, by dsimp only; omega, by dsimp only; rw [Int.toNat_natCast, List.getElem?_eq_getElem hl]; simp⟩
  · rw [if_neg h]
    have e : List.idxOf y out = out.length := List.idxOf_eq_length h
    refine ⟨List.prefix_append _ _, ?_, by omega, by dsimp only; rw [e]; simp; omega, by dsimp only; rw [e]; simp⟩
    rw [List.nodup_append]
    exact ⟨hn, by simp, fun a ha b hb => by simp at hb; subst hb; exact fun e => h (e ▸ ha)⟩

theorem addN_ord {out : List Nd} {y : Nd} (ho : Ord out) (hy : ∀ a ∈ y.args, 0 ≤ a ∧ a < (out.length : Int)) : Ord (addN out y).1 := by
  unfold addN
  by_cases h : y ∈ out
  · rw [if_pos h]; exact ho
  · rw [if_neg h]
    intro k x hx a ha
    rcases Nat.lt_or_ge k out.length with hk | hk
    · rw [List.getElem?_append_left hk] at hx; exact ho k x hx a ha
    · rw [List.getElem?_append_right hk] at hx
      have : k - out.length = 0 := by
        rcases Nat.eq_zero_or_pos (k - out.length) with e | e
        · exact e
        · rw [List.getElem?_eq_none (by simp; omega)] at hx; cases hx
      rw [this] at hx
      simp at hx
      subst hx
      have := hy a ha
      omega

theorem pre_at {α : Type} {l m : List α} (h : l <+: m) (i : Nat) (x : α) (hx : l[i]? = some x) : m[i]? = some x := by
  obtain ⟨u, rfl⟩ := h
  rw [List.getElem?_append_left (List.getElem?_eq_some_iff.1 hx).1]
  exact hx

theorem pre_le {α : Type} {l m : List α} (h : l <+: m) : l.length ≤ m.length := h.length_le

theorem idx_at {out : List Nd} (hn : out.Nodup) {a : Nat} {x : Nd} (hx : out[a]? = some x) : x ∈ out ∧ out.idxOf x = a := by
  obtain ⟨hl, e⟩ := List.getElem?_eq_some_iff.1 hx
  refine ⟨List.mem_of_getElem? hx, ?_⟩
  subst e
  exact hn.idxOf_getElem a hl

/-- what is there already is not told again -/
theorem cnn_stable {out : List Nd} (hn : out.Nodup) {la : List Int} {f : F} (r : Rep out la f) : cnn f out = (out, la) := by
  induction r with
  | nil => rfl
  | @cons a la x kids rest h0 hx _ _ ih1 ih2 =>
    obtain ⟨hm, hi⟩ := idx_at hn hx
    have e : addN out ⟨x.op, x.w, x.fl, x.args, x.imm⟩ = (out, a) := by
      show addN out x = _
      unfold addN
      rw [if_pos hm, hi, Int.toNat_of_nonneg h0]
    simp only [cnn, ih1, e, ih2]

structure Told (out : List Nd) (r : List Nd × List Int) (f : F) : Prop where
  pre : out <+: r.1
  nd : r.1.Nodup
  ord : Ord r.1
  rep : Rep r.1 r.2 f
  lo : ∀ a ∈ r.2, 0 ≤ a ∧ a < (r.1.length : Int)

theorem cnn_told (f : F) : ∀ {out : List Nd}, out.Nodup → Ord out → Told out (cnn f out) f := by
  induction f with
  | nil => intro out hn ho; exact ⟨List.prefix_rfl, hn, ho, .nil, fun a ha => by simp [cnn] at ha⟩
  | cons op w fl imm kids rest ih1 ih2 =>
    intro out hn ho
    obtain ⟨p1, n1, o1, r1, l1⟩ := ih1 hn ho
    simp only [cnn]
    generalize hc1 : cnn kids out = c1 at *
    obtain ⟨p2, n2, z2, l2, g2⟩ := addN_spec (y := ⟨op, w, fl, c1.2, imm⟩) n1
    have o2 := addN_ord (y := ⟨op, w, fl, c1.2, imm⟩) o1 l1
    generalize hc2 : addN c1.1 ⟨op, w, fl, c1.2, imm⟩ = c2 at *
    obtain ⟨p3, n3, o3, r3, l3⟩ := ih2 n2 o2
    generalize hc3 : cnn rest c2.1 = c3 at *
    have hp : c1.1 <+: c3.1 := p2.trans p3
    refine ⟨p1.trans hp, n3, o3, ?_, ?_⟩
    · exact Rep.cons (x := ⟨op, w, fl, c1.2, imm⟩) z2 (pre_at p3 _ _ g2) (r1.mono (pre_at hp)) r3
    · intro a ha
      rcases List.mem_cons.1 ha with rfl | ha
      · have := pre_le p3; dsimp only; omega
      · exact l3 a ha

theorem cnn_app (f g : F) : ∀ (out : List Nd), cnn (f.app g) out = ((cnn g (cnn f out).1).1, (cnn f out).2 ++ (cnn g (cnn f out).1).2) := by
  induction f with
  | nil => intro out; rfl
  | cons op w fl imm kids rest _ ih2 => intro out; simp only [F.app, cnn, ih2]; rfl

/-- of these nodes none is higher -/
def Low (out : List Nd) (h : Nat) : Prop := ∀ (i : Int) (f : F), Rep out [i] f → f.ht ≤ h

theorem ord_nil : Ord [] := fun k x h => by simp at h
theorem low_nil (h : Nat) : Low [] h := fun i f r => by cases r with | cons h0 hx _ _ => simp at hx

theorem Rep.cut {out u : List Nd} (ho : Ord out) {i : Int} {f : F} (hi : i < (out.length : Int)) (r : Rep (out ++ u) [i] f) : Rep out [i] f := by
  have h0 : 0 ≤ i := by cases r with | cons h0 _ _ _ => exact h0
  obtain ⟨g, hg⟩ := Rep.ex ho out.length (Nat.le_refl _) [i] (fun a ha => by simp at ha; omega)
  have := (hg.mono (u := out ++ u) (fun k x hx => pre_at (List.prefix_append _ _) k x hx)).det r
  rw [← this]; exact hg

theorem low_add {out : List Nd} {y : Nd} {h : Nat} {kids : F} (ho : Ord out) (hy : ∀ a ∈ y.args, 0 ≤ a ∧ a < (out.length : Int)) (hk : Rep out y.args kids) (hl : Low out h) : Low (addN out y).1 (max h (kids.ht + 1)) := by
  unfold addN
  by_cases hm : y ∈ out
  · rw [if_pos hm]; intro i f r; have := hl i f r; omega
  · rw [if_neg hm]
    intro i f r
    rcases Int.lt_or_le i out.length with hi | hi
    · have := hl i f (r.cut ho hi); omega
    · cases r with
      | @cons _ _ x kids' rest h0 hx hk' hr =>
        cases hr
        have hi' : i.toNat = out.length := by
          have := (List.getElem?_eq_some_iff.1 hx).1
          simp at this
          omega
        rw [hi'] at hx
        simp at hx
        subst hx
        have e := (hk.mono (u := out ++ [y]) (fun k x hx => pre_at (List.prefix_append _ _) k x hx)).det hk'
        subst e
        simp only [F.ht]
        omega

theorem cnn_low (f : F) : ∀ {out : List Nd} {h : Nat}, out.Nodup → Ord out → Low out h → Low (cnn f out).1 (max h f.ht) := by
  induction f with
  | nil => intro out h _ _ hl i f r; have := hl i f r; omega
  | cons op w fl imm kids rest ih1 ih2 =>
    intro out h hn ho hl
    have t1 := cnn_told kids hn ho
    have l1 := ih1 hn ho hl
    simp only [cnn]
    have s2 := addN_spec (y := ⟨op, w, fl, (cnn kids out).2, imm⟩) t1.nd
    have o2 := addN_ord (y := ⟨op, w, fl, (cnn kids out).2, imm⟩) t1.ord t1.lo
    have l2 := low_add (y := ⟨op, w, fl, (cnn kids out).2, imm⟩) t1.ord t1.lo t1.rep l1
    have l3 := ih2 s2.2.1 o2 l2
    intro i g r
    have := l3 i g r
    simp only [F.ht]
    omega

/-- the root of a tree that is told alone stands at the end -/
theorem cnn_last (op w fl imm : Int) (kids : F) : (cnn (.cons op w fl imm kids .nil) []).2 = [((cnn (.cons op w fl imm kids .nil) []).1.length : Int) - 1] ∧ 1 ≤ (cnn (.cons op w fl imm kids .nil) []).1.length := by
  have t1 := cnn_told kids List.nodup_nil ord_nil
  have l1 := cnn_low kids List.nodup_nil ord_nil (low_nil 0)
  simp only [cnn]
  have hm : (⟨op, w, fl, (cnn kids []).2, imm⟩ : Nd) ∉ (cnn kids []).1 := by
    intro hm
    obtain ⟨i, hi⟩ := List.mem_iff_getElem?.1 hm
    have := l1 i _ (Rep.cons (x := ⟨op, w, fl, (cnn kids []).2, imm⟩) (by omega) (by rw [Int.toNat_natCast]; exact hi) t1.rep .nil)
    simp only [F.ht] at this
    omega
  unfold addN
  rw [if_neg hm, List.idxOf_eq_length hm]
  simp
end T
end Go.Proofs.YtmebpgggfppmhaaDoor
end
