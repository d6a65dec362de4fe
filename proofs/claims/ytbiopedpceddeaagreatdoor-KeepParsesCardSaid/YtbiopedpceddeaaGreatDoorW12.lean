/- Merged: C4V5, C4V6, C4V7, C4V8, C4V13, C4V15, C4V17, C4PlainX. -/
import Derived.Test.YtbiopedpceddeaaGreatDoorW11
import Derived.Lib.TrailingZeros
import Derived.Laws.Bits64b
import Derived.Deep.DeepCutAuto
import Derived.Test.YtbiopedpceddeaaGreatDoorW07
set_option linter.unusedVariables false
set_option linter.unusedSimpArgs false
section
namespace Go.Proofs.YtbiopedpceddeaaGreatDoor
open Go.RowKit Go.MapKept Go.Maps Go.WideMaps
set_option linter.unusedVariables false
set_option linter.unusedSimpArgs false

theorem made_add (ks : List (Nat × Obj)) (W0 : World) (bb : Nat) : MadeOk ks 94 #[.pointer (some ⟨bb, 0, none⟩)] #[] T.mkA (fun _ => True) 1 W0 bb 900000 := by
  refine ⟨enters_of Tryz.func94 (by kernel_rfl) rfl, fun X out M x A c hb hbu harg hx _ hnd hord hlo hlen _ => ?_⟩
  refine (gadd_any W0.heap.size bb out M x A c X hbu hb.size harg hx hlen).mono ?_
  rintro e w' ⟨h1, h2⟩
  exact ⟨h1, T.addN_len, h2⟩

/-- a builder that is made anew, with a map of what was seen -/
theorem from_start {mk : T.Nd → List T.Nd → List T.Nd × Int} {t : List T.Nd} {g : Nat} {W X : World} (hX : X = (W.alloc (.cells #[.slice none 0 0, .map none] 148)).alloc (.map #[] 0)) :
    FromSt [] mk t g 0 W W.heap.size (W.heap.size + 1) X [] (fun i => i = W.heap.size) [] := by
  have hr : X.heap[W.heap.size]? = some (.cells #[.slice none 0 0, .map none] 148 (0, 0)) := by rw [hX]; exact row_alloc (heap_alloc_new W _) _
  have hs : X.heap.size = W.heap.size + 2 := by rw [hX]; simp
  have hm : MapAt Tryz.prog 3 ekI IntI X (W.heap.size + 1) [] := by
    have := MapAt.made (P := Tryz.prog) (kt := 3) (ek := ekI) (R := IntI) (W.alloc (.cells #[.slice none 0 0, .map none] 148))
    rw [← hX] at this
    simpa using this
  refine ⟨by rw [hX]; exact ((Below.refl _ _).alloc (Nat.le_refl _) _).alloc (by simp) _, ⟨fun i hi => by subst hi; omega, rfl, fun x hx => by simp at hx, _, _, hr, OwnM.nil_ _ _, .inl ⟨rfl, rfl⟩⟩, by omega, by omega, hm, fun k n h => by simp [AL.get] at h, fun p hp => by simp at hp, List.nodup_nil, T.ord_nil, by simp, fun p hp => by simp at hp⟩

set_option maxRecDepth 100000 in
set_option maxHeartbeats 1000000 in
theorem gpart_any {t : List T.Nd} {n ct : Nat} {At : Option Addr} {W : World} (hT : StAt 5 NdR W At n t) (hw : TWf t) (hn : n ≤ 900000) (k : Nat) (hk : k < n) (fr : T.F) (hfr : T.Rep t [(k : Int)] fr) :
    Calls Tryz.prog 95 #[.slice At n ct, .int .i64 (k : Int)] W fun e W' => ∃ A' c', e = .returned (.slice A' (T.canon fr).length c') ∧ StAt 5 NdR W' A' (T.canon fr).length (T.canon fr) ∧ Below W.heap.size W W' ∧ ∀ W'', (∀ i, W.heap.size ≤ i → i < W'.heap.size → W''.heap[i]? = W'.heap[i]?) → StAt 5 NdR W'' A' (T.canon fr).length (T.canon fr) := by
  obtain ⟨X, hX⟩ : ∃ X, X = (W.alloc (.cells #[.slice none 0 0, .map none] 148)).alloc (.map #[] 0) := ⟨_, rfl⟩
  have hmk := fun W => run_makeMap_any (P := Tryz.prog) Tryz.underlying150 W
  have hst := from_start (mk := T.mkA) (t := t) (g := 1) hX
  have Hcall := Lib.hid (gfrom_any (D := fun _ => True) hT hw (fun _ _ _ => trivial) (made_add [] W W.heap.size) T.mkA_ok (base := 0) (by omega) (by omega) (by omega) k hk (ct := ct) X (W.heap.size + 1) [] _ [] hst fr hfr)
  have HX := Lib.hid hX
  clear hT hw hst hfr
  go_enter Tryz.func95, Tryz.ntmps95
  go_wp2_with fail
  rw [← hX]
  clear hX hmk
  (with_reducible refine Hcall.out.mono ?_)
  rintro e w2 ⟨r, M', l', rfl, hr, hst, hkp, _, _, _⟩
  have hcn : (T.cnnG T.mkA fr []).1 = T.canon fr := by rw [T.cnnG_A]; rfl
  rw [hcn] at hst
  obtain ⟨v, fm, hrow, hown, _⟩ := hst.bu.cells
  obtain ⟨A', c', rfl⟩ := hown.form
  have k0 : w2.cell? ⟨W.heap.size, 0, none⟩ = some (.slice A' (T.canon fr).length c') := by rw [cell_of_row _ _ _ _ _ (0, 0) hrow]; rfl
  have Hown := Lib.hid hown
  have Hb := Lib.hid hst.bel
  have HM := Lib.hid hst.bu.in_
  clear hrow hown hst hkp hr hcn
  go_wp2
  go_ret
  exact ⟨A', c', rfl, Hown.out.stAt rfl, Hb.out, fun W'' h => OwnM.stAt (Hown.out.same fun i hi => h i (HM.out i hi).1 (HM.out i hi).2) rfl⟩
end Go.Proofs.YtbiopedpceddeaaGreatDoor
end
section
namespace Go.Proofs.YtbiopedpceddeaaGreatDoor
open Go.RowKit
set_option linter.unusedVariables false
set_option linter.unusedSimpArgs false

theorem infoCd : (Tryz.prog.info? 88).map (fun i => (i.zero, i.size, i.bytes)) = some (some (.agg #[.int .i64 0, .int .i64 0, .int .u32 0]), 3, 24) := by kernel_rfl

end Go.Proofs.YtbiopedpceddeaaGreatDoor
end
section
namespace Go.Proofs.YtbiopedpceddeaaGreatDoor
open Go.RowKit
set_option linter.unusedVariables false
set_option linter.unusedSimpArgs false

/-- what stays of nodes while others are made -/
structure NdRel (B : Nat) (R : World → List Value → T.Nd → Prop) : Prop where
  form : ∀ {w us x}, R w us x → NdR w us x
  below : ∀ {w w' us x}, R w us x → Below w.heap.size w w' → R w' us x
  grown : ∀ {w w' us x} {row : Option Nat}, R w us x → w.grownBy w' row → (∀ g, row = some g → B ≤ g ∧ ∃ cur fr, w.heap[g]? = some (.cells cur 62 fr)) → R w' us x

/-- The slice v, of the call's own, holds these nodes; its array lies at B or above. -/
def OwnR (R : World → List Value → T.Nd → Prop) (B : Nat) (w : World) (v : Value) (nds : List T.Nd) : Prop :=
  ∃ cells, OwnAt w 62 5 v nds.length cells ∧ (∀ (k : Nat) (x : T.Nd), nds[k]? = some x → R w ((cells.drop (k * 5)).take 5) x) ∧ ∀ g, v.ownBlock = some g → B ≤ g

section
variable {R : World → List Value → T.Nd → Prop} {B : Nat} {w w' : World} {v : Value} {nds : List T.Nd}

theorem OwnR.nil_ (R : World → List Value → T.Nd → Prop) (B : Nat) (w : World) : OwnR R B w (.slice none 0 0) [] := ⟨[], OwnAt.nil_ _ _ _, fun k x h => by simp at h, fun g h => by simp [Value.ownBlock] at h⟩

theorem OwnR.form (h : OwnR R B w v nds) : ∃ A c, v = .slice A nds.length c := by
  obtain ⟨cells, h1, _⟩ := h
  exact h1.form

theorem OwnR.below (hR : NdRel B R) (h : OwnR R B w v nds) (hb : Below w.heap.size w w') : OwnR R B w' v nds := by
  obtain ⟨cells, h1, h2, h3⟩ := h
  exact ⟨cells, h1.below hb h1.lt, fun k x hx => hR.below (h2 k x hx) hb, h3⟩

theorem OwnR.stAt (hR : NdRel B R) {A : Option Addr} {n c : Nat} (h : OwnR R B w (.slice A n c) nds) (hn : nds.length = n) : StAt 5 NdR w A n nds := by
  obtain ⟨cells, h1, h2, h3⟩ := h
  rw [hn] at h1
  exact h1.stAt hn fun k x hx => hR.form (h2 k x hx)

theorem OwnR.row (h : OwnR R B w v nds) : ∀ g, v.ownBlock = some g → B ≤ g ∧ ∃ cur fr, w.heap[g]? = some (.cells cur 62 fr) := by
  obtain ⟨cells, h1, h2, h3⟩ := h
  intro g hg
  refine ⟨h3 g hg, ?_⟩
  rcases h1.2 with ⟨rfl, _⟩ | ⟨g', off, cap, cur, rfl, hcur, _⟩
  · simp [Value.ownBlock] at hg
  · simp [Value.ownBlock] at hg
    subst hg
    exact ⟨cur, _, hcur⟩
end

/-- nodes in new memory: their operands lie in new blocks of numbers -/
def NdF (B : Nat) (w : World) (us : List Value) (x : T.Nd) : Prop :=
  ∃ A c, us = ndC x A c ∧ OwnAt w 3 1 (.slice A x.args.length c) x.args.length (x.args.map (Value.int .i64)) ∧ 0 ≤ x.imm ∧ x.imm < 4294967296 ∧ ∀ g, (Value.slice A x.args.length c).ownBlock = some g → B ≤ g

theorem ndF_rel (B : Nat) : NdRel B (NdF B) := by
  constructor
  · rintro w us x ⟨A, c, h1, h2, h3, h4, _⟩
    exact ⟨A, c, h1, h2.slInts, h3, h4⟩
  · rintro w w' us x ⟨A, c, h1, h2, h3, h4, h5⟩ hb
    exact ⟨A, c, h1, h2.below hb h2.lt, h3, h4, h5⟩
  · rintro w w' us x row ⟨A, c, h1, h2, h3, h4, h5⟩ hg hr
    refine ⟨A, c, h1, h2.kept hg ?_, h3, h4, h5⟩
    rcases e : (Value.slice A x.args.length c).ownBlock with _ | g
    · exact .inl rfl
    · refine .inr fun e' => ?_
      obtain ⟨_, cur, fr, hc⟩ := hr g e'.symm
      rcases h2.2 with ⟨e1, _⟩ | ⟨g', off, cap, cur', e1, hc', _⟩
      · rw [e1] at e; simp [Value.ownBlock] at e
      · rw [e1] at e
        simp [Value.ownBlock] at e
        subst e
        rw [hc] at hc'
        injection hc' with hc'
        injection hc' with _ hc' _
        exact absurd hc' (by decide)
end Go.Proofs.YtbiopedpceddeaaGreatDoor
end
section
namespace Go.Proofs.YtbiopedpceddeaaGreatDoor
open Go.RowKit
set_option linter.unusedVariables false
set_option linter.unusedSimpArgs false

theorem take_next {α : Type} {l : List α} {j : Nat} {x : α} (h : l[j]? = some x) : l.take (j + 1) = l.take j ++ [x] := by
  rw [List.take_add_one, h]; rfl

end Go.Proofs.YtbiopedpceddeaaGreatDoor
end
section
namespace Go.Proofs.YtbiopedpceddeaaGreatDoor
open Go.RowKit
set_option linter.unusedVariables false
set_option linter.unusedSimpArgs false

namespace R
theorem par_le (op : Int) : par op ≤ 3 := by
  unfold par T.ar
  repeat' split
  all_goals omega
theorem pnode_small {p : List T.Nd} {right : Bool} {k : Nat} {x : T.Nd} (h : pnode p right k x = true) : x.args.length ≤ 3 := by
  have h1 := (pnode_len h).1
  have := par_le x.op
  omega
end R

end Go.Proofs.YtbiopedpceddeaaGreatDoor
end
section
namespace Go.Proofs.YtbiopedpceddeaaGreatDoor
open Go.RowKit
set_option linter.unusedVariables false
set_option linter.unusedSimpArgs false

def set5 (w : World) (g : Nat) (a0 a1 a2 a3 a4 : Value) : World := ((((w.setCell ⟨g, 0, none⟩ a0).setCell ⟨g, 1, none⟩ a1).setCell ⟨g, 2, none⟩ a2).setCell ⟨g, 3, none⟩ a3).setCell ⟨g, 4, none⟩ a4
theorem set5_row {w : World} {g : Nat} {T : TypeId} {b0 b1 b2 b3 b4 : Value} (a0 a1 a2 a3 a4 : Value) (h : w.heap[g]? = some (.cells #[b0, b1, b2, b3, b4] T (0, 0))) :
    (set5 w g a0 a1 a2 a3 a4).heap[g]? = some (.cells #[a0, a1, a2, a3, a4] T (0, 0)) := by
  have h1 := heap_setCell_same w g 0 _ _ a0 h
  have h2 := heap_setCell_same _ g 1 _ _ a1 h1
  have h3 := heap_setCell_same _ g 2 _ _ a2 h2
  have h4 := heap_setCell_same _ g 3 _ _ a3 h3
  exact heap_setCell_same _ g 4 _ _ a4 h4
theorem set5_below {W w : World} {g : Nat} (a0 a1 a2 a3 a4 : Value) (h : Below W.heap.size W w) (hg : W.heap.size ≤ g) : Below W.heap.size W (set5 w g a0 a1 a2 a3 a4) := by
  unfold set5
  exact ((((h.setCell (p := ⟨g, 0, none⟩) hg _).setCell (p := ⟨g, 1, none⟩) hg _).setCell (p := ⟨g, 2, none⟩) hg _).setCell (p := ⟨g, 3, none⟩) hg _).setCell (p := ⟨g, 4, none⟩) hg _

namespace R
end R
theorem drop_at {α : Type} {l : List α} {j : Nat} {x : α} (h : l[j]? = some x) : l.drop j = x :: l.drop (j + 1) := by
  obtain ⟨h1, h2⟩ := List.getElem?_eq_some_iff.1 h
  rw [List.drop_eq_getElem_cons h1, h2]
end Go.Proofs.YtbiopedpceddeaaGreatDoor
end
section
namespace Go.Proofs.YtbiopedpceddeaaGreatDoor
open Go.RowKit
set_option linter.unusedVariables false
set_option linter.unusedSimpArgs false

namespace R
theorem pnode_w {p : List T.Nd} {right : Bool} {k : Nat} {x : T.Nd} (h : pnode p right k x = true) : 0 ≤ x.w ∧ x.w ≤ 32 := by
  unfold pnode at h
  simp only [Bool.and_eq_true, decide_eq_true_eq] at h
  exact ⟨h.1.1.1.1.2, h.1.1.1.2⟩
end R

end Go.Proofs.YtbiopedpceddeaaGreatDoor
end
section
namespace Go.Proofs.YtbiopedpceddeaaGreatDoor
set_option linter.unusedVariables false
set_option linter.unusedSimpArgs false
namespace T
/-- the forest of these nodes -/
def tre : Nat → List Nd → List Int → F
  | 0, _, _ => .nil
  | n + 1, t, la => la.foldr (fun a rest => match t[a.toNat]? with
    | some x => .cons x.op x.w x.fl x.imm (tre n t x.args) rest
    | none => .nil) .nil
theorem tre_rep {t : List Nd} (ho : Ord t) : ∀ (n : Nat), n ≤ t.length → ∀ (la : List Int), (∀ a ∈ la, 0 ≤ a ∧ a < (n : Int)) → Rep t la (tre n t la) := by
  intro n
  induction n with
  | zero =>
    intro _ la h
    cases la with
    | nil => exact .nil
    | cons a la => have := h a (by simp); omega
  | succ n ih =>
    intro hn la h
    induction la with
    | nil => exact .nil
    | cons a la ih2 =>
      have hg := ih2 (fun b hb => h b (by simp [hb]))
      have ha := h a (by simp)
      have hl : a.toNat < t.length := by omega
      have hx := List.getElem?_eq_getElem hl
      have hf := ih (by omega) (t[a.toNat]).args (fun b hb => by have := ho _ _ hx b hb; omega)
      have e : tre (n + 1) t (a :: la) = .cons (t[a.toNat]).op (t[a.toNat]).w (t[a.toNat]).fl (t[a.toNat]).imm (tre n t (t[a.toNat]).args) (tre (n + 1) t la) := by
        show (match t[a.toNat]? with
          | some x => F.cons x.op x.w x.fl x.imm (tre n t x.args) (tre (n + 1) t la)
          | none => .nil) = _
        rw [hx]
      rw [e]
      exact .cons ha.1 hx hf hg
/-- the tree of a list: its last node is the root -/
def root (t : List Nd) : F := tre t.length t [(t.length : Int) - 1]
theorem root_rep {t : List Nd} (ho : Ord t) (h : 1 ≤ t.length) : Rep t [(t.length : Int) - 1] (root t) := tre_rep ho _ (Nat.le_refl _) _ (fun a ha => by simp at ha; omega)
end T

namespace R
open T (Nd F)
theorem par_bd {op : Int} (h : 0 ≤ par op) : 0 ≤ op ∧ op ≤ 35 := by
  unfold par at h
  split at h
  · omega
  · split at h
    · omega
    · split at h
      · omega
      · have := ar_bd h; omega
end R
end Go.Proofs.YtbiopedpceddeaaGreatDoor
end
