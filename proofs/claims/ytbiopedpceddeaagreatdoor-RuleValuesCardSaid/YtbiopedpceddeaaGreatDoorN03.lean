/- Merged: QM3, QOpenW, QPlainT, QM4. -/
import Derived.Test.YtbiopedpceddeaaGreatDoorN01
import Derived.Test.YtbiopedpceddeaaGreatDoorN00
import Derived.WalkKit
import Derived.ProofKit
import Derived.OpenShut
import Derived.Deep.Slices
import Derived.Carry
import Derived.Deep.Fields
import Derived.ChangeSame
import Derived.Test.YtbiopedpceddeaaGreatDoorN02
import Derived.Deep.LoopGhost
import Derived.Deep.RegionLaw
import Derived.Deep.RegionHeld3
import Derived.Deep.Strs
import Derived.Laws.CopyOwn
import Derived.StillTailTactics
set_option linter.unusedVariables false
set_option linter.unusedSimpArgs false
section
section
namespace Go.Proofs.YtbiopedpceddeaaGreatDoor.K

theorem take_succ_at {α : Type} {xs : List α} {k : Nat} {x : α} (h : xs[k]? = some x) : xs.take (k + 1) = xs.take k ++ [x] := by
  rw [List.take_add_one, h]; rfl
end Go.Proofs.YtbiopedpceddeaaGreatDoor.K
end
section
namespace Go.Proofs.YtbiopedpceddeaaGreatDoor
open Go.ChangeShapes Go.WideShapes Go.ChangeAt Go.RowKit Go.Deep
set_option linter.unusedVariables false

section
variable {H : Type} {enc : TypeId × Value → H} {P : Program} {W : World}

/-- 'one cell that reads at t is an element'. -/
def ReadsAs {α : Type} (enc : TypeId × Value → H) (P : Program) (W : World) (t : TypeId) (R : World → Value → α → Prop) : Prop :=
  ∀ n u x, DataW.trod enc P W 0 (fun _ => true) true n t [u] = some x → ∃ a, R W u a

theorem readsInt {t : TypeId} {q : IntKind} (ht : P.underlying t = some (.int q)) : ReadsAs enc P W t (IntR q) := by
  intro n u x h
  obtain ⟨m, e, _, _⟩ := DataW.trod_int ht h
  exact ⟨m, (List.cons.inj e).1⟩
theorem slAt_of_cells {α : Type} [Inhabited α] {R : World → Value → α → Prop} {t e : TypeId} (ht : P.underlying t = some (.slice e)) (hc : P.cellsOf e = 1) (hR : ReadsAs enc P W e R) {n : Nat} {u : Value} {x : DataW H × List MemPlace}
    (h : DataW.trod enc P W 0 (fun _ => true) true n t [u] = some x) : ∃ A m c xs, u = .slice A m c ∧ SlAt R W A m xs := by
  rcases open_slice1 ht hc h with ⟨e1, _⟩ | ⟨a, len, cap, m, k, V, D, Pl, e1, _, hl, hm, hmm, _, hV⟩
  · exact ⟨none, 0, 0, [], by simpa using e1, SlAt.nil_ _⟩
  · simp at hmm
    subst hmm
    obtain ⟨X, hX⟩ := choose_lt (α := α) (p := fun i y => R W (V i) y) (n := m) (fun i hi => hR k (V i) _ (hV i hi).2)
    refine ⟨some a, len, m, (List.range len).map X, by simpa using e1, by simp, ?_, fun j y hy => ?_⟩
    · simp only [maxLen] at hm; omega
    · have hj : j < len := by
        have := (List.getElem?_eq_some_iff.1 hy).1
        simpa using this
      have hy' : y = X j := by simpa [hj] using hy.symm
      obtain ⟨b, off, spot⟩ := a
      have h0 : spot = none := World.cell?_spot (v := V 0) (by simpa [Addr.add] using (hV 0 (by omega)).1)
      subst h0
      have hcell := (hV j (by omega)).1
      rw [add_plain] at hcell
      exact ⟨b, off, V j, rfl, World.block_lt_of_cell? _ _ hcell, hcell, by rw [hy']; exact hX j (by omega)⟩

theorem readsSl {α : Type} [Inhabited α] {R : World → Value → α → Prop} {t e : TypeId} (ht : P.underlying t = some (.slice e)) (hc : P.cellsOf e = 1) (hR : ReadsAs enc P W e R) : ReadsAs enc P W t (SlR R) := by
  intro n u x h
  obtain ⟨A, m, c, xs, rfl, hs⟩ := slAt_of_cells ht hc hR h
  obtain rfl := hs.len
  exact ⟨xs, SlR.mk_ hs⟩

theorem open_sl {α : Type} [Inhabited α] {R : World → Value → α → Prop} {r : Reach} {b0 : Nat} {t e : TypeId} {v : Value} {d : DataW H} {ps : List MemPlace} (ht : P.underlying t = some (.slice e)) (hc : P.cellsOf e = 1) (hR : ReadsAs enc P W e R)
    (hval : Value.okWide P W r b0 t v) (h : DataW.Trod enc P W 0 (fun _ => true) true t v d ps) : ∃ A m c xs, v = .slice A m c ∧ SlAt R W A m xs := by
  obtain ⟨A, m, c, rfl⟩ := okWide_slice ht hval
  obtain ⟨n, hn⟩ := h
  obtain ⟨A', m', c', xs, e, hs⟩ := slAt_of_cells ht hc hR (u := .slice A m c) (by simpa [Value.cells] using hn)
  cases e
  exact ⟨A, m, c, xs, rfl, hs⟩

/-- All that came in reads behind the call as it did. -/
theorem trodAll_stays (hl : laidOutB P = true) {W' : World} (hb : Below W.heap.size W W') {sp : Nat → Bool} : ∀ {ts : List TypeId} {vs : List Value} {ds : List (DataW H)} {ps : List MemPlace},
    (ts.all fun t => P.readableRec t && decide (t < P.types.size)) = true → DataW.TrodAll enc P W 0 (fun _ => true) true ts vs ds ps → (∀ x ∈ ps, x.block < W.heap.size) → (∀ x ∈ ps, sp x.block = true) → DataW.TrodAll enc P W' 0 sp true ts vs ds ps
  | [], vs, ds, ps, _, h, _, _ => by
    obtain ⟨rfl, rfl, rfl⟩ := trodAll_nil h
    exact trodAll_mk0
  | t :: ts, vs, ds, ps, hr, h, hlt, hsp => by
    obtain ⟨v, vs', d, ds', p, q, rfl, rfl, rfl, h1, h2⟩ := trodAll_cons h
    simp only [List.all_cons, Bool.and_eq_true, decide_eq_true_eq] at hr
    exact trodAll_cons_mk (WideElems.Trod_stays hl hr.1.1 hr.1.2 h1 (fun x hx => hb.same (hlt x (List.mem_append_left _ hx))) (fun x hx => hsp x (List.mem_append_left _ hx)))
      (trodAll_stays hl hb hr.2 h2 (fun x hx => hlt x (List.mem_append_right _ hx)) (fun x hx => hsp x (List.mem_append_right _ hx)))

/-- THE LAW's POST: true; what came in reads as it did. -/
theorem post_true {f : Func} {s : ChangeSpec} {W' : World} {args : Array Value} {ds gs : List (DataW H)} {before : List MemPlace} {tb : TypeId} {apart fresh handsOn : Bool} (hl : laidOutB P = true) (hv : s.vars = [])
    (hr : (f.params.toList.all fun t => P.readableRec t && decide (t < P.types.size)) = true)
    (hW : DataW.Whole enc P f.params.toList s.vars apart W args.toList ds gs before) (hs : s.fn H (ds ++ gs) = { results := [.lit (.bool true)], args := ds }) (hrt : f.resultTypes = #[tb]) (htb : P.underlying tb = some .bool)
    (hb : Below W.heap.size W W') : s.post enc P f apart fresh handsOn false W args (.bool true) W' := by
  have hW' := hW
  obtain ⟨p, q, hA, hV, rfl, hfz, hnd⟩ := hW
  rw [hv] at hV
  obtain ⟨rfl, rfl⟩ := trodVars_none hV
  have hlt : ∀ x ∈ p, x.block < W.heap.size := fun x hx => by have := hW'.lt x (by simpa using hx); exact this
  refine ⟨ds, [], p ++ [], [], p, [], hW', ?_, ?_, ?_, hb.frame _, fun h => by cases h⟩
  · rw [hs, hrt]; exact trodAll_cons_mk (shut_bool htb _) trodAll_mk0
  · rw [hs]; exact trodAll_stays hl hb hr hA hlt (fun x hx => by simpa using hlt x hx)
  · rw [hv, hs]; rfl
end
end Go.Proofs.YtbiopedpceddeaaGreatDoor
end
section
namespace Go.Proofs.YtbiopedpceddeaaGreatDoor
open Go.ChangeShapes Go.WideShapes Go.ChangeAt Go.RowKit Go.Deep
set_option linter.unusedVariables false

/-- The slice at A of n elements of s cells each reads as the list xs, element by element by R. -/
def StAt {α : Type} (s : Nat) (R : World → List Value → α → Prop) (w : World) (A : Option Addr) (n : Nat) (xs : List α) : Prop :=
  xs.length = n ∧ n ≤ 9223372036854775807 ∧ ∀ k x, xs[k]? = some x → ∃ b off us, A = some ⟨b, off, none⟩ ∧ b < w.heap.size ∧ us.length = s ∧ (∀ j u, us[j]? = some u → w.cell? ⟨b, off + k * s + j, none⟩ = some u) ∧ R w us x

def MonoL {α : Type} (R : World → List Value → α → Prop) : Prop := ∀ w w' us x, Below w.heap.size w w' → R w us x → R w' us x

section
variable {α : Type} {s : Nat} {R : World → List Value → α → Prop} {w w' : World} {A : Option Addr} {n : Nat} {xs : List α}

theorem StAt.len (h : StAt s R w A n xs) : xs.length = n := h.1
theorem StAt.le (h : StAt s R w A n xs) : n ≤ 9223372036854775807 := h.2.1

theorem StAt.at_ (h : StAt s R w A n xs) {k : Nat} (hk : k < n) : ∃ x b off us, xs[k]? = some x ∧ A = some ⟨b, off, none⟩ ∧ b < w.heap.size ∧ us.length = s ∧ (∀ j u, us[j]? = some u → w.cell? ⟨b, off + k * s + j, none⟩ = some u) ∧ R w us x := by
  obtain ⟨h1, _, h2⟩ := h
  have hl : k < xs.length := by omega
  obtain ⟨b, off, us, r⟩ := h2 k xs[k] (List.getElem?_eq_getElem hl)
  exact ⟨_, b, off, us, List.getElem?_eq_getElem hl, r⟩

theorem StAt.below (hR : MonoL R) (h : StAt s R w A n xs) (hb : Below w.heap.size w w') : StAt s R w' A n xs := by
  refine ⟨h.1, h.2.1, fun k x hx => ?_⟩
  obtain ⟨b, off, us, hA, hlt, hs, hc, hr⟩ := h.2.2 k x hx
  exact ⟨b, off, us, hA, Nat.lt_of_lt_of_le hlt hb.size, hs, fun j u hu => (hb.cell (p := ⟨b, off + k * s + j, none⟩) hlt).trans (hc j u hu), hR _ _ _ _ hb hr⟩

theorem StAt.nil_ (A : Option Addr) : StAt s R w A 0 ([] : List α) := ⟨rfl, by omega, fun k x h => by simp at h⟩

/-- A slice of the call's own, s cells an element, read. -/
theorem OwnAt.stAt {e : TypeId} {c : Nat} {vs : List Value} {ys : List α} (h : OwnAt w e s (.slice A n c) n vs) (hl : ys.length = n)
    (hR : ∀ (k : Nat) (x : α), ys[k]? = some x → R w ((vs.drop (k * s)).take s) x) : StAt s R w A n ys := by
  refine ⟨hl, h.le, fun k x hx => ?_⟩
  have hk : k < ys.length := (List.getElem?_eq_some_iff.1 hx).1
  rcases h.2 with ⟨h1, h2⟩ | ⟨g, off, cap, cur, h1, hg, _, _, _, hcur⟩
  · omega
  · injection h1 with h1 _ _
    have hvl := h.1
    have hks : k * s + s ≤ n * s := by rw [← Nat.succ_mul]; exact Nat.mul_le_mul_right _ (by omega)
    refine ⟨g, off, (vs.drop (k * s)).take s, h1, (Array.getElem?_eq_some_iff.1 hg).1, by rw [List.length_take, List.length_drop]; omega, fun j u hu => ?_, hR k x hx⟩
    rw [cell_of_row w g _ cur e (0, 0) hg, Nat.add_assoc]
    refine hcur _ _ ?_
    rw [List.getElem?_take] at hu
    split at hu
    · rw [List.getElem?_drop] at hu; exact hu
    · cases hu

end

section
variable {H : Type} {enc : TypeId × Value → H} {P : Program} {W : World}

/-- 'the cells of a struct of fields fs read as an element'. -/
def ReadsSt {α : Type} (enc : TypeId × Value → H) (P : Program) (W : World) (fs : Array Field) (R : World → List Value → α → Prop) : Prop :=
  ∀ n (us : List Value), us.length = fs.size → (∀ (j : Nat) (f : Field), fs[j]? = some f → ∃ u y, us[j]? = some u ∧ DataW.trod enc P W 0 (fun _ => true) true n f.type [u] = some y) → ∃ a, R W us a

theorem stAt_of_cells {α : Type} [Inhabited α] {R : World → List Value → α → Prop} {t e : TypeId} {fs : Array Field} (ht : P.underlying t = some (.slice e)) (he : P.underlying e = some (.struct fs))
    (hone : oneCellFields P fs = true) (hC : P.cellsOf e = fs.size) (hs0 : 0 < fs.size) (hR : ReadsSt enc P W fs R) {n : Nat} {u : Value} {x : DataW H × List MemPlace}
    (h : DataW.trod enc P W 0 (fun _ => true) true n t [u] = some x) : ∃ A m c xs, u = .slice A m c ∧ StAt fs.size R W A m xs := by
  rcases open_slice ht h with ⟨e1, _⟩ | ⟨a, len, cap, m, k, D, Pl, e1, _, hl, hm, hmm, _, hV⟩
  · exact ⟨none, 0, 0, [], by simpa using e1, StAt.nil_ _⟩
  · simp at hmm
    subst hmm
    have each : ∀ i, i < m → ∃ q : α × List Value, q.2.length = fs.size ∧ (∀ j v, q.2[j]? = some v → W.cell? (a.add (i * fs.size + j)) = some v) ∧ R W q.2 q.1 := by
      intro i hi
      obtain ⟨cs', hc, ht'⟩ := hV i hi
      rw [hC] at hc
      obtain ⟨ys, n', hn', hy, hlen, hyl, hf⟩ := DataW.trod_struct he ht'
      obtain ⟨_, hcl, hat⟩ := World.cells?_some hc
      obtain ⟨y, hy'⟩ := hR n' cs' hcl (fun j f hj => by
        obtain ⟨ho, hk⟩ := hone_of hone j f hj
        have hjl : j < fs.size := (Array.getElem?_eq_some_iff.1 hj).1
        have h1 := hf j f hj
        rw [ho, hk] at h1
        have hone' : (cs'.drop j).take 1 = [cs'[j]'(by omega)] := by
          rw [List.drop_eq_getElem_cons (by omega)]
          rfl
        rw [hone'] at h1
        exact ⟨_, _, List.getElem?_eq_getElem (by omega), h1.trans (List.getElem?_eq_getElem (by omega))⟩)
      refine ⟨(y, cs'), hcl, fun j v hv => ?_, hy'⟩
      have hj : j < fs.size := by have := (List.getElem?_eq_some_iff.1 hv).1; simp at this; omega
      rw [← Go.Deep.add_add, hat j hj]
      exact hv
    obtain ⟨q, hq⟩ := choose_lt each
    refine ⟨some a, len, m, (List.range len).map fun i => (q i).1, by simpa using e1, by simp, ?_, fun j y hy => ?_⟩
    · simp only [maxLen] at hm; omega
    · have hj : j < len := by
        have := (List.getElem?_eq_some_iff.1 hy).1
        simpa using this
      have hy' : y = (q j).1 := by simpa [hj] using hy.symm
      obtain ⟨b, off, spot⟩ := a
      obtain ⟨h1, h2, h3⟩ := hq j (by omega)
      have hv : (q j).2[0]? = some ((q j).2[0]'(by omega)) := List.getElem?_eq_getElem (by omega)
      have hc0 := h2 0 _ hv
      have h0 : spot = none := by
        obtain ⟨g1, g2, _⟩ := hq 0 (by omega)
        have hv0 : (q 0).2[0]? = some ((q 0).2[0]'(by omega)) := List.getElem?_eq_getElem (by omega)
        have := World.cell?_spot (g2 0 _ hv0)
        simpa [Addr.add] using this
      subst h0
      rw [add_plain] at hc0
      refine ⟨b, off, (q j).2, rfl, World.block_lt_of_cell? _ _ hc0, h1, fun i v hv => ?_, by rw [hy']; exact h3⟩
      have := h2 i v hv
      rw [add_plain, ← Nat.add_assoc] at this
      exact this

theorem open_st {α : Type} [Inhabited α] {R : World → List Value → α → Prop} {r : Reach} {b0 : Nat} {t e : TypeId} {fs : Array Field} {v : Value} {d : DataW H} {ps : List MemPlace} (ht : P.underlying t = some (.slice e)) (he : P.underlying e = some (.struct fs))
    (hone : oneCellFields P fs = true) (hC : P.cellsOf e = fs.size) (hs0 : 0 < fs.size) (hR : ReadsSt enc P W fs R)
    (hval : Value.okWide P W r b0 t v) (h : DataW.Trod enc P W 0 (fun _ => true) true t v d ps) : ∃ A m c xs, v = .slice A m c ∧ StAt fs.size R W A m xs := by
  obtain ⟨A, m, c, rfl⟩ := okWide_slice ht hval
  obtain ⟨n, hn⟩ := h
  obtain ⟨A', m', c', xs, e, hs⟩ := stAt_of_cells ht he hone hC hs0 hR (u := .slice A m c) (by simpa [Value.cells] using hn)
  cases e
  exact ⟨A, m, c, xs, rfl, hs⟩
end
end Go.Proofs.YtbiopedpceddeaaGreatDoor
end
section
namespace Go.Proofs.YtbiopedpceddeaaGreatDoor
open Go.RowKit
set_option linter.unusedVariables false

theorem below_append {w0 w w' : World} {B : Nat} {v v' : Value} {o : Obj} (hb : Below B w0 w) (hB : B ≤ w.heap.size) (hv : ∀ g, v.ownBlock = some g → B ≤ g) (hg : (w.alloc o).grownBy w' v.ownBlock)
    (hat : v'.ownBlock = v.ownBlock ∨ v'.ownBlock = some (w.heap.size + 1)) : Below B w0 w' ∧ ∀ g, v'.ownBlock = some g → B ≤ g := by
  refine ⟨(hb.alloc hB o).grown hg (by simp; omega) hv, fun g hgv => ?_⟩
  rcases hat with h | h
  · exact hv g (by rw [← h]; exact hgv)
  · rw [h] at hgv; cases hgv; omega
/-- 'append(out, u)' of one element of one cell; the place of the new block as the walk spells it. -/
theorem wpList_append_one' {P : Program} {w : World} {ops : Array Oper} {rest : List Oper} {o : Oper} {a : Act} {Q : Exit → Act → World → Prop} (hgd : o.guard = none) (sx x : Operand) (t : TypeId)
    (ho : o.op = .call { callee := .builtin .append, args := #[sx, x], argTypes := #[t, t] })
    (e : TypeId) (z : Value) (bytes : Nat) (ht : P.underlying t = some (.slice e)) (hinfo : (P.info? e).map (fun i => (i.zero, i.size, i.bytes)) = some (some z, 1, bytes)) (hzs : z.cells.size = 1)
    (v : Value) (n : Nat) (xs : List Value) (hs : a.eval sx = v) (hown : OwnAt w e 1 v n xs) (u : Value) (h1 : u.oneCell' = true) (E : TypeId) (p : Nat) (hp : p = w.heap.size)
    (hx : a.eval x = .slice (some ⟨p, 0, none⟩) 1 1) (hn : n ≤ 1000000000) (hb : bytes ≤ 64)
    (h : ∀ v' w', OwnAt w' e 1 v' (n + 1) (xs ++ [u]) → (w.alloc (.cells #[u] E)).grownBy w' v.ownBlock → (v'.ownBlock = v.ownBlock ∨ v'.ownBlock = some (w.heap.size + 1)) → wpList P ops Q rest (a.put o.dst v') w') :
    wpList P ops Q (o :: rest) a (w.alloc (.cells #[u] E)) := by
  subst hp
  exact wpList_append_one w hgd sx x t ho e z bytes ht hinfo hzs v n xs hs hown u h1 E hx hn hb h

theorem infoU32 : (Tryz.prog.info? 26).map (fun i => (i.zero, i.size, i.bytes)) = some (some (.int .u32 0), 1, 4) := by kernel_rfl
theorem infoInt : (Tryz.prog.info? 3).map (fun i => (i.zero, i.size, i.bytes)) = some (some (.int .i64 0), 1, 8) := by kernel_rfl
end Go.Proofs.YtbiopedpceddeaaGreatDoor
end
section
namespace Go.Proofs.YtbiopedpceddeaaGreatDoor
open Go.RowKit
set_option linter.unusedVariables false

end Go.Proofs.YtbiopedpceddeaaGreatDoor
end
section
namespace Go.Proofs.YtbiopedpceddeaaGreatDoor
open Go.RowKit
set_option linter.unusedVariables false

end Go.Proofs.YtbiopedpceddeaaGreatDoor
end
section
namespace Go.Proofs.YtbiopedpceddeaaGreatDoor
open Go.RowKit
set_option linter.unusedVariables false

end Go.Proofs.YtbiopedpceddeaaGreatDoor
end
section
namespace Go.Proofs.YtbiopedpceddeaaGreatDoor
open Go.RowKit
set_option linter.unusedVariables false

end Go.Proofs.YtbiopedpceddeaaGreatDoor
end
section
namespace Go.Proofs.YtbiopedpceddeaaGreatDoor
open Go.RowKit
set_option linter.unusedVariables false

namespace K
end K

end Go.Proofs.YtbiopedpceddeaaGreatDoor
end
end
section
namespace Go.Proofs.YtbiopedpceddeaaGreatDoor
open Go.ChangeShapes Go.WideShapes Go.ChangeAt Go.RowKit Go.Deep
set_option linter.unusedVariables false

/-- a word, and that it is one -/
def WordR (_ : World) (u : Value) (x : Int) : Prop := u = .int .u32 x ∧ 0 ≤ x ∧ x < 4294967296
theorem readsWord {H : Type} {enc : TypeId × Value → H} {P : Program} {W : World} {t : TypeId} (ht : P.underlying t = some (.int .u32)) : ReadsAs enc P W t WordR := by
  intro n u x h
  obtain ⟨m, e, _, hw⟩ := DataW.trod_int ht h
  refine ⟨m, (List.cons.inj e).1, ?_⟩
  simp [Lit.wf, IntKind.min, IntKind.max, IntKind.signed, IntKind.bits] at hw
  omega
theorem SlAt.words {W : World} {A : Option Addr} {m : Nat} {t : List Int} (h : SlAt WordR W A m t) : SlAt (IntR .u32) W A m t ∧ ∀ x ∈ t, 0 ≤ x ∧ x < 4294967296 := by
  refine ⟨⟨h.1, h.2.1, fun k x hx => ?_⟩, fun x hx => ?_⟩
  · obtain ⟨b, off, u, e1, e2, e3, e4⟩ := h.2.2 k x hx
    exact ⟨b, off, u, e1, e2, e3, e4.1⟩
  · obtain ⟨j, hj⟩ := List.mem_iff_getElem?.1 hx
    obtain ⟨b, off, u, e1, e2, e3, e4⟩ := h.2.2 j x hj
    exact e4.2
end Go.Proofs.YtbiopedpceddeaaGreatDoor
end
section
namespace Go.Proofs.YtbiopedpceddeaaGreatDoor.T
set_option linter.unusedVariables false
set_option linter.unusedSimpArgs false

/-- a node -/
structure Nd where
  op : Int
  w : Int
  fl : Int
  args : List Int
  imm : Int
deriving DecidableEq, Inhabited

/-- how many operands an operation has; -1: it is none of terms -/
def ar (op : Int) : Int := if op = 0 ∨ op = 33 then 0 else if 1 ≤ op ∧ op ≤ 14 then 2 else if op = 15 then 3 else if 16 ≤ op ∧ op ≤ 18 then 1 else -1
def immOk (x : Nd) : Bool := if x.op = 0 then B.isW x.w x.imm else if x.op = 33 then decide (x.imm < 4) else if x.op = 14 then decide (x.imm ≤ 9) else decide (x.imm = 0)
def argsOk (k : Nat) (l : List Int) : Bool := l.all fun a => decide (0 ≤ a) && decide (a < k)
/-- the node number k is as it must be, but for the widths of its operands; z: its flags must be 0 -/
def shaped (z : Bool) (k : Nat) (x : Nd) : Bool :=
  decide (0 ≤ ar x.op) && decide (1 ≤ x.w) && decide (x.w ≤ 32) && (!z || decide (x.fl = 0)) && decide ((x.args.length : Int) = ar x.op) && immOk x && (!decide (x.op = 14) || decide (x.w = 1)) && argsOk k x.args
/-- the width of operand number i -/
def wd (t : List Nd) (x : Nd) (i : Nat) : Int := (t.getD (x.args.getD i 0).toNat default).w
def typed (t : List Nd) (x : Nd) : Bool :=
  if 1 ≤ x.op ∧ x.op ≤ 13 then decide (wd t x 0 = x.w) && decide (wd t x 1 = x.w)
  else if x.op = 14 then decide (wd t x 0 = wd t x 1)
  else if x.op = 15 then decide (wd t x 0 = 1) && decide (wd t x 1 = x.w) && decide (wd t x 2 = x.w)
  else if x.op = 16 ∨ x.op = 17 then decide (wd t x 0 < x.w)
  else if x.op = 18 then decide (x.w < wd t x 0)
  else true
/-- two nodes are one variable at two widths -/
def clash (x y : Nd) : Bool := decide (x.op = 33) && decide (y.op = 33) && decide (x.imm = y.imm) && !decide (x.w = y.w)
def clashes : List Nd → Bool
  | [] => false
  | x :: t => t.any (clash x) || clashes t
/-- the first error of a term; z: flags must be 0 -/
def valid (z : Bool) (t : List Nd) : Int :=
  if t.length < 1 ∨ 300 < t.length then 3
  else if (t.zipIdx.all fun p => shaped z p.2 p.1) = false then 1
  else if (t.all (typed t)) = false then 6
  else if clashes t = true then 7 else 0
/-- the widths of the variables -/
def widths (t : List Nd) : List Int := t.foldl (fun l x => if x.op = 33 then l.set x.imm.toNat x.w else l) [0, 0, 0, 0]

/-- the first nodes are all right -/
def shapedTo (z : Bool) (t : List Nd) (j : Nat) : Prop := ∀ i x, i < j → t[i]? = some x → shaped z i x = true
theorem shaped_all {z : Bool} {t : List Nd} : (t.zipIdx.all fun p => shaped z p.2 p.1) = true ↔ ∀ i x, t[i]? = some x → shaped z i x = true := by
  rw [List.all_eq_true]
  constructor
  · intro h i x hx
    exact h (x, i) (List.mem_zipIdx_iff_getElem?.2 hx)
  · rintro h ⟨x, i⟩ hp
    exact h i x (List.mem_zipIdx_iff_getElem?.1 hp)
theorem shapedTo.all {z : Bool} {t : List Nd} {j : Nat} (h : shapedTo z t j) (hj : t.length ≤ j) : (t.zipIdx.all fun p => shaped z p.2 p.1) = true :=
  shaped_all.2 fun i x hx => h i x (by have := (List.getElem?_eq_some_iff.1 hx).1; omega) hx
theorem shapedTo.next {z : Bool} {t : List Nd} {j : Nat} {x : Nd} (h : shapedTo z t j) (hx : t[j]? = some x) (h2 : shaped z j x = true) : shapedTo z t (j + 1) := fun i y hi hy => by
  by_cases e : i = j
  · subst e; rw [hx] at hy; cases hy; exact h2
  · exact h i y (by omega) hy
theorem shaped_bad {z : Bool} {t : List Nd} {j : Nat} {x : Nd} (hx : t[j]? = some x) (h : shaped z j x = false) : (t.zipIdx.all fun p => shaped z p.2 p.1) = false := by
  cases e : t.zipIdx.all fun p => shaped z p.2 p.1
  · rfl
  · have := shaped_all.1 e j x hx
    rw [h] at this
    cases this
/-- what a right node has -/
theorem shaped_args {z : Bool} {k : Nat} {x : Nd} (h : shaped z k x = true) : (x.args.length : Int) = ar x.op ∧ 0 ≤ ar x.op ∧ 1 ≤ x.w ∧ x.w ≤ 32 ∧ immOk x = true ∧ ∀ a ∈ x.args, 0 ≤ a ∧ a < k := by
  unfold shaped at h
  simp only [Bool.and_eq_true, decide_eq_true_eq] at h
  obtain ⟨⟨⟨⟨⟨⟨⟨h1, h2⟩, h3⟩, _⟩, h5⟩, h6⟩, _⟩, h8⟩ := h
  refine ⟨h5, h1, h2, h3, h6, fun a ha => ?_⟩
  have := List.all_eq_true.1 h8 a ha
  simpa using this
def typedTo (t : List Nd) (j : Nat) : Prop := ∀ i x, i < j → t[i]? = some x → typed t x = true
theorem typedTo.all {t : List Nd} {j : Nat} (h : typedTo t j) (hj : t.length ≤ j) : (t.all (typed t)) = true := by
  rw [List.all_eq_true]
  intro x hx
  obtain ⟨i, hi⟩ := List.mem_iff_getElem?.1 hx
  exact h i x (by have := (List.getElem?_eq_some_iff.1 hi).1; omega) hi
theorem typedTo.next {t : List Nd} {j : Nat} {x : Nd} (h : typedTo t j) (hx : t[j]? = some x) (h2 : typed t x = true) : typedTo t (j + 1) := fun i y hi hy => by
  by_cases e : i = j
  · subst e; rw [hx] at hy; cases hy; exact h2
  · exact h i y (by omega) hy
theorem typed_bad {t : List Nd} {j : Nat} {x : Nd} (hx : t[j]? = some x) (h : typed t x = false) : (t.all (typed t)) = false := by
  cases e : t.all (typed t)
  · rfl
  · have := List.all_eq_true.1 e x (List.mem_of_getElem? hx)
    rw [h] at this
    cases this

/-- no two of the nodes clash -/
theorem clashes_iff {t : List Nd} : clashes t = false ↔ ∀ (i j : Nat) (x y : Nd), i < j → t[i]? = some x → t[j]? = some y → clash x y = false := by
  induction t with
  | nil => simp [clashes]
  | cons a t ih =>
    rw [clashes, Bool.or_eq_false_iff, ih]
    constructor
    · rintro ⟨h1, h2⟩ i j x y hij hx hy
      cases j with
      | zero => omega
      | succ j =>
        simp at hy
        cases i with
        | zero =>
          simp at hx; subst hx
          cases e : clash a y
          · rfl
          · exact absurd (List.any_eq_true.2 ⟨y, List.mem_of_getElem? hy, e⟩) (by rw [h1]; simp)
        | succ i => simp at hx; exact h2 i j x y (by omega) hx hy
    · intro h
      refine ⟨?_, fun i j x y hij hx hy => h (i + 1) (j + 1) x y (by omega) (by simpa using hx) (by simpa using hy)⟩
      cases e : t.any (clash a)
      · rfl
      · obtain ⟨y, hy, hc⟩ := List.any_eq_true.1 e
        obtain ⟨j, hj⟩ := List.mem_iff_getElem?.1 hy
        have := h 0 (j + 1) a y (by omega) rfl (by simpa using hj)
        rw [hc] at this
        cases this

theorem widths_snoc (t : List Nd) (x : Nd) : widths (t ++ [x]) = if x.op = 33 then (widths t).set x.imm.toNat x.w else widths t := by
  unfold widths; rw [List.foldl_append]; rfl
theorem snocInd {α : Type} {P : List α → Prop} (h0 : P []) (hs : ∀ l x, P l → P (l ++ [x])) (l : List α) : P l := by
  have h : ∀ r : List α, P r.reverse := by
    intro r
    induction r with
    | nil => exact h0
    | cons a r ih => rw [List.reverse_cons]; exact hs _ _ ih
  have := h l.reverse
  rwa [List.reverse_reverse] at this
theorem widths_len (t : List Nd) : (widths t).length = 4 := by
  refine snocInd (P := fun t => (widths t).length = 4) rfl (fun t x ih => ?_) t
  rw [widths_snoc]; split <;> simp [ih]
theorem clashes_front {t : List Nd} {y : Nd} (h : clashes (t ++ [y]) = false) : clashes t = false :=
  clashes_iff.2 fun i j a b hij ha hb => clashes_iff.1 h i j a b hij (by rw [List.getElem?_append_left (List.getElem?_eq_some_iff.1 ha).1]; exact ha) (by rw [List.getElem?_append_left (List.getElem?_eq_some_iff.1 hb).1]; exact hb)
/-- what the widths tell of a variable: the width of a node that is this variable, if nothing clashes -/
theorem widths_at {t : List Nd} : clashes t = false → (∀ y ∈ t, 0 ≤ y.imm) → ∀ {i : Nat} {x : Nd}, t[i]? = some x → x.op = 33 → x.imm < 4 → (widths t)[x.imm.toNat]? = some x.w := by
  refine snocInd (P := fun t => clashes t = false → (∀ y ∈ t, 0 ≤ y.imm) → ∀ {i : Nat} {x : Nd}, t[i]? = some x → x.op = 33 → x.imm < 4 → (widths t)[x.imm.toNat]? = some x.w) (fun _ _ i x hx => by simp at hx) (fun t y ih hc hp i x hx ho hi => ?_) t
  have hl := widths_len t
  rw [widths_snoc]
  by_cases hit : i < t.length
  · rw [List.getElem?_append_left hit] at hx
    have h1 := ih (clashes_front hc) (fun z hz => hp z (List.mem_append_left _ hz)) hx ho hi
    have hx0 := hp x (List.mem_append_left _ (List.mem_of_getElem? hx))
    have hy0 := hp y (by simp)
    split
    · rename_i hy
      by_cases he : y.imm.toNat = x.imm.toNat
      · rw [← he, List.getElem?_set_self (by omega)]
        have := clashes_iff.1 hc i t.length x y hit (by rw [List.getElem?_append_left hit]; exact hx) (by simp)
        unfold clash at this
        have e : x.imm = y.imm := by omega
        simp [ho, hy, e] at this
        rw [this]
      · rw [List.getElem?_set_ne he]; exact h1
    · exact h1
  · have hit2 : i = t.length := by
      have := (List.getElem?_eq_some_iff.1 hx).1
      simp at this; omega
    subst hit2
    simp at hx
    subst hx
    rw [if_pos ho, List.getElem?_set_self (by omega)]
end Go.Proofs.YtbiopedpceddeaaGreatDoor.T
end
section
section
namespace Go.Proofs.YtbiopedpceddeaaGreatDoor
set_option linter.unusedVariables false
set_option linter.unusedSimpArgs false
open Go.RowKit
end Go.Proofs.YtbiopedpceddeaaGreatDoor
end
section
namespace Go.Proofs.YtbiopedpceddeaaGreatDoor
open Go.RowKit
set_option linter.unusedVariables false

theorem any_take_step {α : Type} {p : α → Bool} {xs : List α} {k : Nat} {x : α} (hx : xs[k]? = some x) (h : (xs.take k).any p = false) (hp : p x = false) : (xs.take (k + 1)).any p = false := by
  rw [take_succ_of hx, List.any_append, h]; simp [hp]
theorem any_true_at {α : Type} {p : α → Bool} {xs : List α} {k : Nat} {x : α} (hx : xs[k]? = some x) (hp : p x = true) : xs.any p = true :=
  List.any_eq_true.2 ⟨x, List.mem_of_getElem? hx, hp⟩

end Go.Proofs.YtbiopedpceddeaaGreatDoor
end
section
namespace Go.Proofs.YtbiopedpceddeaaGreatDoor
open Go.RowKit
set_option linter.unusedVariables false

end Go.Proofs.YtbiopedpceddeaaGreatDoor
end
section
namespace Go.Proofs.YtbiopedpceddeaaGreatDoor
open Go.RowKit
set_option linter.unusedVariables false

theorem one_rep {x : Int} {n : Nat} : ∀ u ∈ List.replicate n (Value.int .u32 x), u.oneCell' = true := fun u hu => by rw [List.eq_of_mem_replicate hu]; rfl
end Go.Proofs.YtbiopedpceddeaaGreatDoor
end
section
namespace Go.Proofs.YtbiopedpceddeaaGreatDoor.K

end Go.Proofs.YtbiopedpceddeaaGreatDoor.K
end
section
namespace Go.Proofs.YtbiopedpceddeaaGreatDoor
open Go.RowKit
set_option linter.unusedVariables false

theorem row_alloc {X : World} {g : Nat} {o : Obj} (h : X.heap[g]? = some o) (o' : Obj) : (X.alloc o').heap[g]? = some o := (Below.heap_alloc _ _ _ (Array.getElem?_eq_some_iff.1 h).1).trans h
theorem row_step {X Y : World} {g : Nat} {o : Obj} (hb : Hid (Below X.heap.size X Y)) (h : X.heap[g]? = some o) : Y.heap[g]? = some o := (hb.out.block g (Array.getElem?_eq_some_iff.1 h).1).trans h
theorem new_two (X : World) (o o' : Obj) : ((X.alloc o).alloc o').heap[X.heap.size + 1]? = some o' := by
  have := heap_alloc_new (X.alloc o) o'
  rwa [World.size_alloc] at this
/-- a row that is being filled -/
def fillC (xs : List Int) (c : Nat) : List Value := xs.map (Value.int .u32) ++ List.replicate (c - xs.length) (.int .u32 0)
theorem fillC_nil (c : Nat) : (fillC [] c).toArray = Array.replicate c (.int .u32 0) := by
  unfold fillC
  simp
theorem fillC_full {xs : List Int} {c : Nat} (h : xs.length = c) : fillC xs c = xs.map (Value.int .u32) := by
  unfold fillC
  rw [h, Nat.sub_self]
  simp
theorem fill_step {w : World} {p : Nat} {xs : List Int} {c : Nat} {x : Int} {T : TypeId} (h : w.heap[p]? = some (.cells (fillC xs c).toArray T (0, 0))) {a : Nat} (ha : xs.length = a) (hc : a < c) :
    (w.setCell ⟨p, a, none⟩ (.int .u32 x)).heap[p]? = some (.cells (fillC (xs ++ [x]) c).toArray T (0, 0)) := by
  rw [heap_setCell_same w p a _ _ _ h]
  congr 3
  subst ha
  apply Array.toList_inj.1
  simp [fillC]
  rw [show c - xs.length = (c - (xs.length + 1)) + 1 by omega, List.replicate_succ]
  simp
theorem fill_cell {w : World} {p : Nat} {xs : List Int} {c : Nat} {T : TypeId} (h : w.heap[p]? = some (.cells (fillC xs c).toArray T (0, 0))) {a : Nat} (ha : xs.length ≤ c) (hc : a < c) :
    (w.cell? ⟨p, a, none⟩).isSome = true ∧ w.frozen? ⟨p, a, none⟩ = false := by
  refine ⟨?_, by simp [World.frozen?, h]⟩
  rw [cell_of_row w p _ _ T (0, 0) h]
  have : a < (fillC xs c).length := by simp [fillC]; omega
  simp [this]

end Go.Proofs.YtbiopedpceddeaaGreatDoor
end
section
namespace Go.Proofs.YtbiopedpceddeaaGreatDoor
open Go.RowKit
set_option linter.unusedVariables false

end Go.Proofs.YtbiopedpceddeaaGreatDoor
end
section
namespace Go.Proofs.YtbiopedpceddeaaGreatDoor
open Go.RowKit
set_option linter.unusedVariables false

end Go.Proofs.YtbiopedpceddeaaGreatDoor
end
end
