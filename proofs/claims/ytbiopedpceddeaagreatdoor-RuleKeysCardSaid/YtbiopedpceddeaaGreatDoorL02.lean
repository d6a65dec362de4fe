/- Merged: RM2, RM3. -/
import Derived.Test.YtbiopedpceddeaaGreatDoorL01
import Derived.Test.YtbiopedpceddeaaGreatDoorL00
import Derived.WalkKit
import Derived.ProofKit
import Derived.OpenShut
import Derived.Deep.Slices
import Derived.Carry
import Derived.Deep.Fields
import Derived.ChangeSame
import Derived.Deep.LoopGhost
import Derived.Deep.RegionLaw
import Derived.Deep.RegionHeld3
set_option linter.unusedVariables false
set_option linter.unusedSimpArgs false
section
section
namespace Go.Proofs.YtbiopedpceddeaaGreatDoor
open Go.RowKit
set_option linter.unusedVariables false

theorem rsize_any (n : Int) (w : World) (h0 : 0 ≤ n) (h1 : n ≤ 32) : Calls Tryz.prog 119 #[.int .i64 n] w fun e w' => e = .returned (.int .i64 (B.pw n)) ∧ w = w' := by
  go_enter Tryz.func119, Tryz.ntmps119
  go_wp2
  go_ret
  refine ⟨ret_int ?_, rfl⟩
  have e : (2 : Int) ^ n.toNat = B.pw n := rfl
  have hp := B.pw_pos n
  have hl := B.pw_le h1
  simp only [e]
  exact B.wrap64_id (by omega) (by omega)

theorem risWidth_yes (n : Int) (w : World) (h0 : 1 ≤ n) (h1 : n ≤ 32) : Calls Tryz.prog 161 #[.int .i64 n] w fun e w' => e = .returned (.bool true) ∧ w = w' := by
  go_enter Tryz.func161, Tryz.ntmps161
  go_wp2
  go_ret
  exact ⟨rfl, rfl⟩
theorem risWidth_no (n : Int) (w : World) (h : n < 1 ∨ 32 < n) : Calls Tryz.prog 161 #[.int .i64 n] w fun e w' => e = .returned (.bool false) ∧ w = w' := by
  rcases h with h | h
  · go_enter Tryz.func161, Tryz.ntmps161
    go_wp2
    go_ret
    exact ⟨rfl, rfl⟩
  · have h1 : 1 ≤ n := by omega
    have hd : decide (n ≤ 32) = false := by simp; omega
    go_enter Tryz.func161, Tryz.ntmps161
    go_wp2
    go_ret
    exact ⟨rfl, rfl⟩
theorem not_wd {n : Int} (h : B.isWd n = false) : n < 1 ∨ 32 < n := by
  have : ¬ (1 ≤ n ∧ n ≤ 32) := fun hc => by rw [B.isWd_iff.2 hc] at h; cases h
  omega
theorem risWidth_any (n : Int) (w : World) : Calls Tryz.prog 161 #[.int .i64 n] w fun e w' => e = .returned (.bool (B.isWd n)) ∧ w = w' := by
  cases h : B.isWd n
  · exact risWidth_no n w (not_wd h)
  · have := B.isWd_iff.1 h
    exact risWidth_yes n w this.1 this.2

theorem isWord_any (n a : Int) (w : World) (h0 : 0 ≤ a) (h1 : a < 4294967296) : Calls Tryz.prog 112 #[.int .i64 n, .int .u32 a] w fun e w' => e = .returned (.bool (B.isW n a)) ∧ w = w' := by
  have H1 := Lib.hid (risWidth_any n w)
  cases h : B.isWd n
  · have hw : B.isW n a = false := by unfold B.isW; rw [h]; rfl
    rw [h] at H1
    rw [hw]
    clear h hw
    go_enter Tryz.func112, Tryz.ntmps112
    go_wp2_with fail
    refine H1.out.mono ?_
    rintro e w' ⟨rfl, rfl⟩
    go_wp2
    go_ret
    exact ⟨rfl, rfl⟩
  · have hn := B.isWd_iff.1 h
    have hw : B.isW n a = decide (a < B.pw n) := by unfold B.isW; rw [h]; rfl
    rw [h] at H1
    rw [hw]
    have H2 := Lib.hid (fun W => rsize_any n W (by omega) hn.2)
    clear h hn hw
    go_enter Tryz.func112, Tryz.ntmps112
    go_wp2_with fail
    refine H1.out.mono ?_
    rintro e w' ⟨rfl, rfl⟩
    go_wp2_with fail
    refine (H2.out _).mono ?_
    rintro e w' ⟨rfl, rfl⟩
    go_wp2
    go_ret
    exact ⟨rfl, rfl⟩

end Go.Proofs.YtbiopedpceddeaaGreatDoor
end
section
namespace Go.Proofs.YtbiopedpceddeaaGreatDoor
open Go.RowKit
set_option linter.unusedVariables false

end Go.Proofs.YtbiopedpceddeaaGreatDoor
end
section
namespace Go.Proofs.YtbiopedpceddeaaGreatDoor
open Go.RowKit
set_option linter.unusedVariables false

end Go.Proofs.YtbiopedpceddeaaGreatDoor
end
section
namespace Go.Proofs.YtbiopedpceddeaaGreatDoor
open Go.RowKit
set_option linter.unusedVariables false

end Go.Proofs.YtbiopedpceddeaaGreatDoor
end
section
namespace Go.Proofs.YtbiopedpceddeaaGreatDoor
open Go.RowKit
set_option linter.unusedVariables false

end Go.Proofs.YtbiopedpceddeaaGreatDoor
end
section
namespace Go.Proofs.YtbiopedpceddeaaGreatDoor
open Go.RowKit
set_option linter.unusedVariables false
set_option linter.unusedSimpArgs false

end Go.Proofs.YtbiopedpceddeaaGreatDoor
end
end
section
section
namespace Go.Proofs.YtbiopedpceddeaaGreatDoor.K

theorem take_succ_at {α : Type} {xs : List α} {k : Nat} {x : α} (h : xs[k]? = some x) : xs.take (k + 1) = xs.take k ++ [x] := by
  rw [List.take_add_one, h]; rfl
end Go.Proofs.YtbiopedpceddeaaGreatDoor.K
end
section
namespace Go.Proofs.YtbiopedpceddeaaGreatDoor
open Go.ChangeShapes Go.WideShapes Go.ChangeAt Go.RowKit Go.Deep
set_option linter.unusedVariables false

section
variable {H : Type} {enc : TypeId × Value → H} {P : Program} {W : World}

/-- 'one cell that reads at t is an element'. -/
def ReadsAs {α : Type} (enc : TypeId × Value → H) (P : Program) (W : World) (t : TypeId) (R : World → Value → α → Prop) : Prop :=
  ∀ n u x, DataW.trod enc P W 0 (fun _ => true) true n t [u] = some x → ∃ a, R W u a

theorem readsInt {t : TypeId} {q : IntKind} (ht : P.underlying t = some (.int q)) : ReadsAs enc P W t (IntR q) := by
  intro n u x h
  obtain ⟨m, e, _, _⟩ := DataW.trod_int ht h
  exact ⟨m, (List.cons.inj e).1⟩
theorem slAt_of_cells {α : Type} [Inhabited α] {R : World → Value → α → Prop} {t e : TypeId} (ht : P.underlying t = some (.slice e)) (hc : P.cellsOf e = 1) (hR : ReadsAs enc P W e R) {n : Nat} {u : Value} {x : DataW H × List MemPlace}
    (h : DataW.trod enc P W 0 (fun _ => true) true n t [u] = some x) : ∃ A m c xs, u = .slice A m c ∧ SlAt R W A m xs := by
  rcases open_slice1 ht hc h with ⟨e1, _⟩ | ⟨a, len, cap, m, k, V, D, Pl, e1, _, hl, hm, hmm, _, hV⟩
  · exact ⟨none, 0, 0, [], by simpa using e1, SlAt.nil_ _⟩
  · simp at hmm
    subst hmm
    obtain ⟨X, hX⟩ := choose_lt (α := α) (p := fun i y => R W (V i) y) (n := m) (fun i hi => hR k (V i) _ (hV i hi).2)
    refine ⟨some a, len, m, (List.range len).map X, by simpa using e1, by simp, ?_, fun j y hy => ?_⟩
    · simp only [maxLen] at hm; omega
    · have hj : j < len := by
        have := (List.getElem?_eq_some_iff.1 hy).1
        simpa using this
      have hy' : y = X j := by simpa [hj] using hy.symm
      obtain ⟨b, off, spot⟩ := a
      have h0 : spot = none := World.cell?_spot (v := V 0) (by simpa [Addr.add] using (hV 0 (by omega)).1)
      subst h0
      have hcell := (hV j (by omega)).1
      rw [add_plain] at hcell
      exact ⟨b, off, V j, rfl, World.block_lt_of_cell? _ _ hcell, hcell, by rw [hy']; exact hX j (by omega)⟩

theorem readsSl {α : Type} [Inhabited α] {R : World → Value → α → Prop} {t e : TypeId} (ht : P.underlying t = some (.slice e)) (hc : P.cellsOf e = 1) (hR : ReadsAs enc P W e R) : ReadsAs enc P W t (SlR R) := by
  intro n u x h
  obtain ⟨A, m, c, xs, rfl, hs⟩ := slAt_of_cells ht hc hR h
  obtain rfl := hs.len
  exact ⟨xs, SlR.mk_ hs⟩

/-- All that came in reads behind the call as it did. -/
theorem trodAll_stays (hl : laidOutB P = true) {W' : World} (hb : Below W.heap.size W W') {sp : Nat → Bool} : ∀ {ts : List TypeId} {vs : List Value} {ds : List (DataW H)} {ps : List MemPlace},
    (ts.all fun t => P.readableRec t && decide (t < P.types.size)) = true → DataW.TrodAll enc P W 0 (fun _ => true) true ts vs ds ps → (∀ x ∈ ps, x.block < W.heap.size) → (∀ x ∈ ps, sp x.block = true) → DataW.TrodAll enc P W' 0 sp true ts vs ds ps
  | [], vs, ds, ps, _, h, _, _ => by
    obtain ⟨rfl, rfl, rfl⟩ := trodAll_nil h
    exact trodAll_mk0
  | t :: ts, vs, ds, ps, hr, h, hlt, hsp => by
    obtain ⟨v, vs', d, ds', p, q, rfl, rfl, rfl, h1, h2⟩ := trodAll_cons h
    simp only [List.all_cons, Bool.and_eq_true, decide_eq_true_eq] at hr
    exact trodAll_cons_mk (WideElems.Trod_stays hl hr.1.1 hr.1.2 h1 (fun x hx => hb.same (hlt x (List.mem_append_left _ hx))) (fun x hx => hsp x (List.mem_append_left _ hx)))
      (trodAll_stays hl hb hr.2 h2 (fun x hx => hlt x (List.mem_append_right _ hx)) (fun x hx => hsp x (List.mem_append_right _ hx)))

/-- THE LAW's POST: true; what came in reads as it did. -/
theorem post_true {f : Func} {s : ChangeSpec} {W' : World} {args : Array Value} {ds gs : List (DataW H)} {before : List MemPlace} {tb : TypeId} {apart fresh handsOn : Bool} (hl : laidOutB P = true) (hv : s.vars = [])
    (hr : (f.params.toList.all fun t => P.readableRec t && decide (t < P.types.size)) = true)
    (hW : DataW.Whole enc P f.params.toList s.vars apart W args.toList ds gs before) (hs : s.fn H (ds ++ gs) = { results := [.lit (.bool true)], args := ds }) (hrt : f.resultTypes = #[tb]) (htb : P.underlying tb = some .bool)
    (hb : Below W.heap.size W W') : s.post enc P f apart fresh handsOn false W args (.bool true) W' := by
  have hW' := hW
  obtain ⟨p, q, hA, hV, rfl, hfz, hnd⟩ := hW
  rw [hv] at hV
  obtain ⟨rfl, rfl⟩ := trodVars_none hV
  have hlt : ∀ x ∈ p, x.block < W.heap.size := fun x hx => by have := hW'.lt x (by simpa using hx); exact this
  refine ⟨ds, [], p ++ [], [], p, [], hW', ?_, ?_, ?_, hb.frame _, fun h => by cases h⟩
  · rw [hs, hrt]; exact trodAll_cons_mk (shut_bool htb _) trodAll_mk0
  · rw [hs]; exact trodAll_stays hl hb hr hA hlt (fun x hx => by simpa using hlt x hx)
  · rw [hv, hs]; rfl
end
end Go.Proofs.YtbiopedpceddeaaGreatDoor
end
section
namespace Go.Proofs.YtbiopedpceddeaaGreatDoor
open Go.ChangeShapes Go.WideShapes Go.ChangeAt Go.RowKit Go.Deep
set_option linter.unusedVariables false

/-- The slice at A of n elements of s cells each reads as the list xs, element by element by R. -/
def StAt {α : Type} (s : Nat) (R : World → List Value → α → Prop) (w : World) (A : Option Addr) (n : Nat) (xs : List α) : Prop :=
  xs.length = n ∧ n ≤ 9223372036854775807 ∧ ∀ k x, xs[k]? = some x → ∃ b off us, A = some ⟨b, off, none⟩ ∧ b < w.heap.size ∧ us.length = s ∧ (∀ j u, us[j]? = some u → w.cell? ⟨b, off + k * s + j, none⟩ = some u) ∧ R w us x

def MonoL {α : Type} (R : World → List Value → α → Prop) : Prop := ∀ w w' us x, Below w.heap.size w w' → R w us x → R w' us x

section
variable {α : Type} {s : Nat} {R : World → List Value → α → Prop} {w w' : World} {A : Option Addr} {n : Nat} {xs : List α}

theorem StAt.len (h : StAt s R w A n xs) : xs.length = n := h.1
theorem StAt.le (h : StAt s R w A n xs) : n ≤ 9223372036854775807 := h.2.1

theorem StAt.at_ (h : StAt s R w A n xs) {k : Nat} (hk : k < n) : ∃ x b off us, xs[k]? = some x ∧ A = some ⟨b, off, none⟩ ∧ b < w.heap.size ∧ us.length = s ∧ (∀ j u, us[j]? = some u → w.cell? ⟨b, off + k * s + j, none⟩ = some u) ∧ R w us x := by
  obtain ⟨h1, _, h2⟩ := h
  have hl : k < xs.length := by omega
  obtain ⟨b, off, us, r⟩ := h2 k xs[k] (List.getElem?_eq_getElem hl)
  exact ⟨_, b, off, us, List.getElem?_eq_getElem hl, r⟩

theorem StAt.below (hR : MonoL R) (h : StAt s R w A n xs) (hb : Below w.heap.size w w') : StAt s R w' A n xs := by
  refine ⟨h.1, h.2.1, fun k x hx => ?_⟩
  obtain ⟨b, off, us, hA, hlt, hs, hc, hr⟩ := h.2.2 k x hx
  exact ⟨b, off, us, hA, Nat.lt_of_lt_of_le hlt hb.size, hs, fun j u hu => (hb.cell (p := ⟨b, off + k * s + j, none⟩) hlt).trans (hc j u hu), hR _ _ _ _ hb hr⟩

theorem StAt.nil_ (A : Option Addr) : StAt s R w A 0 ([] : List α) := ⟨rfl, by omega, fun k x h => by simp at h⟩

/-- A slice of the call's own, s cells an element, read. -/
theorem OwnAt.stAt {e : TypeId} {c : Nat} {vs : List Value} {ys : List α} (h : OwnAt w e s (.slice A n c) n vs) (hl : ys.length = n)
    (hR : ∀ (k : Nat) (x : α), ys[k]? = some x → R w ((vs.drop (k * s)).take s) x) : StAt s R w A n ys := by
  refine ⟨hl, h.le, fun k x hx => ?_⟩
  have hk : k < ys.length := (List.getElem?_eq_some_iff.1 hx).1
  rcases h.2 with ⟨h1, h2⟩ | ⟨g, off, cap, cur, h1, hg, _, _, _, hcur⟩
  · omega
  · injection h1 with h1 _ _
    have hvl := h.1
    have hks : k * s + s ≤ n * s := by rw [← Nat.succ_mul]; exact Nat.mul_le_mul_right _ (by omega)
    refine ⟨g, off, (vs.drop (k * s)).take s, h1, (Array.getElem?_eq_some_iff.1 hg).1, by rw [List.length_take, List.length_drop]; omega, fun j u hu => ?_, hR k x hx⟩
    rw [cell_of_row w g _ cur e (0, 0) hg, Nat.add_assoc]
    refine hcur _ _ ?_
    rw [List.getElem?_take] at hu
    split at hu
    · rw [List.getElem?_drop] at hu; exact hu
    · cases hu

end

section
variable {H : Type} {enc : TypeId × Value → H} {P : Program} {W : World}

/-- 'the cells of a struct of fields fs read as an element'. -/
def ReadsSt {α : Type} (enc : TypeId × Value → H) (P : Program) (W : World) (fs : Array Field) (R : World → List Value → α → Prop) : Prop :=
  ∀ n (us : List Value), us.length = fs.size → (∀ (j : Nat) (f : Field), fs[j]? = some f → ∃ u y, us[j]? = some u ∧ DataW.trod enc P W 0 (fun _ => true) true n f.type [u] = some y) → ∃ a, R W us a

theorem stAt_of_cells {α : Type} [Inhabited α] {R : World → List Value → α → Prop} {t e : TypeId} {fs : Array Field} (ht : P.underlying t = some (.slice e)) (he : P.underlying e = some (.struct fs))
    (hone : oneCellFields P fs = true) (hC : P.cellsOf e = fs.size) (hs0 : 0 < fs.size) (hR : ReadsSt enc P W fs R) {n : Nat} {u : Value} {x : DataW H × List MemPlace}
    (h : DataW.trod enc P W 0 (fun _ => true) true n t [u] = some x) : ∃ A m c xs, u = .slice A m c ∧ StAt fs.size R W A m xs := by
  rcases open_slice ht h with ⟨e1, _⟩ | ⟨a, len, cap, m, k, D, Pl, e1, _, hl, hm, hmm, _, hV⟩
  · exact ⟨none, 0, 0, [], by simpa using e1, StAt.nil_ _⟩
  · simp at hmm
    subst hmm
    have each : ∀ i, i < m → ∃ q : α × List Value, q.2.length = fs.size ∧ (∀ j v, q.2[j]? = some v → W.cell? (a.add (i * fs.size + j)) = some v) ∧ R W q.2 q.1 := by
      intro i hi
      obtain ⟨cs', hc, ht'⟩ := hV i hi
      rw [hC] at hc
      obtain ⟨ys, n', hn', hy, hlen, hyl, hf⟩ := DataW.trod_struct he ht'
      obtain ⟨_, hcl, hat⟩ := World.cells?_some hc
      obtain ⟨y, hy'⟩ := hR n' cs' hcl (fun j f hj => by
        obtain ⟨ho, hk⟩ := hone_of hone j f hj
        have hjl : j < fs.size := (Array.getElem?_eq_some_iff.1 hj).1
        have h1 := hf j f hj
        rw [ho, hk] at h1
        have hone' : (cs'.drop j).take 1 = [cs'[j]'(by omega)] := by
          rw [List.drop_eq_getElem_cons (by omega)]
          rfl
        rw [hone'] at h1
        exact ⟨_, _, List.getElem?_eq_getElem (by omega), h1.trans (List.getElem?_eq_getElem (by omega))⟩)
      refine ⟨(y, cs'), hcl, fun j v hv => ?_, hy'⟩
      have hj : j < fs.size := by have := (List.getElem?_eq_some_iff.1 hv).1; simp at this; omega
      rw [← Go.Deep.add_add, hat j hj]
      exact hv
    obtain ⟨q, hq⟩ := choose_lt each
    refine ⟨some a, len, m, (List.range len).map fun i => (q i).1, by simpa using e1, by simp, ?_, fun j y hy => ?_⟩
    · simp only [maxLen] at hm; omega
    · have hj : j < len := by
        have := (List.getElem?_eq_some_iff.1 hy).1
        simpa using this
      have hy' : y = (q j).1 := by simpa [hj] using hy.symm
      obtain ⟨b, off, spot⟩ := a
      obtain ⟨h1, h2, h3⟩ := hq j (by omega)
      have hv : (q j).2[0]? = some ((q j).2[0]'(by omega)) := List.getElem?_eq_getElem (by omega)
      have hc0 := h2 0 _ hv
      have h0 : spot = none := by
        obtain ⟨g1, g2, _⟩ := hq 0 (by omega)
        have hv0 : (q 0).2[0]? = some ((q 0).2[0]'(by omega)) := List.getElem?_eq_getElem (by omega)
        have := World.cell?_spot (g2 0 _ hv0)
        simpa [Addr.add] using this
      subst h0
      rw [add_plain] at hc0
      refine ⟨b, off, (q j).2, rfl, World.block_lt_of_cell? _ _ hc0, h1, fun i v hv => ?_, by rw [hy']; exact h3⟩
      have := h2 i v hv
      rw [add_plain, ← Nat.add_assoc] at this
      exact this

end
end Go.Proofs.YtbiopedpceddeaaGreatDoor
end
section
namespace Go.Proofs.YtbiopedpceddeaaGreatDoor
open Go.RowKit
set_option linter.unusedVariables false

theorem below_append {w0 w w' : World} {B : Nat} {v v' : Value} {o : Obj} (hb : Below B w0 w) (hB : B ≤ w.heap.size) (hv : ∀ g, v.ownBlock = some g → B ≤ g) (hg : (w.alloc o).grownBy w' v.ownBlock)
    (hat : v'.ownBlock = v.ownBlock ∨ v'.ownBlock = some (w.heap.size + 1)) : Below B w0 w' ∧ ∀ g, v'.ownBlock = some g → B ≤ g := by
  refine ⟨(hb.alloc hB o).grown hg (by simp; omega) hv, fun g hgv => ?_⟩
  rcases hat with h | h
  · exact hv g (by rw [← h]; exact hgv)
  · rw [h] at hgv; cases hgv; omega
/-- 'append(out, u)' of one element of one cell; the place of the new block as the walk spells it. -/
theorem wpList_append_one' {P : Program} {w : World} {ops : Array Oper} {rest : List Oper} {o : Oper} {a : Act} {Q : Exit → Act → World → Prop} (hgd : o.guard = none) (sx x : Operand) (t : TypeId)
    (ho : o.op = .call { callee := .builtin .append, args := #[sx, x], argTypes := #[t, t] })
    (e : TypeId) (z : Value) (bytes : Nat) (ht : P.underlying t = some (.slice e)) (hinfo : (P.info? e).map (fun i => (i.zero, i.size, i.bytes)) = some (some z, 1, bytes)) (hzs : z.cells.size = 1)
    (v : Value) (n : Nat) (xs : List Value) (hs : a.eval sx = v) (hown : OwnAt w e 1 v n xs) (u : Value) (h1 : u.oneCell' = true) (E : TypeId) (p : Nat) (hp : p = w.heap.size)
    (hx : a.eval x = .slice (some ⟨p, 0, none⟩) 1 1) (hn : n ≤ 1000000000) (hb : bytes ≤ 64)
    (h : ∀ v' w', OwnAt w' e 1 v' (n + 1) (xs ++ [u]) → (w.alloc (.cells #[u] E)).grownBy w' v.ownBlock → (v'.ownBlock = v.ownBlock ∨ v'.ownBlock = some (w.heap.size + 1)) → wpList P ops Q rest (a.put o.dst v') w') :
    wpList P ops Q (o :: rest) a (w.alloc (.cells #[u] E)) := by
  subst hp
  exact wpList_append_one w hgd sx x t ho e z bytes ht hinfo hzs v n xs hs hown u h1 E hx hn hb h

theorem infoInt : (Tryz.prog.info? 3).map (fun i => (i.zero, i.size, i.bytes)) = some (some (.int .i64 0), 1, 8) := by kernel_rfl
end Go.Proofs.YtbiopedpceddeaaGreatDoor
end
section
namespace Go.Proofs.YtbiopedpceddeaaGreatDoor
open Go.RowKit
set_option linter.unusedVariables false

end Go.Proofs.YtbiopedpceddeaaGreatDoor
end
section
namespace Go.Proofs.YtbiopedpceddeaaGreatDoor
open Go.RowKit
set_option linter.unusedVariables false

/-- 'append(out, u)' of one element of several cells. -/
theorem wpList_append_cells {P : Program} {w : World} {ops : Array Oper} {rest : List Oper} {o : Oper} {a : Act} {Q : Exit → Act → World → Prop} (hgd : o.guard = none) (sx x : Operand) (t : TypeId)
    (ho : o.op = .call { callee := .builtin .append, args := #[sx, x], argTypes := #[t, t] })
    (e : TypeId) (z : Value) (s bytes : Nat) (ht : P.underlying t = some (.slice e)) (hinfo : (P.info? e).map (fun i => (i.zero, i.size, i.bytes)) = some (some z, s, bytes)) (hzs : z.cells.size = s)
    (v : Value) (n : Nat) (xs : List Value) (hs : a.eval sx = v) (hown : OwnAt w e s v n xs) (cs : Array Value) (hcs : cs.size = s) (h1 : ∀ u ∈ cs.toList, u.oneCell' = true) (E : TypeId) (p : Nat) (hp : p = w.heap.size)
    (hx : a.eval x = .slice (some ⟨p, 0, none⟩) 1 1) (hn : n ≤ 1000000000) (hb : bytes ≤ 64)
    (h : ∀ v' w', OwnAt w' e s v' (n + 1) (xs ++ cs.toList) → (w.alloc (.cells cs E)).grownBy w' v.ownBlock → (v'.ownBlock = v.ownBlock ∨ v'.ownBlock = some (w.heap.size + 1)) → wpList P ops Q rest (a.put o.dst v') w') :
    wpList P ops Q (o :: rest) a (w.alloc (.cells cs E)) := by
  subst hp
  obtain ⟨i, hi, hz, hsz, hby⟩ := info_parts hinfo
  have hmul : (n + 1) * bytes ≤ (n + 1) * 64 := Nat.mul_le_mul_left _ hb
  refine wpList_append_at _ hgd sx x t ho e i z s bytes ht hi hz hsz hby hzs v n xs hs (hown.alloc _) _ 1 1 cs.toList hx (by simpa using hcs) (fun j u hu => ?_) h1 (by simp only [maxLen]; omega) (by omega) ?_
  · rw [addr_add_zero, Nat.zero_add, cell_of_row _ _ _ cs E (0, 0) (heap_alloc_new w _)]
    simpa using hu
  · intro v' w' h2 h3 h4
    exact h v' w' h2 h3 (by simpa using h4)

end Go.Proofs.YtbiopedpceddeaaGreatDoor
end
section
namespace Go.Proofs.YtbiopedpceddeaaGreatDoor
open Go.RowKit
set_option linter.unusedVariables false

end Go.Proofs.YtbiopedpceddeaaGreatDoor
end
section
namespace Go.Proofs.YtbiopedpceddeaaGreatDoor
open Go.RowKit
set_option linter.unusedVariables false

end Go.Proofs.YtbiopedpceddeaaGreatDoor
end
section
namespace Go.Proofs.YtbiopedpceddeaaGreatDoor
open Go.RowKit
set_option linter.unusedVariables false

namespace K
end K

end Go.Proofs.YtbiopedpceddeaaGreatDoor
end
end
