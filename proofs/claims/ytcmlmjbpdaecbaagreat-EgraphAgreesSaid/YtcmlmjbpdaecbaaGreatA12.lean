/- Merged: QG6, QG7. -/
import Derived.Test.YtcmlmjbpdaecbaaGreatA11
set_option linter.unusedVariables false
set_option linter.unusedSimpArgs false
section
namespace Go.Proofs.YtcmlmjbpdaecbaaGreat
open Go.RowKit Go.MapKept Go.Maps Go.WideMaps
set_option linter.unusedVariables false
set_option linter.unusedSimpArgs false

/-- one cell of an own slice is stored -/
theorem OwnAt.set_ {w : World} {e : TypeId} {g off n c : Nat} {xs : List Value} (h : OwnAt w e 1 (.slice (some ⟨g, off, none⟩) n c) n xs) {k : Nat} (hk : k < n) (u : Value) : OwnAt (w.setCell ⟨g, off + k, none⟩ u) e 1 (.slice (some ⟨g, off, none⟩) n c) n (xs.set k u) := by
  obtain ⟨h1, h2⟩ := h
  refine ⟨by simpa using h1, ?_⟩
  rcases h2 with ⟨h2, h3⟩ | ⟨g', off', cap, cur, e1, hc, i1, i2, i3, i4⟩
  · cases h2
  · cases e1
    refine .inr ⟨g, off, c, cur.setIfInBounds (off + k) u, rfl, heap_setCell_same w g (off + k) _ _ u hc, i1, i2, by simpa using i3, fun j v hv => ?_⟩
    rw [List.getElem?_set] at hv
    rw [Array.getElem?_setIfInBounds]
    split at hv
    · rename_i hj
      subst hj
      split at hv
      · rw [if_pos rfl, if_pos (by omega)]; exact hv
      · cases hv
    · rename_i hj
      rw [if_neg (by omega)]
      exact i4 j v hv

section
variable {w w' : World} {b : Nat} {p : List Nat} {wd : List Int} {es kn : List (E.Opn × Nat)} {nm : List Nat} {vr : E.Vr} {v1 v2 v3 v4 : Value} {kb : Nat}
/-- a parent is stored -/
theorem GrC.setP {g off c : Nat} (h : GrC w b p wd es kn nm vr (.slice (some ⟨g, off, none⟩) p.length c) v2 v3 v4 kb) {m k : Nat} (hm : m < p.length) : GrC (w.setCell ⟨g, off + m, none⟩ (.int .i64 (k : Int))) b (p.set m k) wd es kn nm vr (.slice (some ⟨g, off, none⟩) p.length c) v2 v3 v4 kb := by
  have hb1 : (Value.slice (some ⟨g, off, none⟩) p.length c).ownBlock = some g := rfl
  have ho : ∀ i, i ≠ g → (w.setCell ⟨g, off + m, none⟩ (.int .i64 (k : Int))).heap[i]? = w.heap[i]? := fun i hi => Below.heap_setCell _ _ _ i hi
  refine ⟨(ho b (fun e => h.ne1 (by rw [hb1, e]))).trans h.row, ?_, h.o2.same fun i hi => ho i (fun e => h.d12 g hb1 (e ▸ hi)), h.o3.same fun i hi => ho i (fun e => h.n13 g hb1 (e ▸ hi)), h.km.keep (ho kb (fun e => h.nk1 (by rw [hb1, e]))) (fun _ _ _ h => h), h.o4.same fun i hi => ho i (fun e => h.d14 g hb1 (e ▸ hi)), h.d12, h.d14, h.d24⟩
  have := h.o1.set_ hm (.int .i64 (k : Int))
  rw [List.length_set, show ivs (p.set m k) = (ivs p).set m (.int .i64 (k : Int)) by simp [ivs, List.map_set]]
  exact this
end

set_option maxRecDepth 100000 in
set_option maxHeartbeats 4000000 in
theorem gunite_any {W : World} {b : Nat} {p : List Nat} {wd : List Int} {es kn : List (E.Opn × Nat)} {nm : List Nat} {vr : E.Vr} {v1 v2 v3 v4 : Value} {kb : Nat} (h : GrC W b p wd es kn nm vr v1 v2 v3 v4 kb) (hd : E.Down p) (x y : Nat) (hx : x < p.length) (hy : y < p.length) :
    Calls Tryz.prog 73 #[.pointer (some ⟨b, 0, none⟩), .int .i64 (x : Int), .int .i64 (y : Int)] W fun e W' => e = .returned (.bool (decide (E.root p x ≠ E.root p y))) ∧ GrC W' b (E.join p x y) wd es kn nm vr v1 v2 v3 v4 kb ∧ Kpm (MG b v1 v2 v3 v4 kb) W W' ∧ W'.heap.size = W.heap.size := by
  have Hfx := Lib.hid (h.find hd x hx)
  have Hfy := Lib.hid (h.find hd y hy)
  have hrx := E.root_lt hx
  have hry := E.root_lt hy
  obtain ⟨rx, hrx'⟩ : ∃ rx, E.root p x = rx := ⟨_, rfl⟩
  obtain ⟨ry, hry'⟩ : ∃ ry, E.root p y = ry := ⟨_, rfl⟩
  rw [hrx'] at Hfx hrx
  rw [hry'] at Hfy hry
  obtain ⟨g, off, c, rfl⟩ : ∃ g off c, v1 = .slice (some ⟨g, off, none⟩) p.length c := by
    rcases h.o1.2 with ⟨_, e⟩ | ⟨g, off, cap, cur, e, _⟩
    · omega
    · exact ⟨g, off, cap, e⟩
  obtain ⟨k0, _, _, _, _⟩ := h.cells
  obtain ⟨cur, hcur⟩ := h.o1.row_ex (g := g) rfl
  have hsl := h.o1
  have Hrx := Lib.hid hrx
  have Hry := Lib.hid hry
  have Hex := Lib.hid hrx'
  have Hey := Lib.hid hry'
  have H := Lib.hid h
  have hple : p.length ≤ 9223372036854775807 := h.o1.le
  have Hu := Lib.hid (show ∀ m, m < p.length → ∃ u, W.cell? ⟨g, off + m, none⟩ = some u from fun m hml => by
    obtain ⟨A, ca, e, hs⟩ := h.slP
    cases e
    obtain ⟨z, b', off', u, _, e, _, hc, _⟩ := hs.at_ hml
    cases e
    exact ⟨u, hc⟩)
  have Hf := Lib.hid (show ∀ m, W.frozen? ⟨g, off + m, none⟩ = false from fun m => frozen_row hcur _)
  clear h hd hrx hry hrx' hry' hcur hsl
  by_cases hne : rx = ry
  · have Hne := Lib.hid hne
    have hd : ((rx : Int) == (ry : Int)) = true := by simp; omega
    clear hne
    go_enter Tryz.func73, Tryz.ntmps73
    go_wp2_with fail
    (with_reducible refine Hfx.out.mono ?_)
    rintro e w2 ⟨rfl, rfl⟩
    go_wp2_with fail
    (with_reducible refine Hfy.out.mono ?_)
    rintro e w2 ⟨rfl, rfl⟩
    go_wp2
    go_ret
    have e : E.join p x y = p := by unfold E.join; rw [if_pos (by rw [Hex.out, Hey.out]; exact Hne.out)]
    refine ⟨?_, by rw [e]; exact H.out, Kpm.refl _ _, rfl⟩
    rw [Hex.out, Hey.out, Hne.out]; simp
  rcases Nat.lt_or_gt_of_ne hne with hlt | hlt
  · clear hne
    have hd : ((rx : Int) == (ry : Int)) = false := by simp; omega
    obtain ⟨u, hu⟩ := Hu.out ry Hry.out
    have hf := Hf.out ry
    have Hlt := Lib.hid hlt
    have hlI : (rx : Int) < (ry : Int) := by omega
    have hlJ : ¬ (ry : Int) ≤ (rx : Int) := by omega
    have hlL : (rx : Int) ≤ (ry : Int) := by omega
    clear hlt
    go_enter Tryz.func73, Tryz.ntmps73
    go_wp2_with fail
    (with_reducible refine Hfx.out.mono ?_)
    rintro e w2 ⟨rfl, rfl⟩
    go_wp2_with fail
    (with_reducible refine Hfy.out.mono ?_)
    rintro e w2 ⟨rfl, rfl⟩
    go_wp2
    go_ret
    have hne : rx ≠ ry := by have := Hlt.out; omega
    have e : E.join p x y = p.set ry rx := by unfold E.join; rw [if_neg (by rw [Hex.out, Hey.out]; exact hne), Hex.out, Hey.out, show max rx ry = ry by have := Hlt.out; omega, show min rx ry = rx by have := Hlt.out; omega]
    refine ⟨?_, by rw [e]; exact H.out.setP Hry.out, (Kpm.refl _ _).setCell (p := ⟨g, off + ry, none⟩) (fun _ => .inr (.inr (.inl rfl))) _, by simp⟩
    rw [Hex.out, Hey.out]; simp [hne]
  · clear hne
    have hd : ((rx : Int) == (ry : Int)) = false := by simp; omega
    obtain ⟨u, hu⟩ := Hu.out rx Hrx.out
    have hf := Hf.out rx
    have Hlt := Lib.hid hlt
    have hlI : (ry : Int) < (rx : Int) := by omega
    have hlJ : ¬ (rx : Int) ≤ (ry : Int) := by omega
    have hlL : (ry : Int) ≤ (rx : Int) := by omega
    clear hlt
    go_enter Tryz.func73, Tryz.ntmps73
    go_wp2_with fail
    (with_reducible refine Hfx.out.mono ?_)
    rintro e w2 ⟨rfl, rfl⟩
    go_wp2_with fail
    (with_reducible refine Hfy.out.mono ?_)
    rintro e w2 ⟨rfl, rfl⟩
    go_wp2
    go_ret
    have hne : rx ≠ ry := by have := Hlt.out; omega
    have e : E.join p x y = p.set rx ry := by unfold E.join; rw [if_neg (by rw [Hex.out, Hey.out]; exact hne), Hex.out, Hey.out, show max rx ry = rx by have := Hlt.out; omega, show min rx ry = ry by have := Hlt.out; omega]
    refine ⟨?_, by rw [e]; exact H.out.setP Hrx.out, (Kpm.refl _ _).setCell (p := ⟨g, off + rx, none⟩) (fun _ => .inr (.inr (.inl rfl))) _, by simp⟩
    rw [Hex.out, Hey.out]; simp [hne]
end Go.Proofs.YtcmlmjbpdaecbaaGreat
end
section
namespace Go.Proofs.YtcmlmjbpdaecbaaGreat
open Go.RowKit Go.MapKept Go.Maps Go.WideMaps
set_option linter.unusedVariables false
set_option linter.unusedSimpArgs false

namespace E
theorem find_get {kn : List (Opn × Nat)} {x : Opn} : (kn.find? (fun k => decide (k.1 = x))).map Prod.snd = AL.get kn x ∧ ∀ k, kn.find? (fun k => decide (k.1 = x)) = some k → AL.get kn x = some k.2 := by
  induction kn with
  | nil => exact ⟨rfl, fun k h => by simp at h⟩
  | cons e kn ih =>
    simp only [List.find?_cons, AL.get]
    by_cases h : e.1 = x
    · rw [if_pos h]; simp [h]
    · rw [if_neg h]; simp only [h, decide_false]; exact ih
theorem pass_none {p : List Nat} {kn es : List (Opn × Nat)} {e : Opn × Nat} (h : AL.get kn (can p e.1) = none) : pass p kn (e :: es) = pass p (kn ++ [(can p e.1, root p e.2)]) es := by
  have h1 := (find_get (kn := kn) (x := can p e.1)).1
  rw [h] at h1
  have h2 : kn.find? (fun k => decide (k.1 = can p e.1)) = none := by simpa using h1
  conv => lhs; unfold pass
  rw [h2]
theorem pass_some {p : List Nat} {kn es : List (Opn × Nat)} {e : Opn × Nat} {c : Nat} (h : AL.get kn (can p e.1) = some c) : pass p kn (e :: es) = if root p c = root p e.2 then pass p kn es else ((pass (join p c e.2) kn es).1, (pass (join p c e.2) kn es).2.1, true) := by
  obtain ⟨h1, h3⟩ := find_get (kn := kn) (x := can p e.1)
  cases hf : kn.find? (fun k => decide (k.1 = can p e.1)) with
  | none => rw [hf, h] at h1; cases h1
  | some k =>
    have h4 := h3 k hf
    rw [h] at h4
    cases h4
    conv => lhs; unfold pass
    rw [hf]
/-- rounds up to one that makes nothing one -/
inductive Done : List Nat → List (Opn × Nat) → List Nat → List (Opn × Nat) → Prop where
  | last {p : List Nat} {es : List (Opn × Nat)} (h : (pass p [] es).2.2 = false) : Done p es (pass p [] es).1 (pass p [] es).2.1
  | more {p : List Nat} {es : List (Opn × Nat)} {p' : List Nat} {es' : List (Opn × Nat)} (h : (pass p [] es).2.2 = true) (hd : Done (pass p [] es).1 (pass p [] es).2.1 p' es') : Done p es p' es'
theorem Done.more_inv {p : List Nat} {es : List (Opn × Nat)} {p' : List Nat} {es' : List (Opn × Nat)} (h : Done p es p' es') (hf : (pass p [] es).2.2 = true) : Done (pass p [] es).1 (pass p [] es).2.1 p' es' := by
  cases h with
  | last h => rw [h] at hf; cases hf
  | more _ hd => exact hd
theorem Done.last_inv {p : List Nat} {es : List (Opn × Nat)} {p' : List Nat} {es' : List (Opn × Nat)} (h : Done p es p' es') (hf : (pass p [] es).2.2 = false) : p' = (pass p [] es).1 ∧ es' = (pass p [] es).2.1 := by
  cases h with
  | last _ => exact ⟨rfl, rfl⟩
  | more h _ => rw [h] at hf; cases hf
theorem join_root {p : List Nat} (hd : Down p) (a b : Nat) : join p a (root p b) = join p a b := by
  unfold join; rw [root_root hd]
end E

/-- a round that has come to the entry j -/
structure CI (p1 : List Nat) (es1 : List (E.Opn × Nat)) (p2 : List Nat) (kn2 : List (E.Opn × Nat)) (fl : Bool) (j : Nat) : Prop where
  eq : E.pass p1 [] es1 = ((E.pass p2 kn2 (es1.drop j)).1, (E.pass p2 kn2 (es1.drop j)).2.1, fl || (E.pass p2 kn2 (es1.drop j)).2.2)
  down : E.Down p2
  len : p2.length = p1.length
  inn : E.In p2 kn2
  ar : ∀ k ∈ kn2, E.Ar p1.length k.1
  owf : ∀ k ∈ kn2, OWf k.1
  le : kn2.length ≤ j
theorem CI.start {p1 : List Nat} {es1 : List (E.Opn × Nat)} (hd : E.Down p1) : CI p1 es1 p1 [] false 0 :=
  ⟨by simp, hd, rfl, (fun _ h => by cases h), (fun _ h => by cases h), (fun _ h => by cases h), Nat.le_refl _⟩
theorem drop_cons {α : Type} {l : List α} {j : Nat} {x : α} (h : l[j]? = some x) : l.drop j = x :: l.drop (j + 1) := by
  obtain ⟨hl, e⟩ := List.getElem?_eq_some_iff.1 h
  rw [List.drop_eq_getElem_cons hl, e]
section
variable {p1 : List Nat} {es1 : List (E.Opn × Nat)} {p2 : List Nat} {kn2 : List (E.Opn × Nat)} {fl : Bool} {j : Nat} {e : E.Opn × Nat}
theorem CI.none (h : CI p1 es1 p2 kn2 fl j) (he : es1[j]? = some e) (har : E.Ar p1.length e.1) (hw : OWf e.1) (hc : e.2 < p1.length) (hn : p1.length ≤ 1000000000) (hg : AL.get kn2 (E.can p2 e.1) = none) : CI p1 es1 p2 (kn2 ++ [(E.can p2 e.1, E.root p2 e.2)]) fl (j + 1) := by
  have hl := h.len
  refine ⟨?_, h.down, hl, fun k hk => ?_, fun k hk => ?_, fun k hk => ?_, by have := h.le; simp; omega⟩
  · rw [h.eq, drop_cons he, E.pass_none hg]
  · rcases List.mem_append.1 hk with hk | hk
    · exact h.inn k hk
    · simp at hk; subst hk; exact E.root_lt (by omega)
  · rcases List.mem_append.1 hk with hk | hk
    · exact h.ar k hk
    · simp at hk; subst hk; rw [← hl]; exact E.ar_can (by rw [hl]; exact har)
  · rcases List.mem_append.1 hk with hk | hk
    · exact h.owf k hk
    · simp at hk; subst hk; exact owf_can hw (by rw [hl]; exact har) (by omega)
theorem CI.same (h : CI p1 es1 p2 kn2 fl j) (he : es1[j]? = some e) {c : Nat} (hg : AL.get kn2 (E.can p2 e.1) = some c) (hr : E.root p2 c = E.root p2 e.2) : CI p1 es1 p2 kn2 fl (j + 1) := by
  refine ⟨?_, h.down, h.len, h.inn, h.ar, h.owf, by have := h.le; omega⟩
  rw [h.eq, drop_cons he, E.pass_some hg, if_pos hr]
theorem CI.join (h : CI p1 es1 p2 kn2 fl j) (he : es1[j]? = some e) (hc : e.2 < p1.length) {c : Nat} (hg : AL.get kn2 (E.can p2 e.1) = some c) (hr : E.root p2 c ≠ E.root p2 e.2) : CI p1 es1 (E.join p2 c (E.root p2 e.2)) kn2 true (j + 1) := by
  have hl := h.len
  rw [E.join_root h.down]
  have hcl := h.inn _ (E.get_in hg)
  obtain ⟨j1, j2, _⟩ := E.join_spec h.down (a := c) (b := e.2) hcl (by omega)
  refine ⟨?_, j1, j2.trans hl, fun k hk => by rw [j2]; exact h.inn k hk, h.ar, h.owf, by have := h.le; omega⟩
  rw [h.eq, drop_cons he, E.pass_some hg, if_neg hr]
  simp
theorem CI.end_ (h : CI p1 es1 p2 kn2 fl j) (hj : es1.length ≤ j) : E.pass p1 [] es1 = (p2, kn2, fl) := by
  rw [h.eq, List.drop_eq_nil_of_le hj]
  simp [E.pass]
end

theorem run_makeMap_any {P : Program} {t k e : TypeId} (ht : P.underlying t = some (.map k e)) (w : World) : (Instr.makeMap t none).run P w = .ok (.map (some w.heap.size)) (w.alloc (.map #[] 0)) := by
  simp [Instr.makeMap]
/-- between two rounds -/
structure CO (p : List Nat) (es : List (E.Opn × Nat)) (p1 : List Nat) (es1 : List (E.Opn × Nat)) : Prop where
  mid : E.Mid p es p1 es1
  ar : ∀ k ∈ es1, E.Ar p1.length k.1
  owf : ∀ k ∈ es1, OWf k.1
  le : es1.length ≤ es.length

theorem ent7_cells {w : World} {g : Nat} {T : TypeId} {a0 a1 a2 a3 a4 a5 a6 : Value} (h : w.heap[g]? = some (.cells #[a0, a1, a2, a3, a4, a5, a6] T (0, 0))) :
    w.cell? ⟨g, 0, none⟩ = some a0 ∧ w.cell? ⟨g, 1, none⟩ = some a1 ∧ w.cell? ⟨g, 2, none⟩ = some a2 ∧ w.cell? ⟨g, 3, none⟩ = some a3 ∧ w.cell? ⟨g, 4, none⟩ = some a4 ∧ w.cell? ⟨g, 5, none⟩ = some a5 ∧ w.cell? ⟨g, 6, none⟩ = some a6 := by
  refine ⟨?_, ?_, ?_, ?_, ?_, ?_, ?_⟩
  all_goals rw [cell_of_row _ _ _ _ _ (0, 0) h]; rfl
theorem set7_row {w : World} {g : Nat} {T : TypeId} {a0 a1 a2 a3 a4 a5 a6 : Value} (h : w.heap[g]? = some (.cells #[a0, a1, a2, a3, a4, a5, a6] T (0, 0))) (u0 u1 u2 u3 u4 u5 u6 : Value) :
    (((((((w.setCell ⟨g, 0, none⟩ u0).setCell ⟨g, 1, none⟩ u1).setCell ⟨g, 2, none⟩ u2).setCell ⟨g, 3, none⟩ u3).setCell ⟨g, 4, none⟩ u4).setCell ⟨g, 5, none⟩ u5).setCell ⟨g, 6, none⟩ u6).heap[g]? = some (.cells #[u0, u1, u2, u3, u4, u5, u6] T (0, 0)) := by
  have h0 : (w.setCell ⟨g, 0, none⟩ u0).heap[g]? = some (.cells #[u0, a1, a2, a3, a4, a5, a6] T (0, 0)) := heap_setCell_same _ g 0 _ _ u0 h
  have h1 : ((w.setCell ⟨g, 0, none⟩ u0).setCell ⟨g, 1, none⟩ u1).heap[g]? = some (.cells #[u0, u1, a2, a3, a4, a5, a6] T (0, 0)) := heap_setCell_same _ g 1 _ _ u1 h0
  have h2 : (((w.setCell ⟨g, 0, none⟩ u0).setCell ⟨g, 1, none⟩ u1).setCell ⟨g, 2, none⟩ u2).heap[g]? = some (.cells #[u0, u1, u2, a3, a4, a5, a6] T (0, 0)) := heap_setCell_same _ g 2 _ _ u2 h1
  have h3 : ((((w.setCell ⟨g, 0, none⟩ u0).setCell ⟨g, 1, none⟩ u1).setCell ⟨g, 2, none⟩ u2).setCell ⟨g, 3, none⟩ u3).heap[g]? = some (.cells #[u0, u1, u2, u3, a4, a5, a6] T (0, 0)) := heap_setCell_same _ g 3 _ _ u3 h2
  have h4 : (((((w.setCell ⟨g, 0, none⟩ u0).setCell ⟨g, 1, none⟩ u1).setCell ⟨g, 2, none⟩ u2).setCell ⟨g, 3, none⟩ u3).setCell ⟨g, 4, none⟩ u4).heap[g]? = some (.cells #[u0, u1, u2, u3, u4, a5, a6] T (0, 0)) := heap_setCell_same _ g 4 _ _ u4 h3
  have h5 : ((((((w.setCell ⟨g, 0, none⟩ u0).setCell ⟨g, 1, none⟩ u1).setCell ⟨g, 2, none⟩ u2).setCell ⟨g, 3, none⟩ u3).setCell ⟨g, 4, none⟩ u4).setCell ⟨g, 5, none⟩ u5).heap[g]? = some (.cells #[u0, u1, u2, u3, u4, u5, a6] T (0, 0)) := heap_setCell_same _ g 5 _ _ u5 h4
  have h6 : (((((((w.setCell ⟨g, 0, none⟩ u0).setCell ⟨g, 1, none⟩ u1).setCell ⟨g, 2, none⟩ u2).setCell ⟨g, 3, none⟩ u3).setCell ⟨g, 4, none⟩ u4).setCell ⟨g, 5, none⟩ u5).setCell ⟨g, 6, none⟩ u6).heap[g]? = some (.cells #[u0, u1, u2, u3, u4, u5, u6] T (0, 0)) := heap_setCell_same _ g 6 _ _ u6 h5
  exact h6
theorem set7_below {B : Nat} {W w : World} {g : Nat} (h : Below B W w) (hg : B ≤ g) (u0 u1 u2 u3 u4 u5 u6 : Value) :
    Below B W (((((((w.setCell ⟨g, 0, none⟩ u0).setCell ⟨g, 1, none⟩ u1).setCell ⟨g, 2, none⟩ u2).setCell ⟨g, 3, none⟩ u3).setCell ⟨g, 4, none⟩ u4).setCell ⟨g, 5, none⟩ u5).setCell ⟨g, 6, none⟩ u6) :=
  ((((((h.setCell (p := ⟨g, 0, none⟩) hg _).setCell (p := ⟨g, 1, none⟩) hg _).setCell (p := ⟨g, 2, none⟩) hg _).setCell (p := ⟨g, 3, none⟩) hg _).setCell (p := ⟨g, 4, none⟩) hg _).setCell (p := ⟨g, 5, none⟩) hg _).setCell (p := ⟨g, 6, none⟩) hg _

/-- the cells of one entry -/
theorem ent_at {w : World} {v : Value} {es : List (E.Opn × Nat)} (h : OwnAt w 87 7 v es.length (entCs es)) {j : Nat} {e : E.Opn × Nat} (he : es[j]? = some e) :
    ∃ g off c, v = .slice (some ⟨g, off, none⟩) es.length c ∧ g < w.heap.size ∧ w.cell? ⟨g, off + j * 7, none⟩ = some (.int .i64 e.1.op) ∧ w.cell? ⟨g, off + j * 7 + 1, none⟩ = some (.int .i64 e.1.w) ∧ w.cell? ⟨g, off + j * 7 + 2, none⟩ = some (.int .u32 e.1.imm) ∧ w.cell? ⟨g, off + j * 7 + 3, none⟩ = some (.int .i64 e.1.a0) ∧ w.cell? ⟨g, off + j * 7 + 4, none⟩ = some (.int .i64 e.1.a1) ∧ w.cell? ⟨g, off + j * 7 + 5, none⟩ = some (.int .i64 e.1.a2) ∧ w.cell? ⟨g, off + j * 7 + 6, none⟩ = some (.int .i64 (e.2 : Int)) := by
  have hj := (List.getElem?_eq_some_iff.1 he).1
  rcases h.2 with ⟨_, e0⟩ | ⟨g, off, cap, cur, e1, hc, _, _, _, i4⟩
  · omega
  · refine ⟨g, off, cap, e1, (Array.getElem?_eq_some_iff.1 hc).1, ?_, ?_, ?_, ?_, ?_, ?_, ?_⟩
    · rw [cell_of_row _ _ _ _ _ (0, 0) hc]; exact i4 (j * 7 + 0) _ (entCs_at he 0 (by omega))
    · rw [cell_of_row _ _ _ _ _ (0, 0) hc]; exact i4 (j * 7 + 1) _ (entCs_at he 1 (by omega))
    · rw [cell_of_row _ _ _ _ _ (0, 0) hc]; exact i4 (j * 7 + 2) _ (entCs_at he 2 (by omega))
    · rw [cell_of_row _ _ _ _ _ (0, 0) hc]; exact i4 (j * 7 + 3) _ (entCs_at he 3 (by omega))
    · rw [cell_of_row _ _ _ _ _ (0, 0) hc]; exact i4 (j * 7 + 4) _ (entCs_at he 4 (by omega))
    · rw [cell_of_row _ _ _ _ _ (0, 0) hc]; exact i4 (j * 7 + 5) _ (entCs_at he 5 (by omega))
    · rw [cell_of_row _ _ _ _ _ (0, 0) hc]; exact i4 (j * 7 + 6) _ (entCs_at he 6 (by omega))

section
variable {w w' : World} {b : Nat} {p : List Nat} {wd : List Int} {es kn : List (E.Opn × Nat)} {nm : List Nat} {vr : E.Vr} {v1 v2 v3 v4 : Value} {kb : Nat}
/-- a new map of what is known -/
theorem GrC.newMap (h : GrC w b p wd es kn nm vr v1 v2 v3 v4 kb) : GrC ((w.alloc (.map #[] 0)).setCell ⟨b, 3, none⟩ (.map (some w.heap.size))) b p wd es [] nm vr v1 v2 v3 v4 w.heap.size := by
  have hlt := h.lt
  have ho : ∀ i, i < w.heap.size → i ≠ b → ((w.alloc (.map #[] 0)).setCell ⟨b, 3, none⟩ (.map (some w.heap.size))).heap[i]? = w.heap[i]? := fun i hi hb => by
    rw [Below.heap_setCell _ _ _ i hb, Below.heap_alloc _ _ i hi]
  refine ⟨heap_setCell_same _ b 3 _ _ _ (row_alloc h.row _), h.o1.same fun i hi => ho i (h.o1.lt i hi) (fun e => h.ne1 (e ▸ hi)), h.o2.same fun i hi => ho i (h.o2.lt i hi) (fun e => h.ne2 (e ▸ hi)), h.o3.same fun i hi => ho i (h.o3.lt i hi) (fun e => h.ne3 (e ▸ hi)), ?_, h.o4.same fun i hi => ho i (h.o4.lt i hi) (fun e => h.ne4 (e ▸ hi)), h.d12, h.d14, h.d24⟩
  refine (MapAt.made (R := NatE) w).keep ?_ (fun _ _ _ h => h)
  exact heap_setCell_other _ _ _ _ (by have := hlt b (.inl rfl); simp; omega)
/-- other entries -/
theorem GrC.set3 (h : GrC w b p wd es kn nm vr v1 v2 v3 v4 kb) {v : Value} {es' : List (E.Opn × Nat)} (ho : OwnAt w 87 7 v es'.length (entCs es')) : GrC (w.setCell ⟨b, 2, none⟩ v) b p wd es' kn nm vr v1 v2 v v4 kb := by
  have hk : ∀ i, i ≠ b → (w.setCell ⟨b, 2, none⟩ v).heap[i]? = w.heap[i]? := fun i hi => Below.heap_setCell _ _ _ i hi
  exact ⟨heap_setCell_same _ b 2 _ _ v h.row, h.o1.same fun i hi => hk i (fun e => h.ne1 (e ▸ hi)), h.o2.same fun i hi => hk i (fun e => h.ne2 (e ▸ hi)), ho.same fun i hi => hk i (fun e => ho.ne_row h.row (by decide) (e ▸ hi)), h.km.keep (hk kb h.kne) (fun _ _ _ h => h), h.o4.same fun i hi => hk i (fun e => h.ne4 (e ▸ hi)), h.d12, h.d14, h.d24⟩
end

/-- what lies in memory within close: the graph, and the entries that are kept -/
structure CM (W : World) (M : Nat → Prop) (b : Nat) (p : List Nat) (wd : List Int) (es kn : List (E.Opn × Nat)) (nm : List Nat) (vr : E.Vr) (v1 v2 v3 v4 : Value) (kb : Nat) (w : World) : Prop where
  gr : GrC w b p wd es kn nm vr v1 v2 v3 v4 kb
  kp : Kpm M W w
  n3 : ∀ i, v3.ownBlock = some i → M i ∨ W.heap.size ≤ i
  nk : M kb ∨ W.heap.size ≤ kb
structure CKp (W : World) (v3 : Value) (kn : List (E.Opn × Nat)) (vk : Value) (w : World) : Prop where
  own : OwnAt w 87 7 vk kn.length (entCs kn)
  new : ∀ i, vk.ownBlock = some i → W.heap.size ≤ i ∧ v3.ownBlock ≠ some i
section
variable {W w w' : World} {M : Nat → Prop} {b : Nat} {p : List Nat} {wd : List Int} {es kn : List (E.Opn × Nat)} {nm : List Nat} {vr : E.Vr} {v1 v2 v3 v4 vk : Value} {kb : Nat}
theorem CM.below (h : CM W M b p wd es kn nm vr v1 v2 v3 v4 kb w) (hb : Below w.heap.size w w') : CM W M b p wd es kn nm vr v1 v2 v3 v4 kb w' :=
  ⟨h.gr.below hb, h.kp.trans (Kpm.of_below hb (fun _ => False)) (fun _ _ h => h.elim), h.n3, h.nk⟩
theorem CKp.below (h : CKp W v3 kn vk w) (hb : Below w.heap.size w w') : CKp W v3 kn vk w' := ⟨h.own.same fun i hi => hb.block i (h.own.lt i hi), h.new⟩
/-- the entries that are kept lie apart from the graph -/
theorem CM.apart (h : CM W M b p wd es kn nm vr v1 v2 v3 v4 kb w) {kk : List (E.Opn × Nat)} (hk : CKp W v3 kk vk w) : ∀ i, MG b v1 v2 v3 v4 kb i → vk.ownBlock ≠ some i := by
  rintro i (rfl | rfl | e | e | e | e)
  · exact hk.own.ne_row h.gr.row (by decide)
  · obtain ⟨_, _, h1, _⟩ := h.gr.km
    exact hk.own.ne_map h1
  · obtain ⟨_, hc⟩ := h.gr.o1.row_ex e
    exact hk.own.ne_row hc (by decide)
  · obtain ⟨_, hc⟩ := h.gr.o2.row_ex e
    exact hk.own.ne_row hc (by decide)
  · exact fun e' => (hk.new i e').2 e
  · obtain ⟨_, hc⟩ := h.gr.o4.row_ex e
    exact hk.own.ne_row hc (by decide)
/-- an operation comes to be known -/
theorem CM.know (h : CM W M b p wd es kn nm vr v1 v2 v3 v4 kb w) {kn' : List (E.Opn × Nat)} (hg : w.grownBy w' (some kb)) (hm : MapAt Tryz.prog 85 opV NatE w' kb kn') : CM W M b p wd es kn' nm vr v1 v2 v3 v4 kb w' :=
  ⟨h.gr.know hg hm, h.kp.trans (Kpm.grown (M := fun i => i = kb) hg (fun i e => by cases e; rfl)) (fun i hi e => by
    rcases h.nk with hk | hk
    · exact e ▸ hk
    · omega), h.n3, h.nk⟩
theorem CM.knowK (h : CM W M b p wd es kn nm vr v1 v2 v3 v4 kb w) {kk : List (E.Opn × Nat)} (hk : CKp W v3 kk vk w) (hg : w.grownBy w' (some kb)) : CKp W v3 kk vk w' :=
  ⟨hk.own.same fun i hi => hg.block i (hk.own.lt i hi) (fun e => h.apart hk i (.inr (.inl (by injection e))) hi), hk.new⟩
/-- an entry comes to be kept -/
theorem CM.keep (h : CM W M b p wd es kn nm vr v1 v2 v3 v4 kb w) {kk : List (E.Opn × Nat)} (hk : CKp W v3 kk vk w) {o : Obj} (hg : (w.alloc o).grownBy w' vk.ownBlock) : CM W M b p wd es kn nm vr v1 v2 v3 v4 kb w' :=
  ⟨(h.gr.below ((Below.refl _ _).alloc (Nat.le_refl _) o)).frame fun i hi => hg.block i ((h.gr.below ((Below.refl _ _).alloc (Nat.le_refl _) o)).lt i hi) (fun e => h.apart hk i hi e.symm), (h.kp.alloc o).trans (Kpm.grown (M := fun i => vk.ownBlock = some i) hg (fun i e => e)) (fun i hi e => by have := (hk.new i e).1; omega), h.n3, h.nk⟩
theorem CKp.keep {kk : List (E.Opn × Nat)} (hk : CKp W v3 kk vk w) {o : Obj} {v' : Value} {x : E.Opn × Nat} (hWw : W.heap.size ≤ w.heap.size) (hl : ∀ i, v3.ownBlock = some i → i < w.heap.size) (hown : OwnAt w' 87 7 v' (kk.length + 1) (entCs kk ++ entC x)) (hat : v'.ownBlock = vk.ownBlock ∨ v'.ownBlock = some (w.alloc o).heap.size) : CKp W v3 (kk ++ [x]) v' w' := by
  refine ⟨?_, fun i hi => ?_⟩
  · rw [List.length_append, List.length_singleton, entCs_app, show entCs [x] = entC x by simp [entCs]]
    exact hown
  · rcases hat with e | e
    · exact hk.new i (e ▸ hi)
    · rw [e] at hi
      injection hi with hi
      have h1 : (w.alloc o).heap.size = w.heap.size + 1 := by simp
      refine ⟨by omega, fun e' => ?_⟩
      have := hl i e'
      omega
/-- two classes are made one -/
theorem CM.unite (h : CM W M b p wd es kn nm vr v1 v2 v3 v4 kb w) (hM : ∀ i, v1.ownBlock = some i → M i) (hb : M b) (h2 : ∀ i, v2.ownBlock = some i → M i) (h4 : ∀ i, v4.ownBlock = some i → M i) {p' : List Nat} (hg : GrC w' b p' wd es kn nm vr v1 v2 v3 v4 kb) (hk : Kpm (MG b v1 v2 v3 v4 kb) w w') : CM W M b p' wd es kn nm vr v1 v2 v3 v4 kb w' :=
  ⟨hg, h.kp.trans hk (fun i hi e => by
    rcases e with rfl | rfl | e | e | e | e
    · exact hb
    · rcases h.nk with h | h
      · exact h
      · omega
    · exact hM i e
    · exact h2 i e
    · rcases h.n3 i e with h | h
      · exact h
      · omega
    · exact h4 i e), h.n3, h.nk⟩
end
end Go.Proofs.YtcmlmjbpdaecbaaGreat
end
