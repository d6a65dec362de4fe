/- Graphs (the program): unite. -/
import Derived.Test.YtcmlmjbpdaecbaaH27
set_option linter.unusedVariables false
set_option linter.unusedSimpArgs false
namespace Go.Proofs.Ytcmlmjbpdaecbaa
open Go.RowKit Go.MapKept Go.Maps Go.WideMaps
set_option linter.unusedVariables false
set_option linter.unusedSimpArgs false

/-- one cell of an own slice is stored -/
theorem OwnAt.set_ {w : World} {e : TypeId} {g off n c : Nat} {xs : List Value} (h : OwnAt w e 1 (.slice (some ⟨g, off, none⟩) n c) n xs) {k : Nat} (hk : k < n) (u : Value) : OwnAt (w.setCell ⟨g, off + k, none⟩ u) e 1 (.slice (some ⟨g, off, none⟩) n c) n (xs.set k u) := by
  obtain ⟨h1, h2⟩ := h
  refine ⟨by simpa using h1, ?_⟩
  rcases h2 with ⟨h2, h3⟩ | ⟨g', off', cap, cur, e1, hc, i1, i2, i3, i4⟩
  · cases h2
  · cases e1
    refine .inr ⟨g, off, c, cur.setIfInBounds (off + k) u, rfl, heap_setCell_same w g (off + k) _ _ u hc, i1, i2, by simpa using i3, fun j v hv => ?_⟩
    rw [List.getElem?_set] at hv
    rw [Array.getElem?_setIfInBounds]
    split at hv
    · rename_i hj
      subst hj
      split at hv
      · rw [if_pos rfl, if_pos (by omega)]; exact hv
      · cases hv
    · rename_i hj
      rw [if_neg (by omega)]
      exact i4 j v hv

section
variable {w w' : World} {b : Nat} {p : List Nat} {wd : List Int} {es kn : List (E.Opn × Nat)} {nm : List Nat} {vr : E.Vr} {v1 v2 v3 v4 : Value} {kb : Nat}
/-- a parent is stored -/
theorem GrC.setP {g off c : Nat} (h : GrC w b p wd es kn nm vr (.slice (some ⟨g, off, none⟩) p.length c) v2 v3 v4 kb) {m k : Nat} (hm : m < p.length) : GrC (w.setCell ⟨g, off + m, none⟩ (.int .i64 (k : Int))) b (p.set m k) wd es kn nm vr (.slice (some ⟨g, off, none⟩) p.length c) v2 v3 v4 kb := by
  have hb1 : (Value.slice (some ⟨g, off, none⟩) p.length c).ownBlock = some g := rfl
  have ho : ∀ i, i ≠ g → (w.setCell ⟨g, off + m, none⟩ (.int .i64 (k : Int))).heap[i]? = w.heap[i]? := fun i hi => Below.heap_setCell _ _ _ i hi
  refine ⟨(ho b (fun e => h.ne1 (by rw [hb1, e]))).trans h.row, ?_, h.o2.same fun i hi => ho i (fun e => h.d12 g hb1 (e ▸ hi)), h.o3.same fun i hi => ho i (fun e => h.n13 g hb1 (e ▸ hi)), h.km.keep (ho kb (fun e => h.nk1 (by rw [hb1, e]))) (fun _ _ _ h => h), h.o4.same fun i hi => ho i (fun e => h.d14 g hb1 (e ▸ hi)), h.d12, h.d14, h.d24⟩
  have := h.o1.set_ hm (.int .i64 (k : Int))
  rw [List.length_set, show ivs (p.set m k) = (ivs p).set m (.int .i64 (k : Int)) by simp [ivs, List.map_set]]
  exact this
end

set_option maxRecDepth 100000 in
set_option maxHeartbeats 4000000 in
theorem gunite_any {W : World} {b : Nat} {p : List Nat} {wd : List Int} {es kn : List (E.Opn × Nat)} {nm : List Nat} {vr : E.Vr} {v1 v2 v3 v4 : Value} {kb : Nat} (h : GrC W b p wd es kn nm vr v1 v2 v3 v4 kb) (hd : E.Down p) (x y : Nat) (hx : x < p.length) (hy : y < p.length) :
    Calls Try.prog 22 #[.pointer (some ⟨b, 0, none⟩), .int .i64 (x : Int), .int .i64 (y : Int)] W fun e W' => e = .returned (.bool (decide (E.root p x ≠ E.root p y))) ∧ GrC W' b (E.join p x y) wd es kn nm vr v1 v2 v3 v4 kb ∧ Kpm (MG b v1 v2 v3 v4 kb) W W' ∧ W'.heap.size = W.heap.size := by
  have Hfx := Lib.hid (h.find hd x hx)
  have Hfy := Lib.hid (h.find hd y hy)
  have hrx := E.root_lt hx
  have hry := E.root_lt hy
  obtain ⟨rx, hrx'⟩ : ∃ rx, E.root p x = rx := ⟨_, rfl⟩
  obtain ⟨ry, hry'⟩ : ∃ ry, E.root p y = ry := ⟨_, rfl⟩
  rw [hrx'] at Hfx hrx
  rw [hry'] at Hfy hry
  obtain ⟨g, off, c, rfl⟩ : ∃ g off c, v1 = .slice (some ⟨g, off, none⟩) p.length c := by
    rcases h.o1.2 with ⟨_, e⟩ | ⟨g, off, cap, cur, e, _⟩
    · omega
    · exact ⟨g, off, cap, e⟩
  obtain ⟨k0, _, _, _, _⟩ := h.cells
  obtain ⟨cur, hcur⟩ := h.o1.row_ex (g := g) rfl
  have hsl := h.o1
  have Hrx := Lib.hid hrx
  have Hry := Lib.hid hry
  have Hex := Lib.hid hrx'
  have Hey := Lib.hid hry'
  have H := Lib.hid h
  have hple : p.length ≤ 9223372036854775807 := h.o1.le
  have Hu := Lib.hid (show ∀ m, m < p.length → ∃ u, W.cell? ⟨g, off + m, none⟩ = some u from fun m hml => by
    obtain ⟨A, ca, e, hs⟩ := h.slP
    cases e
    obtain ⟨z, b', off', u, _, e, _, hc, _⟩ := hs.at_ hml
    cases e
    exact ⟨u, hc⟩)
  have Hf := Lib.hid (show ∀ m, W.frozen? ⟨g, off + m, none⟩ = false from fun m => frozen_row hcur _)
  clear h hd hrx hry hrx' hry' hcur hsl
  by_cases hne : rx = ry
  · have Hne := Lib.hid hne
    have hd : ((rx : Int) == (ry : Int)) = true := by simp; omega
    clear hne
    go_enter Try.func22, Try.ntmps22
    go_wp2_with fail
    (with_reducible refine Hfx.out.mono ?_)
    rintro e w2 ⟨rfl, rfl⟩
    go_wp2_with fail
    (with_reducible refine Hfy.out.mono ?_)
    rintro e w2 ⟨rfl, rfl⟩
    go_wp2
    go_ret
    have e : E.join p x y = p := by unfold E.join; rw [if_pos (by rw [Hex.out, Hey.out]; exact Hne.out)]
    refine ⟨?_, by rw [e]; exact H.out, Kpm.refl _ _, rfl⟩
    rw [Hex.out, Hey.out, Hne.out]; simp
  rcases Nat.lt_or_gt_of_ne hne with hlt | hlt
  · clear hne
    have hd : ((rx : Int) == (ry : Int)) = false := by simp; omega
    obtain ⟨u, hu⟩ := Hu.out ry Hry.out
    have hf := Hf.out ry
    have Hlt := Lib.hid hlt
    have hlI : (rx : Int) < (ry : Int) := by omega
    have hlJ : ¬ (ry : Int) ≤ (rx : Int) := by omega
    have hlL : (rx : Int) ≤ (ry : Int) := by omega
    clear hlt
    go_enter Try.func22, Try.ntmps22
    go_wp2_with fail
    (with_reducible refine Hfx.out.mono ?_)
    rintro e w2 ⟨rfl, rfl⟩
    go_wp2_with fail
    (with_reducible refine Hfy.out.mono ?_)
    rintro e w2 ⟨rfl, rfl⟩
    go_wp2
    go_ret
    have hne : rx ≠ ry := by have := Hlt.out; omega
    have e : E.join p x y = p.set ry rx := by unfold E.join; rw [if_neg (by rw [Hex.out, Hey.out]; exact hne), Hex.out, Hey.out, show max rx ry = ry by have := Hlt.out; omega, show min rx ry = rx by have := Hlt.out; omega]
    refine ⟨?_, by rw [e]; exact H.out.setP Hry.out, (Kpm.refl _ _).setCell (p := ⟨g, off + ry, none⟩) (fun _ => .inr (.inr (.inl rfl))) _, by simp⟩
    rw [Hex.out, Hey.out]; simp [hne]
  · clear hne
    have hd : ((rx : Int) == (ry : Int)) = false := by simp; omega
    obtain ⟨u, hu⟩ := Hu.out rx Hrx.out
    have hf := Hf.out rx
    have Hlt := Lib.hid hlt
    have hlI : (ry : Int) < (rx : Int) := by omega
    have hlJ : ¬ (rx : Int) ≤ (ry : Int) := by omega
    have hlL : (ry : Int) ≤ (rx : Int) := by omega
    clear hlt
    go_enter Try.func22, Try.ntmps22
    go_wp2_with fail
    (with_reducible refine Hfx.out.mono ?_)
    rintro e w2 ⟨rfl, rfl⟩
    go_wp2_with fail
    (with_reducible refine Hfy.out.mono ?_)
    rintro e w2 ⟨rfl, rfl⟩
    go_wp2
    go_ret
    have hne : rx ≠ ry := by have := Hlt.out; omega
    have e : E.join p x y = p.set rx ry := by unfold E.join; rw [if_neg (by rw [Hex.out, Hey.out]; exact hne), Hex.out, Hey.out, show max rx ry = rx by have := Hlt.out; omega, show min rx ry = ry by have := Hlt.out; omega]
    refine ⟨?_, by rw [e]; exact H.out.setP Hrx.out, (Kpm.refl _ _).setCell (p := ⟨g, off + rx, none⟩) (fun _ => .inr (.inr (.inl rfl))) _, by simp⟩
    rw [Hex.out, Hey.out]; simp [hne]
end Go.Proofs.Ytcmlmjbpdaecbaa
