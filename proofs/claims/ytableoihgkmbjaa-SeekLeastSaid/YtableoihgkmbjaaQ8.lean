/- The walk through all rows of a length: a step more, a step back. -/
import Derived.Test.YtableoihgkmbjaaQ7
import Derived.OneCell
namespace Go.Proofs.Ytableoihgkmbjaa
open Go.RowKit
set_option linter.unusedVariables false

theorem ty_ne {A : World} {g g' : Nat} {cs cs' : Array Value} {T T' : TypeId} {z z' : Nat × Nat} (h : A.heap[g]? = some (.cells cs T z)) (h' : A.heap[g']? = some (.cells cs' T' z')) (hne : T ≠ T') : g ≠ g' := by
  rintro rfl
  rw [h] at h'
  injection h' with h'
  injection h' with _ h2 _
  exact hne h2

theorem FInv.typed {k w n : Nat} {b : Bk} {l : Nat} {A : World} (h : FInv k w n b l A) : ∀ g, (g = b.Y ∨ g = b.G ∨ g = b.V ∨ g = b.S ∨ g = b.L) → ∃ cs T z, A.heap[g]? = some (.cells cs T z) ∧ T ≠ 42 ∧ T ≠ 26 ∧ T ≠ 24 ∧ T ≠ 50 := by
  rintro g (rfl | rfl | rfl | rfl | rfl)
  · exact ⟨_, _, _, h.yd, by decide, by decide, by decide, by decide⟩
  · exact ⟨_, _, _, h.fn, by decide, by decide, by decide, by decide⟩
  · exact ⟨_, _, _, h.wk, by decide, by decide, by decide, by decide⟩
  · exact ⟨_, _, _, h.sp, by decide, by decide, by decide, by decide⟩
  · exact ⟨_, _, _, h.le, by decide, by decide, by decide, by decide⟩

/-- what stays where two one-cell blocks of two types are stored into -/
theorem two_set {A : World} {R C : Nat} {x0 y0 x y : Value} {T U : TypeId} (hR : A.heap[R]? = some (.cells #[x0] T (0, 0))) (hC : A.heap[C]? = some (.cells #[y0] U (0, 0))) (hne : T ≠ U) :
    ((A.setCell ⟨R, 0, none⟩ x).setCell ⟨C, 0, none⟩ y).heap[R]? = some (.cells #[x] T (0, 0)) ∧ ((A.setCell ⟨R, 0, none⟩ x).setCell ⟨C, 0, none⟩ y).heap[C]? = some (.cells #[y] U (0, 0)) ∧
    ∀ g, g ≠ R → g ≠ C → ((A.setCell ⟨R, 0, none⟩ x).setCell ⟨C, 0, none⟩ y).heap[g]? = A.heap[g]? := by
  have h0 := ty_ne hR hC hne
  have h1 := one_setCell (u := x) hR
  refine ⟨?_, ?_, fun g hg hg' => ?_⟩
  · rw [heap_setCell_other _ _ _ _ (by exact h0)]; exact h1
  · refine one_setCell (v := y0) ?_
    rw [heap_setCell_other _ _ _ _ (by exact h0.symm)]; exact hC
  · rw [heap_setCell_other _ _ _ _ (by exact hg'), heap_setCell_other _ _ _ _ (by exact hg)]

section
variable {k w n : Nat} {b : Bk} {l B0 : Nat} {r : List K.Stp} {A : World}

/-- both variables written: what lies in them now -/
theorem SInv.put {x0 y0 : Value} {Ar Ac : Option Addr} {cr cc : Nat} {us : List Value} (hF : FInv k w n b l A)
    (hR : A.heap[b.R]? = some (.cells #[x0] 26 (0, 0))) (hC : A.heap[b.C]? = some (.cells #[y0] 50 (0, 0)))
    (hrow : OwnAt A 42 3 (.slice Ar r.length cr) r.length (flatS r)) (hrb : ∀ g, (Value.slice Ar r.length cr).ownBlock = some g → B0 ≤ g)
    (hcol : OwnAt A 24 1 (.slice Ac (k + 2 + r.length) cc) (k + 2 + r.length) us) (hel : Elems (ColC B0) A us (K.cols k w r)) (hcb : ∀ g, (Value.slice Ac (k + 2 + r.length) cc).ownBlock = some g → B0 ≤ g) :
    SInv k w n b l B0 r ((A.setCell ⟨b.R, 0, none⟩ (.slice Ar r.length cr)).setCell ⟨b.C, 0, none⟩ (.slice Ac (k + 2 + r.length) cc)) := by
  obtain ⟨e1, e2, e3⟩ := two_set (x := .slice Ar r.length cr) (y := .slice Ac (k + 2 + r.length) cc) hR hC (by decide)
  have stay : ∀ (g : Nat) (cs : Array Value) (T : TypeId) (z : Nat × Nat), A.heap[g]? = some (.cells cs T z) → T ≠ 26 → T ≠ 50 → ((A.setCell ⟨b.R, 0, none⟩ (.slice Ar r.length cr)).setCell ⟨b.C, 0, none⟩ (.slice Ac (k + 2 + r.length) cc)).heap[g]? = A.heap[g]? := fun g cs T z hg h1 h2 => e3 g (ty_ne hg hR h1) (ty_ne hg hC h2)
  refine ⟨hF.keep fun g o hg hor => ?_, ⟨Ar, cr, e1, hrow.same fun g hg => ?_, hrb⟩, ⟨Ac, cc, us, e2, hcol.same fun g hg => ?_, hel.map_ fun u x hu => ?_, hcb⟩⟩
  · obtain ⟨cs, T, z, h1, _, h3, _, h5⟩ := hF.typed g hor
    rw [stay g cs T z h1 h3 h5]; exact hg
  · obtain ⟨cur, hc⟩ := hrow.typed g hg
    exact stay g _ _ _ hc (by decide) (by decide)
  · obtain ⟨cur, hc⟩ := hcol.typed g hg
    exact stay g _ _ _ hc (by decide) (by decide)
  · obtain ⟨q, h1, h2, h3⟩ := hu
    exact ⟨q, h1, h2, (stay q _ _ _ h3 (by decide) (by decide)).trans h3⟩
theorem frm_two {B : Nat} {x0 y0 x y : Value} {R C : Nat} (hR : A.heap[R]? = some (.cells #[x0] 26 (0, 0))) (hC : A.heap[C]? = some (.cells #[y0] 50 (0, 0))) :
    Frm B A ((A.setCell ⟨R, 0, none⟩ x).setCell ⟨C, 0, none⟩ y) := by
  obtain ⟨e1, e2, e3⟩ := two_set (x := x) (y := y) hR hC (by decide)
  refine ⟨by simp, fun g cs T z hg hc a1 a2 a3 a4 => ?_⟩
  rw [e3 g (ty_ne hc hR a2) (ty_ne hc hC a4)]; exact hc

theorem OwnAt.front {e : TypeId} {s : Nat} {Ad : Option Addr} {n m c : Nat} {xs : List Value} (h : OwnAt A e s (.slice Ad n c) n xs) (hm : m ≤ n) : OwnAt A e s (.slice Ad m c) m (xs.take (m * s)) := by
  have hms : m * s ≤ n * s := Nat.mul_le_mul_right _ hm
  refine ⟨by rw [List.length_take, h.1]; omega, ?_⟩
  rcases h.2 with ⟨h1, h2⟩ | ⟨g, off, cap, cur, h1, hg, h2, h3, h4, h5⟩
  · subst h2
    obtain rfl : m = 0 := by omega
    exact .inl ⟨h1, rfl⟩
  · injection h1 with e1 e2 e3
    subst e1 e3
    refine .inr ⟨g, off, c, cur, rfl, hg, by omega, h3, h4, fun j u hu => ?_⟩
    rw [List.getElem?_take] at hu
    split at hu
    · exact h5 j u hu
    · cases hu

theorem Elems.front {α : Type} {R : World → Value → α → Prop} {us : List Value} {xs ys : List α} (h : Elems R A us (xs ++ ys)) : Elems R A (us.take xs.length) xs := by
  have hl := h.1
  rw [List.length_append] at hl
  refine ⟨by rw [List.length_take]; omega, fun i x u hx hu => ?_⟩
  rw [List.getElem?_take] at hu
  split at hu
  · exact h.2 i x u (by rw [List.getElem?_append_left (by assumption)]; exact hx) hu
  · cases hu

/-- a step taken back: the slices that are stored -/
theorem SInv.shorter (hk : k = 1 ∨ k = 2) {s : K.Stp} (hs : K.okStep k r.length s) (h : SInv k w n b l B0 (r ++ [s]) A) :
    ∃ Ar cr Ac cc us, A.heap[b.R]? = some (.cells #[.slice Ar (r.length + 1) cr] 26 (0, 0)) ∧ r.length + 1 ≤ cr ∧ A.heap[b.C]? = some (.cells #[.slice Ac (k + 2 + r.length + 1) cc] 50 (0, 0)) ∧ k + 2 + r.length + 1 ≤ cc ∧
      cr ≤ maxLen ∧ cc ≤ maxLen ∧
      OwnAt A 42 3 (.slice Ar r.length cr) r.length (flatS r) ∧ (∀ g, (Value.slice Ar r.length cr).ownBlock = some g → B0 ≤ g) ∧
      OwnAt A 24 1 (.slice Ac (k + 2 + r.length) cc) (k + 2 + r.length) us ∧ Elems (ColC B0) A us (K.cols k w r) ∧ ∀ g, (Value.slice Ac (k + 2 + r.length) cc).ownBlock = some g → B0 ≤ g := by
  obtain ⟨_, ⟨Ar, cr, h1, h2, h3⟩, ⟨Ac, cc, us, c1, c2, c3, c4⟩⟩ := h
  have hl : (r ++ [s]).length = r.length + 1 := by simp
  rw [hl] at h1 h2 h3 c1 c2 c4
  rw [← Nat.add_assoc] at c1 c2 c4
  rw [K.cols_snoc hk r hs] at c3
  have hcl : (K.cols k w r).length = k + 2 + r.length := K.cols_len k w r
  have f3 := c3.front
  rw [hcl] at f3
  have f2 := c2.front (m := k + 2 + r.length) (by omega)
  rw [Nat.mul_one] at f2
  have g2 := h2.front (m := r.length) (by omega)
  have e : (flatS (r ++ [s])).take (r.length * 3) = flatS r := by
    rw [flatS_snoc, List.take_append_of_le_length (by rw [flatS_len]; omega), List.take_of_length_le (by rw [flatS_len]; omega)]
  rw [e] at g2
  have b1 : r.length + 1 ≤ cr ∧ cr ≤ maxLen := by
    rcases h2.2 with ⟨q1, q2⟩ | ⟨g, off, cap, cur, q1, _, q2, q3, _⟩
    · omega
    · injection q1 with _ _ e3; subst e3; exact ⟨q2, q3⟩
  have b2 : k + 2 + r.length + 1 ≤ cc ∧ cc ≤ maxLen := by
    rcases c2.2 with ⟨q1, q2⟩ | ⟨g, off, cap, cur, q1, _, q2, q3, _⟩
    · omega
    · injection q1 with _ _ e3; subst e3; exact ⟨q2, q3⟩
  refine ⟨Ar, cr, Ac, cc, _, h1, b1.1, c1, b2.1, b1.2, b2.2, g2, fun g hg => h3 g ?_, f2, f3, fun g hg => c4 g ?_⟩
  · cases Ar <;> simp [Value.ownBlock] at hg ⊢; exact hg
  · cases Ac <;> simp [Value.ownBlock] at hg ⊢; exact hg
end

/-- what stays while the row and the columns grow: each block but the two that they own -/
structure Kp (rw_ cl : Option Nat) (X Y : World) : Prop where
  size : X.heap.size ≤ Y.heap.size
  keep : ∀ g o, X.heap[g]? = some o → rw_ ≠ some g → cl ≠ some g → Y.heap[g]? = some o
section
variable {q1 q2 : Option Nat} {X Y Z : World}
theorem Kp.refl (q1 q2 : Option Nat) (X : World) : Kp q1 q2 X X := ⟨Nat.le_refl _, fun _ _ h _ _ => h⟩
theorem Kp.trans (h : Kp q1 q2 X Y) (k : Kp q1 q2 Y Z) : Kp q1 q2 X Z := ⟨Nat.le_trans h.size k.size, fun g o hg a b => k.keep g o (h.keep g o hg a b) a b⟩
theorem Kp.below (h : Below X.heap.size X Y) : Kp q1 q2 X Y := ⟨h.size, fun g o hg _ _ => (h.block g (Array.getElem?_eq_some_iff.1 hg).1).trans hg⟩
theorem Kp.alloc (X : World) (o : Obj) : Kp q1 q2 X (X.alloc o) := Kp.below ((Below.refl _ _).alloc (Nat.le_refl _) _)
theorem Kp.drew (X : World) : Kp q1 q2 X X.drew := Kp.below (Below.refl _ _).drew
theorem Kp.grown1 (h : X.grownBy Y q1) : Kp q1 q2 X Y := ⟨h.size, fun g o hg a _ => (h.block g (Array.getElem?_eq_some_iff.1 hg).1 (fun e => a e.symm)).trans hg⟩
theorem Kp.grown2 (h : X.grownBy Y q2) : Kp q1 q2 X Y := ⟨h.size, fun g o hg _ a => (h.block g (Array.getElem?_eq_some_iff.1 hg).1 (fun e => a e.symm)).trans hg⟩
/-- the two blocks have types of their own -/
def Two (q1 q2 : Option Nat) (X : World) : Prop := (∀ g, q1 = some g → ∃ cur, X.heap[g]? = some (.cells cur 42 (0, 0))) ∧ ∀ g, q2 = some g → ∃ cur, X.heap[g]? = some (.cells cur 24 (0, 0))
theorem Kp.ty (h : Kp q1 q2 X Y) (h2 : Two q1 q2 X) {g : Nat} {cs : Array Value} {T : TypeId} {z : Nat × Nat} (hg : X.heap[g]? = some (.cells cs T z)) (a : T ≠ 42) (b : T ≠ 24) : Y.heap[g]? = some (.cells cs T z) := by
  refine h.keep g _ hg (fun e => ?_) (fun e => ?_)
  · obtain ⟨cur, hc⟩ := h2.1 g e
    exact ty_ne hg hc a rfl
  · obtain ⟨cur, hc⟩ := h2.2 g e
    exact ty_ne hg hc b rfl
theorem Kp.frm {B : Nat} (h : Kp q1 q2 X Y) (h2 : Two q1 q2 X) : Frm B X Y := ⟨h.size, fun g cs T z _ hc a1 _ a3 _ => h.ty h2 hc a1 a3⟩
theorem Kp.finv {k w n : Nat} {b : Bk} {l : Nat} (h : Kp q1 q2 X Y) (h2 : Two q1 q2 X) (hF : FInv k w n b l X) : FInv k w n b l Y := hF.keep fun g o hg hor => by
  obtain ⟨cs, T, z, h1, a1, _, a3, _⟩ := hF.typed g hor
  rw [hg] at h1
  rw [Option.some.inj h1]
  rw [Option.some.inj h1] at hg
  exact h.ty h2 hg a1 a3
theorem Kp.cols {B : Nat} {us : List Value} {cs : List (List Int)} (h : Kp q1 q2 X Y) (h2 : Two q1 q2 X) (he : Elems (ColC B) X us cs) : Elems (ColC B) Y us cs := he.map_ fun u x hu => by
  obtain ⟨q, a1, a2, a3⟩ := hu
  exact ⟨q, a1, a2, h.ty h2 a3 (by decide) (by decide)⟩
theorem Kp.one {g : Nat} {v : Value} {T : TypeId} (h : Kp q1 q2 X Y) (h2 : Two q1 q2 X) (hg : X.heap[g]? = some (.cells #[v] T (0, 0))) (a : T ≠ 42) (b : T ≠ 24) : Y.cell? ⟨g, 0, none⟩ = some v := one_cell (h.ty h2 hg a b)
end

theorem cols_each {k w : Nat} {r : List K.Stp} {x : List Int} (hx : x ∈ K.cols k w r) : x.length = K.size k w := by
  obtain ⟨j, hj, rfl⟩ := List.mem_iff_getElem.1 hx
  have hj' : j < k + 2 + r.length := by rw [K.cols_len] at hj; exact hj
  have := K.cols_at (w := w) hj'
  rw [List.getElem?_eq_getElem hj] at this
  rw [Option.some.inj this, K.col_len]
theorem cols_pos {k w : Nat} (hk : k = 1 ∨ k = 2) (hw : w = 1 ∨ w = 2 ∨ w = 3) (r : List K.Stp) (i j : Nat) : 0 ≤ ((K.cols k w r).getD i []).getD j 0 := by
  by_cases hi : i < k + 2 + r.length
  · by_cases hj : j < K.size k w
    · rw [K.cols_getD hi hj]
      exact ((K.W32.base hk (by omega) hj).vals r).at i |>.1
    · have e : (K.cols k w r).getD i [] = K.col k w r i := by rw [List.getD_eq_getElem?_getD, K.cols_at hi, Option.getD_some]
      rw [e, List.getD_eq_getElem?_getD, List.getElem?_eq_none (by rw [K.col_len]; omega)]
      exact Int.le_refl _
  · have e : (K.cols k w r).getD i [] = [] := by rw [List.getD_eq_getElem?_getD, List.getElem?_eq_none (by rw [K.cols_len]; omega)]; rfl
    rw [e]
    simp

theorem okRow_snoc {k : Nat} {r : List K.Stp} {s : K.Stp} (h : K.okRow k r) (hs : K.okStep k r.length s) : K.okRow k (r ++ [s]) := by
  intro i x hx
  by_cases hi : i < r.length
  · rw [List.getElem?_append_left hi] at hx; exact h i x hx
  · have hl : i < (r ++ [s]).length := (List.getElem?_eq_some_iff.1 hx).1
    simp at hl
    obtain rfl : i = r.length := by omega
    simp at hx
    subst hx
    exact hs
theorem done_next {k m t : Nat} {r : List K.Stp} {s : K.Stp} (h : (K.steps k r.length)[t]? = some s) :
    ((K.steps k r.length).take (t + 1)).flatMap (fun s => K.below k m (r ++ [s])) = ((K.steps k r.length).take t).flatMap (fun s => K.below k m (r ++ [s])) ++ K.below k m (r ++ [s]) := by
  rw [K.take_succ_at h, List.flatMap_append]
  simp
theorem done_pre {k m t : Nat} {r : List K.Stp} {s : K.Stp} {pre xs : List (List K.Stp)} (h : (K.steps k r.length)[t]? = some s) (hp : pre ++ K.below k (m + 1) r <+: xs) :
    pre ++ ((K.steps k r.length).take t).flatMap (fun s => K.below k m (r ++ [s])) ++ K.below k m (r ++ [s]) <+: xs := by
  refine List.IsPrefix.trans ?_ hp
  rw [List.append_assoc, ← done_next h]
  refine (List.prefix_append_right_inj pre).2 ?_
  show _ <+: (K.steps k r.length).flatMap fun s => K.below k m (r ++ [s])
  refine ⟨((K.steps k r.length).drop (t + 1)).flatMap fun s => K.below k m (r ++ [s]), ?_⟩
  rw [← List.flatMap_append, List.take_append_drop]
theorem below_two {B : Nat} {A X : World} {R C : Nat} {x y : Value} (h : Below B A X) (hR : B ≤ R) (hC : B ≤ C) : Below B A ((X.setCell ⟨R, 0, none⟩ x).setCell ⟨C, 0, none⟩ y) := (h.setCell (p := ⟨R, 0, none⟩) hR _).setCell (p := ⟨C, 0, none⟩) hC _

theorem pops_any (W : World) : Calls Try.prog 38 #[] W fun e w' => e = .returned (.slice (some ⟨W.heap.size, 0, none⟩) 7 7) ∧ w' = W.alloc (.cells #[.int .i64 1, .int .i64 2, .int .i64 8, .int .i64 9, .int .i64 10, .int .i64 11, .int .i64 12] 3) := by
  go_enter Try.func38, Try.ntmps38
  go_wp2
  go_ret
  exact ⟨rfl, rfl⟩
theorem ops_at {q : Nat} (h : q < 7) : ∃ o, K.ops[q]? = some o ∧ (#[.int .i64 1, .int .i64 2, .int .i64 8, .int .i64 9, .int .i64 10, .int .i64 11, .int .i64 12] : Array Value)[q]? = some (.int .i64 o) := by
  have : q = 0 ∨ q = 1 ∨ q = 2 ∨ q = 3 ∨ q = 4 ∨ q = 5 ∨ q = 6 := by omega
  rcases this with rfl | rfl | rfl | rfl | rfl | rfl | rfl <;> exact ⟨_, rfl, rfl⟩
end Go.Proofs.Ytableoihgkmbjaa
