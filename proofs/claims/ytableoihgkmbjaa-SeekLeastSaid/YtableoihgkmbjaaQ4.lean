/- Walks of the program's layer of rows: columns that are filled; start. -/
import Derived.Test.YtableoihgkmbjaaQ3
import Derived.Test.YtableoihgkmbjaaPlainC
import Derived.Deep.RegionHeld3
namespace Go.Proofs.Ytableoihgkmbjaa
open Go.RowKit
set_option linter.unusedVariables false

/-- a column in a block of its own, behind B0 -/
def ColC (B0 : Nat) (w : World) (u : Value) (x : List Int) : Prop :=
  ∃ b, u = .slice (some ⟨b, 0, none⟩) x.length x.length ∧ B0 ≤ b ∧ w.heap[b]? = some (.cells (x.map (Value.int .u32)).toArray 40 (0, 0))

theorem ColC.mono {B0 : Nat} {w w' : World} {u : Value} {x : List Int} (h : ColC B0 w u x) (hb : Below w.heap.size w w') : ColC B0 w' u x := by
  obtain ⟨b, h1, h2, h3⟩ := h
  exact ⟨b, h1, h2, (hb.block b (Array.getElem?_eq_some_iff.1 h3).1).trans h3⟩
theorem ColC.less {B0 B1 : Nat} {w : World} {u : Value} {x : List Int} (h : ColC B0 w u x) (hB : B1 ≤ B0) : ColC B1 w u x := by
  obtain ⟨b, h1, h2, h3⟩ := h
  exact ⟨b, h1, by omega, h3⟩

theorem ColC.grown {B0 : Nat} {w w' : World} {u : Value} {x : List Int} {own : Option Nat} (h : ColC B0 w u x) (hg : w.grownBy w' own) {T : TypeId} (hT : ∀ q, own = some q → ∃ cur, w.heap[q]? = some (.cells cur T (0, 0))) (hne : T ≠ 40) : ColC B0 w' u x := by
  obtain ⟨b, h1, h2, h3⟩ := h
  refine ⟨b, h1, h2, (hg.block b (Array.getElem?_eq_some_iff.1 h3).1 fun e => ?_).trans h3⟩
  obtain ⟨cur, hc⟩ := hT b e.symm
  rw [h3] at hc
  injection hc with hc
  injection hc with _ hc
  exact hne hc.symm
theorem OwnAt.typed {w : World} {e : TypeId} {s n : Nat} {v : Value} {xs : List Value} (h : OwnAt w e s v n xs) : ∀ q, v.ownBlock = some q → ∃ cur, w.heap[q]? = some (.cells cur e (0, 0)) := by
  intro q hq
  rcases h.2 with ⟨rfl, _⟩ | ⟨g, off, cap, cur, rfl, hg, _⟩
  · simp [Value.ownBlock] at hq
  · simp [Value.ownBlock] at hq
    subst hq
    exact ⟨cur, hg⟩

/-- W1, with what came behind it -/
def Bel (W1 X : World) : Prop := Below W1.heap.size W1 X
theorem Bel.alloc {W1 X : World} (h : Bel W1 X) (o : Obj) : Bel W1 (X.alloc o) := Below.alloc h h.size o
theorem Bel.step {W1 X Y : World} (h : Bel W1 X) (hb : Hid (Below X.heap.size X Y)) : Bel W1 Y := Below.trans h (hb.out.mono h.size)
theorem Bel.drew {W1 X : World} (h : Bel W1 X) : Bel W1 X.drew := Below.trans h ((Below.refl _ _).drew)
theorem row_alloc {X : World} {g : Nat} {o : Obj} (h : X.heap[g]? = some o) (o' : Obj) : (X.alloc o').heap[g]? = some o := (Below.heap_alloc _ _ _ (Array.getElem?_eq_some_iff.1 h).1).trans h
theorem row_step {X Y : World} {g : Nat} {o : Obj} (hb : Hid (Below X.heap.size X Y)) (h : X.heap[g]? = some o) : Y.heap[g]? = some o := (hb.out.block g (Array.getElem?_eq_some_iff.1 h).1).trans h
theorem own_step {X Y : World} {e : TypeId} {s n : Nat} {v : Value} {xs : List Value} (hb : Hid (Below X.heap.size X Y)) (h : OwnAt X e s v n xs) : OwnAt Y e s v n xs := h.below hb.out h.lt
theorem row_drew {X : World} {g : Nat} {o : Obj} (h : X.heap[g]? = some o) : X.drew.heap[g]? = some o := h
theorem own_drew {X : World} {e : TypeId} {s n : Nat} {v : Value} {xs : List Value} (h : OwnAt X e s v n xs) : OwnAt X.drew e s v n xs := h
theorem new_two (X : World) (o o' : Obj) : ((X.alloc o).alloc o').heap[X.heap.size + 1]? = some o' := by
  have := heap_alloc_new (X.alloc o) o'
  rwa [World.size_alloc] at this
theorem bel_app {W1 X Y : World} {own : Option Nat} (h : Bel W1 X) (hg : X.grownBy Y own) (ho : ∀ g, own = some g → W1.heap.size ≤ g) : Bel W1 Y := Below.grown h hg h.size ho
theorem new_drew (X : World) (o : Obj) : (X.drew.alloc o).heap[X.heap.size]? = some o := heap_alloc_new X.drew o

/-- a row that is being filled -/
def fillC (xs : List Int) (c : Nat) : List Value := xs.map (Value.int .u32) ++ List.replicate (c - xs.length) (.int .u32 0)
theorem fillC_nil (c : Nat) : (fillC [] c).toArray = Array.replicate c (.int .u32 0) := by
  unfold fillC
  simp
theorem fillC_full {xs : List Int} {c : Nat} (h : xs.length = c) : fillC xs c = xs.map (Value.int .u32) := by
  unfold fillC
  rw [h, Nat.sub_self]
  simp
theorem fill_step {w : World} {p : Nat} {xs : List Int} {c : Nat} {x : Int} {T : TypeId} (h : w.heap[p]? = some (.cells (fillC xs c).toArray T (0, 0))) {a : Nat} (ha : xs.length = a) (hc : a < c) :
    (w.setCell ⟨p, a, none⟩ (.int .u32 x)).heap[p]? = some (.cells (fillC (xs ++ [x]) c).toArray T (0, 0)) := by
  rw [heap_setCell_same w p a _ _ _ h]
  congr 3
  subst ha
  apply Array.toList_inj.1
  simp [fillC]
  rw [show c - xs.length = (c - (xs.length + 1)) + 1 by omega, List.replicate_succ]
  simp
theorem fill_cell {w : World} {p : Nat} {xs : List Int} {c : Nat} {T : TypeId} (h : w.heap[p]? = some (.cells (fillC xs c).toArray T (0, 0))) {a : Nat} (ha : xs.length ≤ c) (hc : a < c) :
    (w.cell? ⟨p, a, none⟩).isSome = true ∧ w.frozen? ⟨p, a, none⟩ = false := by
  refine ⟨?_, by simp [World.frozen?, h]⟩
  rw [cell_of_row w p _ _ T (0, 0) h]
  have : a < (fillC xs c).length := by simp [fillC]; omega
  simp [this]

/-- the column of input number i -/
def incol (k w i : Nat) : List Int := (List.range (K.size k w)).map fun a => (K.inp k w a).getD i 0
theorem incol_len (k w i : Nat) : (incol k w i).length = K.size k w := by simp [incol]
theorem take_incol {k w i a : Nat} (h : a < K.size k w) : (incol k w i).take (a + 1) = (incol k w i).take a ++ [(K.inp k w a).getD i 0] :=
  K.take_succ_at (by simp [incol, h])
theorem take_incol_len {k w i a : Nat} (h : a ≤ K.size k w) : ((incol k w i).take a).length = a := by rw [List.length_take, incol_len]; omega
theorem range_map_succ {α : Type} (f : Nat → α) (n : Nat) : (List.range (n + 1)).map f = (List.range n).map f ++ [f n] := by rw [List.range_succ, List.map_append]; rfl

theorem one_sl2 (A B : Option Addr) (N : Nat) : ∀ u ∈ [Value.slice A N N, Value.slice B N N], u.oneCell' = true := by simp [Value.oneCell']
theorem elC_alloc {B : Nat} {X : World} {us : List Value} {xs : List (List Int)} (h : Elems (ColC B) X us xs) (o : Obj) : Elems (ColC B) (X.alloc o) us xs := h.map_ fun u x hu => ColC.mono hu ((Below.refl _ _).alloc (Nat.le_refl _) _)
theorem elC_drew {B : Nat} {X : World} {us : List Value} {xs : List (List Int)} (h : Elems (ColC B) X us xs) : Elems (ColC B) X.drew us xs := h
theorem elC_step {B : Nat} {X Y : World} {us : List Value} {xs : List (List Int)} (hb : Hid (Below X.heap.size X Y)) (h : Elems (ColC B) X us xs) : Elems (ColC B) Y us xs := h.map_ fun u x hu => ColC.mono hu hb.out
theorem bel_size {W1 Y : World} (h : Bel W1 Y) : W1.heap.size ≤ Y.heap.size := h.size
theorem bel_size1 {W1 Y : World} (h : Bel W1 Y) : W1.heap.size ≤ Y.heap.size + 1 := Nat.le_succ_of_le h.size
theorem bel_size2 {W1 Y : World} (h : Bel W1 Y) : W1.heap.size ≤ Y.heap.size + 1 + 1 := by have := h.size; omega
theorem app_ge {W1 X : World} {v v' : Value} (h : Bel W1 X) (hv : ∀ g, v.ownBlock = some g → W1.heap.size ≤ g) (hat : v'.ownBlock = v.ownBlock ∨ v'.ownBlock = some X.heap.size) : ∀ g, v'.ownBlock = some g → W1.heap.size ≤ g := by
  intro g hg
  rcases hat with e | e
  · exact hv g (e ▸ hg)
  · rw [e] at hg; cases hg; exact h.size
theorem start_end {B N b1 b2 : Nat} {X w9 : World} {us : List Value} {xs : List (List Int)} {own : Option Nat} {x1 x2 : Int} (hel : Elems (ColC B) X us xs)
    (h1 : X.heap[b1]? = some (.cells (List.replicate N (Value.int .u32 x1)).toArray 40 (0, 0))) (h2 : X.heap[b2]? = some (.cells (List.replicate N (Value.int .u32 x2)).toArray 40 (0, 0))) (l1 : B ≤ b1) (l2 : B ≤ b2)
    (hgr : X.grownBy w9 own) (hty : ∀ q, own = some q → ∃ cur, X.heap[q]? = some (.cells cur 24 (0, 0))) :
    Elems (ColC B) w9 (us ++ [.slice (some ⟨b1, 0, none⟩) N N, .slice (some ⟨b2, 0, none⟩) N N]) (xs ++ [List.replicate N x1, List.replicate N x2]) := by
  have c1 : ColC B X (.slice (some ⟨b1, 0, none⟩) N N) (List.replicate N x1) := ⟨b1, by simp, l1, by simpa using h1⟩
  have c2 : ColC B X (.slice (some ⟨b2, 0, none⟩) N N) (List.replicate N x2) := ⟨b2, by simp, l2, by simpa using h2⟩
  have := ((hel.snoc c1).snoc c2).map_ fun u x hu => ColC.grown hu hgr hty (by decide)
  simpa using this
theorem prepN_any (x : Int) {k w N : Nat} (hk : k = 1 ∨ k = 2) (hw : w = 1 ∨ w = 2 ∨ w = 3) (hN : N = K.size k w) (g : Nat) (W : World) (hg : W.heap[g]? = some (.cells #[.int .u32 x] 40 (0, 0))) :
    Calls Try.prog 50 #[.slice (some ⟨g, 0, none⟩) 1 1, .int .i64 (N : Int)] W fun e w' =>
      e = .returned (.slice (some ⟨W.heap.size, 0, none⟩) N N) ∧ w'.heap[W.heap.size]? = some (.cells (List.replicate N (.int .u32 x)).toArray 40 (0, 0)) ∧ Below W.heap.size W w' := by
  subst hN
  have hJ : k * w = 1 ∨ k * w = 2 ∨ k * w = 3 ∨ k * w = 4 ∨ k * w = 6 := by rcases kw_cases hk hw with ⟨rfl, rfl⟩ | ⟨rfl, rfl⟩ | ⟨rfl, rfl⟩ | ⟨rfl, rfl⟩ | ⟨rfl, rfl⟩ | ⟨rfl, rfl⟩ <;> simp
  exact prepeat_any x (k * w) hJ g W hg

end Go.Proofs.Ytableoihgkmbjaa
