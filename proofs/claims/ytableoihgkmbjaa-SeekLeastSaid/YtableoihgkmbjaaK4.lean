/- Walks of the reference's layer of rows: rows. -/
import Derived.Test.YtableoihgkmbjaaK3
import Derived.Deep.RegionLaw
import Derived.Deep.RegionHeld3
namespace Go.Proofs.Ytableoihgkmbjaa
open Go.RowKit
set_option linter.unusedVariables false

/-- a slice of no elements and no capacity -/
theorem own_zero {w : World} {e : TypeId} {s g : Nat} {cur : Array Value} (h : w.heap[g]? = some (.cells cur e (0, 0))) : OwnAt w e s (.slice (some ⟨g, 0, none⟩) 0 0) 0 [] :=
  ⟨by simp, .inr ⟨g, 0, 0, cur, rfl, h, Nat.le_refl _, Nat.zero_le _, by simp, fun j u hu => by simp at hu⟩⟩
/-- a step, in whatever world in which its cells lie -/
theorem news_step {w : World} {p : Nat} {s : K.Stp} {T : TypeId} (h : w.heap[p]? = some (.cells #[.int .i64 s.1, .int .i64 s.2.1, .int .i64 s.2.2] T (0, 0))) :
    ∀ (j : Nat) (u : Value), (cellsS s)[j]? = some u → ∃ ad : Addr, some (⟨p, 0, none⟩ : Addr) = some ad ∧ w.cell? (ad.add j) = some u := fun j u hu => ⟨_, rfl, by
  rw [addr_add_zero, Nat.zero_add, cell_of_row _ _ _ _ T (0, 0) h]
  simpa [cellsS] using hu⟩
theorem news_one {w : World} {p : Nat} {v : Value} {T : TypeId} (h : w.heap[p]? = some (.cells #[v] T (0, 0))) :
    ∀ (j : Nat) (u : Value), ([v] : List Value)[j]? = some u → ∃ ad : Addr, some (⟨p, 0, none⟩ : Addr) = some ad ∧ w.cell? (ad.add j) = some u := fun j u hu => ⟨_, rfl, by
  rw [addr_add_zero, Nat.zero_add, cell_of_row _ _ _ _ T (0, 0) h]
  simpa using hu⟩
theorem one_step (s : K.Stp) : ∀ u ∈ cellsS s, u.oneCell' = true := by simp [cellsS, Value.oneCell']
theorem one_flat (l : List K.Stp) : ∀ u ∈ flatS l, u.oneCell' = true := by
  intro u hu
  unfold flatS at hu
  obtain ⟨s, _, hs⟩ := List.mem_flatMap.1 hu
  exact one_step s u hs
theorem src_below {w w' : World} {A : Option Addr} {us : List Value} (h : ∀ (j : Nat) (u : Value), us[j]? = some u → ∃ ad : Addr, A = some ad ∧ w.cell? (ad.add j) = some u) (hb : Below w.heap.size w w') :
    ∀ (j : Nat) (u : Value), us[j]? = some u → ∃ ad : Addr, A = some ad ∧ w'.cell? (ad.add j) = some u := fun j u hu => by
  obtain ⟨ad, h1, h2⟩ := h j u hu
  exact ⟨ad, h1, (hb.cell (World.block_lt_of_cell? _ _ h2)).trans h2⟩
theorem own_src {w : World} {e : TypeId} {s n : Nat} {A : Option Addr} {c : Nat} {us : List Value} (h : OwnAt w e s (.slice A n c) n us) :
    ∀ (j : Nat) (u : Value), us[j]? = some u → ∃ ad : Addr, A = some ad ∧ w.cell? (ad.add j) = some u := fun j u hu => by
  rcases h.2 with ⟨h1, h2⟩ | ⟨g, off, cap, cur, h1, hg, _, _, _, hcur⟩
  · have := h.1
    subst h2
    have : us = [] := List.eq_nil_of_length_eq_zero (by omega)
    subst this; simp at hu
  · injection h1 with h1 _ _
    exact ⟨_, h1, by rw [addr_add_zero, cell_of_row w g _ cur e (0, 0) hg]; exact hcur _ _ hu⟩
theorem own_ge {B p n c : Nat} (h : B ≤ p) : ∀ g, (Value.slice (some ⟨p, 0, none⟩) n c).ownBlock = some g → B ≤ g := fun g hg => by
  simp [Value.ownBlock] at hg; omega
theorem own_other {p g n c : Nat} (h : g ≠ p) : some g ≠ (Value.slice (some ⟨p, 0, none⟩) n c).ownBlock := fun hg => by
  simp [Value.ownBlock] at hg; exact h hg
theorem OwnAt.at1 {w : World} {e : TypeId} {A : Option Addr} {n c : Nat} {vs : List Value} (h : OwnAt w e 1 (.slice A n c) n vs) {k : Nat} (hk : k < n) : ∃ b off u, A = some ⟨b, off, none⟩ ∧ b < w.heap.size ∧ w.cell? ⟨b, off + k, none⟩ = some u ∧ vs[k]? = some u := by
  have hs : SlAt (fun (_ : World) (u x : Value) => u = x) w A n vs := h.slAt rfl fun k x u h1 h2 => by rw [h1] at h2; exact (Option.some.inj h2).symm
  obtain ⟨x, b, off, u, h1, h2, h3, h4, h5⟩ := hs.at_ hk
  subst h5
  exact ⟨b, off, u, h2, h3, h4, h1⟩
theorem rows_at {k q a b : Nat} {row : List K.Stp} {s : K.Stp} (h1 : (K.rows k q)[a]? = some row) (h2 : (K.steps k q)[b]? = some s) : (K.rows k (q + 1))[a * (K.steps k q).length + b]? = some (row ++ [s]) := by
  have hb : b < (K.steps k q).length := (List.getElem?_eq_some_iff.1 h2).1
  show ((K.rows k q).flatMap fun r => (K.steps k q).map fun s => r ++ [s])[_]? = _
  rw [flatMap_at (m := (K.steps k q).length) (fun r => by simp) _ a b hb, h1, Option.bind_some, List.getElem?_map, h2]
  rfl
theorem le64 : 24 ≤ 64 := by decide
theorem pos1 : 0 < 1 := by decide
theorem one_slice (A : Option Addr) (n c : Nat) : ∀ u ∈ [Value.slice A n c], u.oneCell' = true := by simp [Value.oneCell']
theorem pos3 : 0 < 3 := by decide
/-- what an append to a slice of the call's own block g leaves of the worlds before -/
theorem below_own {w0 w w' : World} {v : Value} (hb : Below w0.heap.size w0 w) (hv : ∀ g, v.ownBlock = some g → w0.heap.size ≤ g) (hg : w.grownBy w' v.ownBlock) : Below w0.heap.size w0 w' := hb.grown hg hb.size hv

/-- what lies behind the first append -/
def Past6 (wr : World) (b0 o0 b1 o1 : Nat) (u0 : Value) (s : K.Stp) (row : List K.Stp) (p : Option Nat) (v1 : Value) (w6 : World) : Prop :=
  ∃ A6 c6, v1 = .slice A6 row.length c6 ∧ OwnAt w6 42 3 (.slice A6 row.length c6) row.length (flatS row) ∧ Below wr.heap.size wr w6 ∧
    w6.cell? ⟨b0, o0, none⟩ = some u0 ∧ w6.cell? ⟨b1, o1, none⟩ = some (.int .i64 s.1) ∧ w6.cell? ⟨b1, o1 + 1, none⟩ = some (.int .i64 s.2.1) ∧ w6.cell? ⟨b1, o1 + 2, none⟩ = some (.int .i64 s.2.2) ∧
    (∀ q, (Value.slice A6 row.length c6).ownBlock = some q → wr.heap.size ≤ q) ∧
    ∀ q, p = some q → w6.heap[q]? = some (.cells #[.int .i64 s.1, .int .i64 s.2.1, .int .i64 s.2.2] 42 (0, 0))
theorem past6 {wr X w6 : World} {b0 o0 b1 o1 g : Nat} {u0 : Value} {s : K.Stp} {row : List K.Stp} {p : Option Nat} {v1 : Value} (hB : Below wr.heap.size wr X) (hg : wr.heap.size ≤ g)
    (hc0 : wr.cell? ⟨b0, o0, none⟩ = some u0) (hc1 : wr.cell? ⟨b1, o1, none⟩ = some (.int .i64 s.1)) (hc2 : wr.cell? ⟨b1, o1 + 1, none⟩ = some (.int .i64 s.2.1)) (hc3 : wr.cell? ⟨b1, o1 + 2, none⟩ = some (.int .i64 s.2.2))
    (hp : ∀ q, p = some q → q ≠ g ∧ X.heap[q]? = some (.cells #[.int .i64 s.1, .int .i64 s.2.1, .int .i64 s.2.2] 42 (0, 0)))
    (hown : OwnAt w6 42 3 v1 (0 + row.length) ([] ++ flatS row)) (hgr : X.grownBy w6 (Value.slice (some ⟨g, 0, none⟩) 0 0).ownBlock) (hat : v1.ownBlock = (Value.slice (some ⟨g, 0, none⟩) 0 0).ownBlock ∨ v1.ownBlock = some X.heap.size) : Past6 wr b0 o0 b1 o1 u0 s row p v1 w6 := by
  rw [Nat.zero_add, List.nil_append] at hown
  have hb6 := below_own hB (v := .slice (some ⟨g, 0, none⟩) 0 0) (own_ge hg) hgr
  obtain ⟨A6, c6, rfl⟩ := hown.form
  refine ⟨A6, c6, rfl, hown, hb6, (hb6.cell (p := ⟨b0, o0, none⟩) (World.block_lt_of_cell? _ _ hc0)).trans hc0, (hb6.cell (p := ⟨b1, o1, none⟩) (World.block_lt_of_cell? _ _ hc1)).trans hc1,
    (hb6.cell (p := ⟨b1, o1 + 1, none⟩) (World.block_lt_of_cell? _ _ hc2)).trans hc2, (hb6.cell (p := ⟨b1, o1 + 2, none⟩) (World.block_lt_of_cell? _ _ hc3)).trans hc3, fun q hq => ?_, fun q hq => ?_⟩
  · rcases hat with h | h
    · exact own_ge hg q (h ▸ hq)
    · rw [h] at hq; injection hq with hq; have := hB.size; omega
  obtain ⟨h1, h2⟩ := hp q hq
  exact (hgr.block q (Array.getElem?_eq_some_iff.1 h2).1 (own_other h1)).trans h2

/-- what lies behind the second append -/
def Past12 (wr : World) (b0 o0 b1 o1 : Nat) (u0 : Value) (s : K.Stp) (row : List K.Stp) (v2 : Value) (w7 : World) : Prop :=
  ∃ A7 c7, v2 = .slice A7 (row.length + 1) c7 ∧ RowS w7 (.slice A7 (row.length + 1) c7) (row ++ [s]) ∧ Below wr.heap.size wr w7 ∧
    w7.cell? ⟨b0, o0, none⟩ = some u0 ∧ w7.cell? ⟨b1, o1, none⟩ = some (.int .i64 s.1) ∧ w7.cell? ⟨b1, o1 + 1, none⟩ = some (.int .i64 s.2.1) ∧ w7.cell? ⟨b1, o1 + 2, none⟩ = some (.int .i64 s.2.2)
theorem past12 {wr X w7 : World} {b0 o0 b1 o1 : Nat} {u0 : Value} {s : K.Stp} {row : List K.Stp} {v1 v2 : Value} (hB : Below wr.heap.size wr X) (hg : ∀ q, v1.ownBlock = some q → wr.heap.size ≤ q)
    (hc0 : wr.cell? ⟨b0, o0, none⟩ = some u0) (hc1 : wr.cell? ⟨b1, o1, none⟩ = some (.int .i64 s.1)) (hc2 : wr.cell? ⟨b1, o1 + 1, none⟩ = some (.int .i64 s.2.1)) (hc3 : wr.cell? ⟨b1, o1 + 2, none⟩ = some (.int .i64 s.2.2))
    (hown : OwnAt w7 42 3 v2 (row.length + 1) (flatS row ++ cellsS s)) (hgr : X.grownBy w7 v1.ownBlock) : Past12 wr b0 o0 b1 o1 u0 s row v2 w7 := by
  have hb6 := below_own hB hg hgr
  obtain ⟨A7, c7, rfl⟩ := hown.form
  have hr : RowS w7 (.slice A7 (row.length + 1) c7) (row ++ [s]) := by
    show OwnAt w7 42 3 _ (row ++ [s]).length (flatS (row ++ [s]))
    rw [flatS_snoc, List.length_append]
    exact hown
  exact ⟨A7, c7, rfl, hr, hb6, (hb6.cell (p := ⟨b0, o0, none⟩) (World.block_lt_of_cell? _ _ hc0)).trans hc0, (hb6.cell (p := ⟨b1, o1, none⟩) (World.block_lt_of_cell? _ _ hc1)).trans hc1,
    (hb6.cell (p := ⟨b1, o1 + 1, none⟩) (World.block_lt_of_cell? _ _ hc2)).trans hc2, (hb6.cell (p := ⟨b1, o1 + 2, none⟩) (World.block_lt_of_cell? _ _ hc3)).trans hc3⟩
/-- what lies behind the third append -/
def Past14 (wr w1 : World) (b0 o0 b1 o1 : Nat) (u0 : Value) (s : K.Stp) (n : Nat) (us : List Value) (pre : List (List K.Stp)) (row : List K.Stp) (v3 : Value) (w8 : World) : Prop :=
  ∃ u, OwnAt w8 26 1 v3 (n + 1) (us ++ [u]) ∧ Elems RowS w8 (us ++ [u]) (pre ++ [row ++ [s]]) ∧ Below w1.heap.size w1 w8 ∧ (∀ g, v3.ownBlock = some g → w1.heap.size ≤ g) ∧
    w8.cell? ⟨b0, o0, none⟩ = some u0 ∧ w8.cell? ⟨b1, o1, none⟩ = some (.int .i64 s.1) ∧ w8.cell? ⟨b1, o1 + 1, none⟩ = some (.int .i64 s.2.1) ∧ w8.cell? ⟨b1, o1 + 2, none⟩ = some (.int .i64 s.2.2)
theorem past14 {wr w1 w7 w8 : World} {b0 o0 b1 o1 : Nat} {u0 : Value} {s : K.Stp} {n : Nat} {us : List Value} {pre : List (List K.Stp)} {row : List K.Stp} {v v3 : Value} {A7 : Option Addr} {c7 : Nat} {T : TypeId}
    (hb : Below w1.heap.size w1 wr) (hl0 : b0 < w1.heap.size) (hl1 : b1 < w1.heap.size) (hown0 : OwnAt wr 26 1 v n us) (hel : Elems RowS wr us pre) (hob : ∀ g, v.ownBlock = some g → w1.heap.size ≤ g) (hB7 : Below wr.heap.size wr w7)
    (hrow : RowS w7 (.slice A7 (row.length + 1) c7) (row ++ [s]))
    (hc0 : w7.cell? ⟨b0, o0, none⟩ = some u0) (hc1 : w7.cell? ⟨b1, o1, none⟩ = some (.int .i64 s.1)) (hc2 : w7.cell? ⟨b1, o1 + 1, none⟩ = some (.int .i64 s.2.1)) (hc3 : w7.cell? ⟨b1, o1 + 2, none⟩ = some (.int .i64 s.2.2))
    (hown : OwnAt w8 26 1 v3 (n + 1) (us ++ [.slice A7 (row.length + 1) c7])) (hgr : (w7.alloc (.cells #[.slice A7 (row.length + 1) c7] T)).grownBy w8 v.ownBlock) (hat : v3.ownBlock = v.ownBlock ∨ v3.ownBlock = some (w7.heap.size + 1)) :
    Past14 wr w1 b0 o0 b1 o1 u0 s n us pre row v3 w8 := by
  have hown7 : OwnAt w7 26 1 v n us := hown0.below hB7 hown0.lt
  have hb7 : Below w1.heap.size w1 w7 := hb.trans (hB7.mono hb.size)
  obtain ⟨hb8, hv8⟩ := below_append hb7 hb7.size hob hgr hat
  have hstay : ∀ (u : Value) (y : List K.Stp), RowS w7 u y → RowS w8 u y := fun u y hu => OwnAt.kept (OwnAt.alloc hu _) hgr (ownAt_ne hu hown7 (by decide))
  have hel7 : Elems RowS w7 us pre := hel.map_ fun u y hu => OwnAt.below hu hB7 (OwnAt.lt hu)
  have hsame : ∀ (b o : Nat) (u : Value), b < w1.heap.size → w7.cell? ⟨b, o, none⟩ = some u → w8.cell? ⟨b, o, none⟩ = some u := fun b o u h hc =>
    ((hb8.cell (p := ⟨b, o, none⟩) h).trans ((hb7.cell (p := ⟨b, o, none⟩) h).symm)).trans hc
  exact ⟨_, hown, (hel7.map_ hstay).snoc (hstay _ _ hrow), hb8, hv8, hsame _ _ _ hl0 hc0, hsame _ _ _ hl1 hc1, hsame _ _ _ hl1 hc2, hsame _ _ _ hl1 hc3⟩

set_option maxRecDepth 100000 in
set_option maxHeartbeats 4000000 in
theorem rrows_any (k n : Nat) (hk : k ≤ 2) (hn : n ≤ 2) (W : World) :
    Calls Try.prog 20 #[.int .i64 k, .int .i64 n] W fun e w' => ∃ A c, e = .returned (.slice A (K.rows k n).length c) ∧ SlAt SlS w' A (K.rows k n).length (K.rows k n) ∧ Below W.heap.size W w' := by
  have HS := Lib.hid (fun p hp W => rsteps_any k p hk hp W)
  go_enter Try.func20, Try.ntmps20
  go_wp2
  go_loopg [5, 6] (n + 1) (fun g v i wr => ∃ (q : Nat) (vs : List Value), q ≤ n ∧ i = .int .i64 (q : Int) ∧ g + q = n + 1 ∧ OwnAt wr 26 1 v (K.rows k q).length vs ∧ Elems RowS wr vs (K.rows k q) ∧ Below W.heap.size W wr ∧ (∀ g, v.ownBlock = some g → W.heap.size ≤ g))
  case atStart => exact ⟨0, [.slice none 0 0], Nat.zero_le _, rfl, rfl, OwnAt.of_new (s := 1) W #[.slice none 0 0] 1 rfl (by simp [maxLen]), Elems.nil_.snoc (show RowS _ (.slice none 0 0) [] from OwnAt.nil_ _ _ _), (Below.refl _ _).alloc (Nat.le_refl _) _, own_ge (Nat.le_refl _)⟩
  case round =>
    obtain ⟨q, vs, hq, rfl, hgk, hown, hel, hbw, hob⟩ := hrel
    have Hgk := Lib.hid hgk; clear hgk
    have Hown := Lib.hid hown; clear hown
    have Hel := Lib.hid hel; clear hel
    have Hob := Lib.hid hob; clear hob
    obtain ⟨gO, hgO⟩ : ∃ g, g = gk := ⟨_, rfl⟩
    subst hgO
    by_cases hlq : q < n
    · go_wp2_with fail
      refine (HS.out q (by omega) _).mono ?_
      rintro e w1 ⟨A1, c1, rfl, hs1, hb1⟩
      have Hs1 := Lib.hid hs1; clear hs1
      have Hb1 := Lib.hid (hbw.trans (hb1.mono hbw.size))
      have Hown1 := Lib.hid (Hown.out.below hb1 Hown.out.lt)
      have Hel1 := Lib.hid (show Elems RowS w1 vs (K.rows k q) from Hel.out.map_ fun u x h => OwnAt.below h hb1 (OwnAt.lt h))
      clear hb1 Hown Hel hbw
      obtain ⟨A0, c0, hv⟩ := Hown1.out.form
      subst hv
      have hR := K.rows_count hk (show q ≤ 2 by omega)
      have hSl := K.steps_len hk (show q ≤ 2 by omega)
      obtain ⟨R, hRe⟩ : ∃ R, R = (K.rows k q).length := ⟨_, rfl⟩
      obtain ⟨S, hSe⟩ : ∃ S, S = (K.steps k q).length := ⟨_, rfl⟩
      rw [← hRe] at hR Hown1
      rw [← hSe] at hSl Hs1
      simp only [← hRe, ← hSe]
      have HRe := Lib.hid hRe; clear hRe
      have HSe := Lib.hid hSe; clear hSe
      go_wp2
      go_loopg [7, 9] (R + 1) (fun g v i wr => ∃ (a : Nat) (us : List Value), a ≤ R ∧ i = .int .i64 (a : Int) ∧ g + a = R + 1 ∧ OwnAt wr 26 1 v (a * S) us ∧ Elems RowS wr us ((K.rows k (q + 1)).take (a * S)) ∧ Below w1.heap.size w1 wr ∧ (∀ g, v.ownBlock = some g → w1.heap.size ≤ g))
      case atStart => exact ⟨0, [], Nat.zero_le _, rfl, rfl, by simpa using OwnAt.nil_ _ _ _, by simpa using Elems.nil_, Below.refl _ _, fun g hg => by simp [Value.ownBlock] at hg⟩
      case round =>
        obtain ⟨a, us, ha, rfl, hgk, hown, hel, hbw, hob⟩ := hrel
        have Hgk2 := Lib.hid hgk; clear hgk
        have Hown := Lib.hid hown; clear hown
        have Hel := Lib.hid hel; clear hel
        have Hob2 := Lib.hid hob; clear hob
        obtain ⟨gP, hgP⟩ : ∃ g, g = gk := ⟨_, rfl⟩
        subst hgP
        by_cases hla : a < R
        · go_wp2
          go_loopg [7, 10] (S + 1) (fun g v i wr => ∃ (b : Nat) (us : List Value), b ≤ S ∧ i = .int .i64 (b : Int) ∧ g + b = S + 1 ∧ OwnAt wr 26 1 v (a * S + b) us ∧ Elems RowS wr us ((K.rows k (q + 1)).take (a * S + b)) ∧ Below w1.heap.size w1 wr ∧ (∀ g, v.ownBlock = some g → w1.heap.size ≤ g))
          case atStart => exact ⟨0, us, Nat.zero_le _, rfl, rfl, by simpa using Hown.out, by simpa using Hel.out, hbw, Hob2.out⟩
          case round =>
            clear Hown Hel Hob2 hbw us
            obtain ⟨b, us, hb, rfl, hgk, hown, hel, hbw, hob⟩ := hrel
            have Hgk3 := Lib.hid hgk; clear hgk
            have Hown := Lib.hid hown; clear hown
            have Hel := Lib.hid hel; clear hel
            have Hob2 := Lib.hid hob; clear hob
            by_cases hlb : b < S
            · obtain ⟨s, b1, off1, us1, hs, hA1, hbl1, hul1, hcs1, hst1⟩ := Hs1.out.at_ hlb
              subst hA1
              have Hs := Lib.hid hs; clear hs
              have hst1' : us1 = cellsS s := hst1
              subst hst1'
              clear hst1
              have hA0 : ∃ b0 off0 row, (K.rows k q)[a]? = some row ∧ A0 = some ⟨b0, off0, none⟩ ∧ b0 < w1.heap.size ∧ ∃ u, w1.cell? ⟨b0, off0 + a, none⟩ = some u ∧ RowS w1 u row := by
                obtain ⟨b0, off0, u0, hA, hlt, hc, hv⟩ := Hown1.out.at1 hla
                have hrk : (K.rows k q)[a]? = some ((K.rows k q)[a]'(by rw [← HRe.out]; exact hla)) := List.getElem?_eq_getElem _
                exact ⟨b0, off0, _, hrk, hA, hlt, u0, hc, Hel1.out.2 a _ u0 hrk hv⟩
              obtain ⟨b0, off0, row, hrow, rfl, hbl0, u0, hu0, hrow0⟩ := hA0
              have hrow0' : OwnAt w1 42 3 u0 row.length (flatS row) := hrow0
              obtain ⟨A2, c2, hu0e⟩ := hrow0'.form
              subst hu0e
              have hcell0 : wr.cell? ⟨b0, off0 + a, none⟩ = some (.slice A2 row.length c2) := (hbw.cell (p := ⟨b0, off0 + a, none⟩) hbl0).trans hu0
              have hcs0 := (hbw.cell (p := ⟨b1, off1 + b * 3 + 0, none⟩) hbl1).trans (hcs1 0 _ rfl)
              rw [Nat.add_zero] at hcs0
              have hcs1' := (hbw.cell (p := ⟨b1, off1 + b * 3 + 1, none⟩) hbl1).trans (hcs1 1 _ rfl)
              have hcs2 := (hbw.cell (p := ⟨b1, off1 + b * 3 + 2, none⟩) hbl1).trans (hcs1 2 _ rfl)
              have hlt0 : b0 < wr.heap.size := World.block_lt_of_cell? _ _ hcell0
              have hlt1 : b1 < wr.heap.size := World.block_lt_of_cell? _ _ hcs0
              have hsrc := src_below (own_src hrow0') hbw
              have Hsrc := Lib.hid hsrc; clear hsrc
              have Hrow := Lib.hid hrow; clear hrow hu0 hrow0 hrow0' hcs1
              have hrl : row.length ≤ 1000 := by have := K.rows_len (List.mem_of_getElem? Hrow.out); omega
              have hrl0 : 0 + row.length ≤ 1000000000 := by omega
              have hrl1 : row.length + 1 ≤ 1000000000 := by omega
              have hBwr : Below wr.heap.size wr wr := Below.refl _ _
              have HX1 := Lib.hid (show OwnAt ((wr.alloc (.cells #[] 42)).drew) 42 3 (.slice (some ⟨wr.heap.size, 0, none⟩) 0 0) 0 [] from own_zero (cur := #[]) (heap_alloc_new wr _))
              have HB1 := Lib.hid (show Below wr.heap.size wr ((wr.alloc (.cells #[] 42)).drew) from ((Below.refl _ _).alloc (Nat.le_refl _) _).drew)
              have HS1 := Lib.hid (src_below Hsrc.out HB1.out)
              have HX2 := Lib.hid (show OwnAt (((wr.alloc (.cells #[] 42)).alloc (.cells #[.int .i64 s.1, .int .i64 s.2.1, .int .i64 s.2.2] 42)).drew) 42 3 (.slice (some ⟨wr.heap.size, 0, none⟩) 0 0) 0 [] from own_zero (cur := #[]) ((Below.heap_alloc _ _ _ (by simp)).trans (heap_alloc_new wr _)))
              have HB2 := Lib.hid (show Below wr.heap.size wr (((wr.alloc (.cells #[] 42)).alloc (.cells #[.int .i64 s.1, .int .i64 s.2.1, .int .i64 s.2.2] 42)).drew) from (((Below.refl _ _).alloc (Nat.le_refl _) _).alloc (by simp) _).drew)
              have HS2 := Lib.hid (src_below Hsrc.out HB2.out)
              have HT2 := Lib.hid (show (((wr.alloc (.cells #[] 42)).alloc (.cells #[.int .i64 s.1, .int .i64 s.2.1, .int .i64 s.2.2] 42)).drew).heap[wr.heap.size + 1]? = some (.cells #[.int .i64 s.1, .int .i64 s.2.1, .int .i64 s.2.2] 42 (0, 0)) from (by have h := heap_alloc_new (wr.alloc (.cells #[] 42)) (.cells #[.int .i64 s.1, .int .i64 s.2.1, .int .i64 s.2.2] 42); rw [World.size_alloc] at h; exact h))
              have HX3 := Lib.hid (show OwnAt (((wr.alloc (.cells #[.int .i64 s.1, .int .i64 s.2.1, .int .i64 s.2.2] 42)).alloc (.cells #[] 42)).drew) 42 3 (.slice (some ⟨wr.heap.size + 1, 0, none⟩) 0 0) 0 [] from own_zero (cur := #[]) ((by have h := heap_alloc_new (wr.alloc (.cells #[.int .i64 s.1, .int .i64 s.2.1, .int .i64 s.2.2] 42)) (.cells #[] 42); rw [World.size_alloc] at h; exact h)))
              have HB3 := Lib.hid (show Below wr.heap.size wr (((wr.alloc (.cells #[.int .i64 s.1, .int .i64 s.2.1, .int .i64 s.2.2] 42)).alloc (.cells #[] 42)).drew) from (((Below.refl _ _).alloc (Nat.le_refl _) _).alloc (by simp) _).drew)
              have HS3 := Lib.hid (src_below Hsrc.out HB3.out)
              have HT3 := Lib.hid (show (((wr.alloc (.cells #[.int .i64 s.1, .int .i64 s.2.1, .int .i64 s.2.2] 42)).alloc (.cells #[] 42)).drew).heap[wr.heap.size]? = some (.cells #[.int .i64 s.1, .int .i64 s.2.1, .int .i64 s.2.2] 42 (0, 0)) from (Below.heap_alloc _ _ _ (by simp)).trans (heap_alloc_new wr _))
              clear hBwr
              have Hc0 := Lib.hid hcell0
              have Hc1 := Lib.hid hcs0
              have Hc2 := Lib.hid hcs1'
              have Hc3 := Lib.hid hcs2
              have Hl0 := Lib.hid hbl0
              have Hl1 := Lib.hid hbl1
              have hidx : a * S + b + 1 ≤ 1000000000 := by
                have : a * S ≤ 100000 * 252 := Nat.mul_le_mul (by omega) hSl
                omega
              have HP1 := Lib.hid (fun (v1 : Value) (w6 : World) (h1 : OwnAt w6 42 3 v1 (0 + row.length) ([] ++ flatS row)) (h2 : ((wr.alloc (.cells #[] 42)).drew).grownBy w6 (Value.slice (some ⟨wr.heap.size, 0, none⟩) 0 0).ownBlock) (h3 : v1.ownBlock = (Value.slice (some ⟨wr.heap.size, 0, none⟩) 0 0).ownBlock ∨ v1.ownBlock = some _) => past6 (p := none) HB1.out (by omega) hcell0 hcs0 hcs1' hcs2 (fun q hq => by cases hq) h1 h2 h3)
              have HP2 := Lib.hid (fun (v1 : Value) (w6 : World) (h1 : OwnAt w6 42 3 v1 (0 + row.length) ([] ++ flatS row)) (h2 : (((wr.alloc (.cells #[] 42)).alloc (.cells #[.int .i64 s.1, .int .i64 s.2.1, .int .i64 s.2.2] 42)).drew).grownBy w6 (Value.slice (some ⟨wr.heap.size, 0, none⟩) 0 0).ownBlock) (h3 : v1.ownBlock = (Value.slice (some ⟨wr.heap.size, 0, none⟩) 0 0).ownBlock ∨ v1.ownBlock = some _) => past6 (p := (some (wr.heap.size + 1))) HB2.out (by omega) hcell0 hcs0 hcs1' hcs2 (fun q hq => by cases hq; exact ⟨by omega, HT2.out⟩) h1 h2 h3)
              have HP3 := Lib.hid (fun (v1 : Value) (w6 : World) (h1 : OwnAt w6 42 3 v1 (0 + row.length) ([] ++ flatS row)) (h2 : (((wr.alloc (.cells #[.int .i64 s.1, .int .i64 s.2.1, .int .i64 s.2.2] 42)).alloc (.cells #[] 42)).drew).grownBy w6 (Value.slice (some ⟨wr.heap.size + 1, 0, none⟩) 0 0).ownBlock) (h3 : v1.ownBlock = (Value.slice (some ⟨wr.heap.size + 1, 0, none⟩) 0 0).ownBlock ∨ v1.ownBlock = some _) => past6 (p := (some (wr.heap.size))) HB3.out (by omega) hcell0 hcs0 hcs1' hcs2 (fun q hq => by cases hq; exact ⟨by omega, HT3.out⟩) h1 h2 h3)
              go_wp2_with fail
              go_region_held3 (fun w' => w'.cell? ⟨b0, off0 + a, none⟩ = some (.slice A2 row.length c2) ∧ w'.cell? ⟨b1, off1 + b * 3, none⟩ = some (.int .i64 s.1) ∧ w'.cell? ⟨b1, off1 + b * 3 + 1, none⟩ = some (.int .i64 s.2.1) ∧ w'.cell? ⟨b1, off1 + b * 3 + 2, none⟩ = some (.int .i64 s.2.2))
                (first | go_keep | (go_split_ands; refine ⟨?_, ?_, ?_, ?_⟩ <;> assumption))
                (first
                  | (refine step_append_src _ (by rfl) (.tmp 33) (.tmp 37) 26 (by rfl) 42 (.agg #[.int .i64 0, .int .i64 0, .int .i64 0]) 3 24 Try.underlying26 infoStep rfl pos3 _ 0 [] (by rfl) HX1.out A2 row.length c2 (flatS row) (by rfl) (flatS_len row) HS1.out (one_flat row) hrl0 le64 ?_; intro v1 w6 hown6 hgr6 hat6; obtain ⟨A6, c6, hv6, hown6b, hB6, hd0, hd1, hd2, hd3, hge6, hstep6⟩ := HP1.out v1 w6 hown6 hgr6 hat6; have Hge6 := Lib.hid hge6; rw [hv6]; have Hown6 := Lib.hid hown6b; have HB6 := Lib.hid hB6; have Hstep6 := Lib.hid hstep6; clear hown6 hgr6 hat6 hB6 hstep6 hown6b hv6 hge6)
                  | (refine step_append_src _ (by rfl) (.tmp 33) (.tmp 37) 26 (by rfl) 42 (.agg #[.int .i64 0, .int .i64 0, .int .i64 0]) 3 24 Try.underlying26 infoStep rfl pos3 _ 0 [] (by rfl) HX2.out A2 row.length c2 (flatS row) (by rfl) (flatS_len row) HS2.out (one_flat row) hrl0 le64 ?_; intro v1 w6 hown6 hgr6 hat6; obtain ⟨A6, c6, hv6, hown6b, hB6, hd0, hd1, hd2, hd3, hge6, hstep6⟩ := HP2.out v1 w6 hown6 hgr6 hat6; have Hge6 := Lib.hid hge6; rw [hv6]; have Hown6 := Lib.hid hown6b; have HB6 := Lib.hid hB6; have Hstep6 := Lib.hid hstep6; clear hown6 hgr6 hat6 hB6 hstep6 hown6b hv6 hge6)
                  | (refine step_append_src _ (by rfl) (.tmp 33) (.tmp 37) 26 (by rfl) 42 (.agg #[.int .i64 0, .int .i64 0, .int .i64 0]) 3 24 Try.underlying26 infoStep rfl pos3 _ 0 [] (by rfl) HX3.out A2 row.length c2 (flatS row) (by rfl) (flatS_len row) HS3.out (one_flat row) hrl0 le64 ?_; intro v1 w6 hown6 hgr6 hat6; obtain ⟨A6, c6, hv6, hown6b, hB6, hd0, hd1, hd2, hd3, hge6, hstep6⟩ := HP3.out v1 w6 hown6 hgr6 hat6; have Hge6 := Lib.hid hge6; rw [hv6]; have Hown6 := Lib.hid hown6b; have HB6 := Lib.hid hB6; have Hstep6 := Lib.hid hstep6; clear hown6 hgr6 hat6 hB6 hstep6 hown6b hv6 hge6)
                  | (refine step_append_src _ (by rfl) (.tmp 38) (.tmp 43) 26 (by rfl) 42 (.agg #[.int .i64 0, .int .i64 0, .int .i64 0]) 3 24 Try.underlying26 infoStep rfl pos3 (.slice A6 row.length c6) row.length (flatS row) (by rfl) (Hown6.out.alloc _) (some ⟨_, 0, none⟩) 1 1 (cellsS s) (by rfl) rfl (news_step (heap_alloc_new w6 _)) (one_step s) hrl1 le64 ?_; intro v2 w7 hown7 hgr7 hat7; obtain ⟨A7, c7, hv7, hrow7, hB7, hd0, hd1, hd2, hd3⟩ := past12 (HB6.out.alloc HB6.out.size _) Hge6.out Hc0.out Hc1.out Hc2.out Hc3.out hown7 hgr7; rw [hv7]; have Hrow7 := Lib.hid hrow7; have HB7 := Lib.hid hB7; have He0 := Lib.hid hd0; have He1 := Lib.hid hd1; have He2 := Lib.hid hd2; have He3 := Lib.hid hd3; clear hown7 hgr7 hat7 hB7 hrow7 hv7)
                  | (refine step_append_src _ (by rfl) (.tmp 38) (.tmp 43) 26 (by rfl) 42 (.agg #[.int .i64 0, .int .i64 0, .int .i64 0]) 3 24 Try.underlying26 infoStep rfl pos3 (.slice A6 row.length c6) row.length (flatS row) (by rfl) Hown6.out (some ⟨_, 0, none⟩) 1 1 (cellsS s) (by rfl) rfl (news_step (Hstep6.out _ rfl)) (one_step s) hrl1 le64 ?_; intro v2 w7 hown7 hgr7 hat7; obtain ⟨A7, c7, hv7, hrow7, hB7, hd0, hd1, hd2, hd3⟩ := past12 HB6.out Hge6.out Hc0.out Hc1.out Hc2.out Hc3.out hown7 hgr7; rw [hv7]; have Hrow7 := Lib.hid hrow7; have HB7 := Lib.hid hB7; have He0 := Lib.hid hd0; have He1 := Lib.hid hd1; have He2 := Lib.hid hd2; have He3 := Lib.hid hd3; clear hown7 hgr7 hat7 hB7 hrow7 hv7)
                  | (refine step_append_src _ (by rfl) (.tmp 32) (.tmp 45) 52 (by rfl) 26 (.slice none 0 0) 1 24 Try.underlying52 infoSlStep rfl pos1 _ (a * S + b) us (by rfl) ((Hown.out.below HB7.out Hown.out.lt).alloc _) (some ⟨_, 0, none⟩) 1 1 [.slice A7 (row.length + 1) c7] (by rfl) rfl (news_one (heap_alloc_new w7 _)) (one_slice A7 (row.length + 1) c7) hidx le64 ?_; intro v3 w8 hown8 hgr8 hat8; obtain ⟨u8, hown8b, hel8, hb8, hv8, hd0, hd1, hd2, hd3⟩ := past14 hbw Hl0.out Hl1.out Hown.out Hel.out Hob2.out HB7.out Hrow7.out He0.out He1.out He2.out He3.out hown8 hgr8 (by rw [World.size_alloc] at hat8; exact hat8); have Hown8 := Lib.hid hown8b; have Hel8 := Lib.hid hel8; have Hb8 := Lib.hid hb8; have Hv8 := Lib.hid hv8; clear hown8 hgr8 hat8 hown8b hel8 hb8 hv8))
              all_goals
                have hat9 := rows_at Hrow.out Hs.out
                rw [← HSe.out] at hat9
                have Hel9 := Lib.hid (show Elems RowS w8 (us ++ [u8]) ((K.rows k (q + 1)).take (a * S + (b + 1))) from by rw [← Nat.add_assoc, K.take_succ_at hat9]; exact Hel8.out)
                clear hat9
                go_wp2
                go_roundg (gk - 1)
                case measure => have := Hgk3.out; omega
                case rel => have := Hgk3.out; exact ⟨b + 1, us ++ [u8], by omega, by go_num, by omega, Hown8.out, Hel9.out, Hb8.out, Hv8.out⟩
            · obtain rfl : b = S := by omega
              have hown2 := Hown.out
              have hel2 := Hel.out
              rw [show a * b + b = (a + 1) * b by rw [Nat.succ_mul]] at hown2 hel2
              have Hown2 := Lib.hid hown2
              have Hel2 := Lib.hid hel2
              clear hown2 hel2 Hown Hel
              go_wp2
              go_roundg (gP - 1)
              case measure => have := Hgk2.out; omega
              case rel => have := Hgk2.out; exact ⟨a + 1, us, by omega, by go_num, by omega, Hown2.out, Hel2.out, hbw, Hob2.out⟩
        · obtain rfl : a = R := by omega
          have hcount : (K.rows k (q + 1)).length = a * S := by rw [K.rows_count_succ, ← HRe.out, ← HSe.out]
          have hown2 := Hown.out
          have hel2 := Hel.out
          rw [← hcount] at hown2 hel2
          rw [List.take_length] at hel2
          have Hown2 := Lib.hid hown2
          have Hel2 := Lib.hid hel2
          clear hown2 hel2 Hown Hel hcount
          have Hb9 := Lib.hid (Hb1.out.trans (hbw.mono Hb1.out.size))
          have Hob9 := Lib.hid (show ∀ g, _ → W.heap.size ≤ g from fun g hg => Nat.le_trans Hb1.out.size (Hob2.out g hg))
          clear hbw
          go_wp2
          go_roundg (gO - 1)
          case measure => have := Hgk.out; omega
          case rel => have := Hgk.out; exact ⟨q + 1, us, by omega, by go_num, by omega, Hown2.out, Hel2.out, Hb9.out, Hob9.out⟩
    · obtain rfl : q = n := by omega
      obtain ⟨A, c, hv⟩ := Hown.out.form
      subst hv
      go_wp2
      go_ret
      exact ⟨A, c, rfl, Hown.out.slElems monoSlS (Below.refl _ _) (RowS.elems Hel.out), hbw⟩
end Go.Proofs.Ytableoihgkmbjaa
