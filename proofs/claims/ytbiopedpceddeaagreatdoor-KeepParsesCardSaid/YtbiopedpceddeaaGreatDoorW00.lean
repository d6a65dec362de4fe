/- Merged: C4Base. -/
import Derived.WalkKit
import Derived.WalkLawsBesides
import Derived.WalkSpells
import Derived.Lib.Hide
import Derived.Deep.QuietTactic
import Derived.BigQuiet
import Derived.Deep.RegionLaw
set_option linter.unusedVariables false
set_option linter.unusedSimpArgs false
namespace Go.Proofs.YtbiopedpceddeaaGreatDoor
open Go.RowKit

/-- The slice at A of n elements reads as the list xs, element by element by R. -/
def SlAt {α : Type} (R : World → Value → α → Prop) (w : World) (A : Option Addr) (n : Nat) (xs : List α) : Prop :=
  xs.length = n ∧ n ≤ 9223372036854775807 ∧ ∀ k x, xs[k]? = some x → ∃ b off u, A = some ⟨b, off, none⟩ ∧ b < w.heap.size ∧ w.cell? ⟨b, off + k, none⟩ = some u ∧ R w u x

def IntR (q : IntKind) (_ : World) (u : Value) (x : Int) : Prop := u = .int q x
def SlR {α : Type} (R : World → Value → α → Prop) (w : World) (u : Value) (xs : List α) : Prop :=
  ∃ A c, u = .slice A xs.length c ∧ SlAt R w A xs.length xs

/-- w' is w, but for draws. -/
def Dr (w w' : World) : Prop := ∃ n, w' = w.drewN n
theorem Dr.refl (w : World) : Dr w w := ⟨0, rfl⟩
theorem Dr.drewN {w w' : World} (h : Dr w w') (n : Nat) : Dr w (w'.drewN n) := by
  obtain ⟨m, rfl⟩ := h
  exact ⟨m + n, World.drewN_drewN _ _ _⟩
theorem Dr.trans {a b c : World} (h : Dr a b) (k : Dr b c) : Dr a c := by
  obtain ⟨m, rfl⟩ := k
  exact h.drewN m
theorem Dr.below {w w' : World} (h : Dr w w') (B : Nat) : Below B w w' := by
  obtain ⟨n, rfl⟩ := h
  exact ⟨rfl, rfl, rfl, Nat.le_refl _, fun _ _ => rfl⟩
theorem _root_.Go.RowKit.Below.dr {B : Nat} {a w w' : World} (h : Below B a w) (k : Dr w w') : Below B a w' := h.trans (k.below B)

def MonoR {α : Type} (R : World → Value → α → Prop) : Prop := ∀ w w' u x, Below w.heap.size w w' → R w u x → R w' u x

section
variable {α : Type} {R : World → Value → α → Prop} {w w' : World} {A : Option Addr} {n : Nat} {xs : List α}

theorem monoInt (q : IntKind) : MonoR (IntR q) := fun _ _ _ _ _ h => h
theorem SlAt.len (h : SlAt R w A n xs) : xs.length = n := h.1
theorem SlAt.le (h : SlAt R w A n xs) : n ≤ 9223372036854775807 := h.2.1

theorem SlAt.at_ (h : SlAt R w A n xs) {k : Nat} (hk : k < n) : ∃ x b off u, xs[k]? = some x ∧ A = some ⟨b, off, none⟩ ∧ b < w.heap.size ∧ w.cell? ⟨b, off + k, none⟩ = some u ∧ R w u x := by
  obtain ⟨h1, _, h2⟩ := h
  have hl : k < xs.length := by omega
  obtain ⟨b, off, u, r⟩ := h2 k xs[k] (List.getElem?_eq_getElem hl)
  exact ⟨_, b, off, u, List.getElem?_eq_getElem hl, r⟩

theorem SlAt.below (hR : MonoR R) (h : SlAt R w A n xs) (hb : Below w.heap.size w w') : SlAt R w' A n xs := by
  refine ⟨h.1, h.2.1, fun k x hx => ?_⟩
  obtain ⟨b, off, u, hA, hlt, hc, hr⟩ := h.2.2 k x hx
  exact ⟨b, off, u, hA, Nat.lt_of_lt_of_le hlt hb.size, (hb.cell (p := ⟨b, off + k, none⟩) hlt).trans hc, hR _ _ _ _ hb hr⟩

theorem SlAt.dr (hR : MonoR R) (h : SlAt R w A n xs) (hb : Dr w w') : SlAt R w' A n xs := h.below hR (hb.below _)

theorem SlAt.nil_ (A : Option Addr) : SlAt R w A 0 ([] : List α) := ⟨rfl, by omega, fun k x h => by simp at h⟩

theorem SlR.mk_ {c : Nat} (h : SlAt R w A n xs) : SlR R w (.slice A n c) xs := by
  have := h.1
  subst this
  exact ⟨A, c, rfl, h⟩
end

/-- The slice value v of n elements (of type e, s cells each) lies in memory of the call's own and holds the cells xs; what lies behind it up to its capacity may be written. -/
def OwnAt (w : World) (e : TypeId) (s : Nat) (v : Value) (n : Nat) (xs : List Value) : Prop :=
  xs.length = n * s ∧ ((v = .slice none 0 0 ∧ n = 0) ∨
    ∃ g off cap cur, v = .slice (some ⟨g, off, none⟩) n cap ∧ w.heap[g]? = some (.cells cur e (0, 0)) ∧ n ≤ cap ∧ cap ≤ maxLen ∧ off + cap * s ≤ cur.size ∧ ∀ j u, xs[j]? = some u → cur[off + j]? = some u)

section
variable {w w' : World} {e : TypeId} {s : Nat} {v : Value} {n : Nat} {xs : List Value}

theorem OwnAt.nil_ (w : World) (e : TypeId) (s : Nat) : OwnAt w e s (.slice none 0 0) 0 [] := ⟨by simp, .inl ⟨rfl, rfl⟩⟩

theorem OwnAt.lt (h : OwnAt w e s v n xs) : ∀ k, v.ownBlock = some k → k < w.heap.size := by
  intro k hk
  rcases h.2 with ⟨rfl, _⟩ | ⟨g, off, cap, cur, rfl, hg, _⟩
  · simp [Value.ownBlock] at hk
  · simp [Value.ownBlock] at hk
    subst hk
    exact (Array.getElem?_eq_some_iff.1 hg).1

theorem OwnAt.same (h : OwnAt w e s v n xs) (hg : ∀ g, v.ownBlock = some g → w'.heap[g]? = w.heap[g]?) : OwnAt w' e s v n xs := by
  refine ⟨h.1, ?_⟩
  rcases h.2 with hn | ⟨g, off, cap, cur, rfl, hgg, r⟩
  · exact .inl hn
  · exact .inr ⟨g, off, cap, cur, rfl, by rw [hg g (by simp [Value.ownBlock])]; exact hgg, r⟩

theorem OwnAt.kept {row : Option Nat} (h : OwnAt w e s v n xs) (hg : w.grownBy w' row) (hne : v.ownBlock = none ∨ v.ownBlock ≠ row) : OwnAt w' e s v n xs :=
  h.same fun g hgv => hg.block g (h.lt g hgv) (by
    rcases hne with hne | hne
    · rw [hne] at hgv; cases hgv
    · rw [← hgv]; exact hne)

theorem OwnAt.below {B : Nat} (h : OwnAt w e s v n xs) (hb : Below B w w') (hlt : ∀ g, v.ownBlock = some g → g < B) : OwnAt w' e s v n xs :=
  h.same fun g hg => hb.block g (hlt g hg)

theorem OwnAt.alloc (h : OwnAt w e s v n xs) (o : Obj) : OwnAt (w.alloc o) e s v n xs := h.same fun g hg => Below.heap_alloc w o g (h.lt g hg)
theorem OwnAt.setCell (h : OwnAt w e s v n xs) {p : Addr} (hp : v.ownBlock ≠ some p.block) (u : Value) : OwnAt (w.setCell p u) e s v n xs :=
  h.same fun g hg => Below.heap_setCell w p u g (fun e => hp (by rw [hg, e]))

theorem OwnAt.form (h : OwnAt w e s v n xs) : ∃ A c, v = .slice A n c := by
  rcases h.2 with ⟨rfl, rfl⟩ | ⟨g, off, cap, cur, rfl, _⟩
  · exact ⟨_, _, rfl⟩
  · exact ⟨_, _, rfl⟩

theorem OwnAt.le (h : OwnAt w e s v n xs) : n ≤ 9223372036854775807 := by
  rcases h.2 with ⟨rfl, rfl⟩ | ⟨g, off, cap, cur, rfl, _, h1, h2, _⟩
  · omega
  · simp only [maxLen] at h2; omega

theorem OwnAt.of_new (w : World) (cur : Array Value) (n : Nat) (hs : cur.size = n * s) (hm : n ≤ maxLen) : OwnAt (w.alloc (.cells cur e)) e s (.slice (some ⟨w.heap.size, 0, none⟩) n n) n cur.toList :=
  ⟨by simpa using hs, .inr ⟨w.heap.size, 0, n, cur, rfl, heap_alloc_new w _, Nat.le_refl _, hm, by omega, fun j u hu => by simpa using hu⟩⟩

/-- A slice of the call's own, one cell an element, read. -/
theorem OwnAt.slAt {α : Type} {R : World → Value → α → Prop} {A : Option Addr} {c : Nat} {ys : List α} (h : OwnAt w e 1 (.slice A n c) n xs) (hl : ys.length = xs.length) (hR : ∀ (k : Nat) (x : α) (u : Value), ys[k]? = some x → xs[k]? = some u → R w u x) : SlAt R w A n ys := by
  have hlen := h.1
  refine ⟨by omega, h.le, fun k x hx => ?_⟩
  have hk : k < ys.length := (List.getElem?_eq_some_iff.1 hx).1
  have hk' : k < xs.length := by omega
  rcases h.2 with ⟨h1, h2⟩ | ⟨g, off, cap, cur, h1, hg, _, _, _, hcur⟩
  · subst h2; omega
  · injection h1 with h1 _ _
    refine ⟨g, off, xs[k], h1, (Array.getElem?_eq_some_iff.1 hg).1, ?_, hR k x _ hx (List.getElem?_eq_getElem hk')⟩
    rw [cell_of_row w g _ cur e (0, 0) hg]
    exact hcur k _ (List.getElem?_eq_getElem hk')

theorem OwnAt.slInts {A : Option Addr} {c : Nat} {q : IntKind} {ys : List Int} (h : OwnAt w e 1 (.slice A n c) n (ys.map (.int q))) : SlAt (IntR q) w A n ys :=
  h.slAt (by simp) fun k x u hx hu => by
    rw [List.getElem?_map, hx] at hu
    exact (Option.some.inj hu).symm
end

section
variable {P : Program} (w : World)

theorem addr_add_zero (g off : Nat) (j : Nat) : (⟨g, off, none⟩ : Addr).add j = ⟨g, off + j, none⟩ := by unfold Addr.add; split <;> simp_all

/-- append onto a slice of the call's own. -/
theorem run_append_at (t ty e : TypeId) (i : TypeInfo) (z : Value) (s bytes : Nat) (ht : P.underlying t = some (.slice e)) (hi : P.info? e = some i) (hz : i.zero = some z)
    (hsize : i.size = s) (hby : i.bytes = bytes) (hzs : z.cells.size = s)
    (v : Value) (n : Nat) (xs : List Value) (hown : OwnAt w e s v n xs)
    (a : Addr) (m c : Nat) (news : List Value) (hl : news.length = m * s) (hnews : ∀ j u, news[j]? = some u → w.cell? (a.add j) = some u) (h1 : ∀ u ∈ news, u.oneCell' = true)
    (h63 : n + m ≤ maxLen) (hbytes : (n + m) * bytes ≤ 140737488355328) :
    ∃ v' w', (Builtin.append_ #[t, t] ty #[v, .slice (some a) m c]).run P w = .ok v' w' ∧ OwnAt w' e s v' (n + m) (xs ++ news) ∧ w.grownBy w' v.ownBlock ∧
      (v'.ownBlock = v.ownBlock ∨ v'.ownBlock = some w.heap.size) := by
  subst hsize
  subst hby
  have hsmall : n + m ≤ 9223372036854775807 := by simp only [maxLen] at h63; omega
  have hlen : (xs ++ news).length = (n + m) * i.size := by rw [List.length_append, hown.1, hl, Nat.add_mul]
  have grown : ∀ (old : Nat), old < n + m → ∀ (row : Option Nat),
      OwnAt (w.drew.alloc (.cells (xs.toArray ++ news.toArray ++ Builtin.zeroCells z.cells (grownCap w (n + m) old e - (n + m))) e)) e i.size
        (.slice (some ⟨w.heap.size, 0, none⟩) (n + m) (grownCap w (n + m) old e)) (n + m) (xs ++ news) ∧
      w.grownBy (w.drew.alloc (.cells (xs.toArray ++ news.toArray ++ Builtin.zeroCells z.cells (grownCap w (n + m) old e - (n + m))) e)) row := by
    intro old ho row
    have hge := grownCap_ge w (n + m) old e
    have hcm : grownCap w (n + m) old e ≤ maxLen := grownCap_le_maxLen w (n + m) old e h63
    refine ⟨⟨hlen, .inr ⟨w.heap.size, 0, _, _, rfl, heap_alloc_new w.drew _, hge, hcm, ?_, ?_⟩⟩, ⟨rfl, rfl, rfl, by simp, fun k hk _ => Below.heap_alloc w.drew _ k hk⟩⟩
    · simp only [Array.size_append, List.size_toArray, size_zeroCells, hzs, hown.1, hl, ← Nat.add_mul]
      rw [Nat.zero_add, Nat.add_sub_cancel' hge]
      exact Nat.le_refl _
    · intro j u hu
      have hj : j < (xs ++ news).length := (List.getElem?_eq_some_iff.1 hu).1
      rw [Nat.zero_add, Array.getElem?_append_left (by simpa using hj)]
      simpa using hu
  rcases hown.2 with ⟨rfl, rfl⟩ | ⟨g, off, cap, cur, rfl, hg, hnc, hcm, hcs, hcur⟩
  · have hx : xs = [] := List.eq_nil_of_length_eq_zero (by simpa using hown.1)
    subst hx
    by_cases hm : m = 0
    · subst hm
      have hn : news = [] := List.eq_nil_of_length_eq_zero (by simpa using hl)
      subst hn
      refine ⟨.slice none 0 0, w, ?_, OwnAt.nil_ w e i.size, ⟨rfl, rfl, rfl, Nat.le_refl _, fun _ _ _ => rfl⟩, .inl rfl⟩
      simp [Builtin.append_, run_underlying ht, sizeOf, typeInfo, hi, Builtin.lenOf, Builtin.firstCells, loadCells, loadCellsFrom]
    · have hr := run_append_nil (P := P) w t ty e i z ht hi hz a m c news hl hnews (by omega) (by omega) (by have hb := hbytes; simp only [Nat.zero_add] at hb; omega)
      have hgr := grown 0 (by omega) (Value.ownBlock (.slice none 0 0))
      simp only [Nat.zero_add, List.nil_append, Array.empty_append] at hgr ⊢
      exact ⟨_, _, hr, hgr.1, hgr.2, .inr rfl⟩
  · by_cases hroom : n + m ≤ cap
    · have hxl := hown.1
      have hmul : n * i.size + m * i.size ≤ cap * i.size := by rw [← Nat.add_mul]; exact Nat.mul_le_mul_right _ hroom
      have hf := run_firstCells_some (P := P) w i.size m a m c news hl hnews
      have hst := run_storeCells_at P g (off + n * i.size) e news 0 cur w hg (by omega) h1
      simp only [Nat.add_zero] at hst
      refine ⟨.slice (some ⟨g, off, none⟩) (n + m) cap, w.setRow g (cur.toList.take (off + n * i.size) ++ news ++ cur.toList.drop (off + n * i.size + news.length)).toArray, ?_, ⟨hlen, .inr ⟨g, off, cap, _, rfl, setRow_heap w g cur _ e _ hg, hroom, hcm, ?_, ?_⟩⟩,
        ⟨rfl, rfl, rfl, by simp, fun k _ hk => setRow_other w g k _ (fun e => hk (by simp [Value.ownBlock, e]))⟩, .inl rfl⟩
      · simp [Builtin.append_, run_underlying ht, sizeOf, typeInfo, hi, Builtin.lenOf, hroom, hf, addr_add_zero, hst]
      · simp only [List.size_toArray, List.length_append, List.length_take, List.length_drop, Array.length_toList]
        omega
      · intro j u hu
        have hj : j < (xs ++ news).length := (List.getElem?_eq_some_iff.1 hu).1
        rw [List.length_append] at hj
        have hs' : off + cap * i.size ≤ cur.toList.length := by simpa using hcs
        by_cases hjx : j < n * i.size
        · rw [List.getElem?_append_left (by omega)] at hu
          have := hcur j u hu
          simp only [List.getElem?_toArray]
          rw [List.append_assoc, List.getElem?_append_left (by simp; omega), List.getElem?_take, if_pos (by omega)]
          simpa using this
        · rw [List.getElem?_append_right (by omega)] at hu
          simp only [List.getElem?_toArray]
          rw [List.append_assoc, List.getElem?_append_right (by simp; omega), List.getElem?_append_left (by simp; omega)]
          rw [← hu]
          congr 1
          simp
          omega
    · have hholds : ∀ j u, xs[j]? = some u → w.cell? ((⟨g, off, none⟩ : Addr).add j) = some u := by
        intro j u hu
        rw [addr_add_zero, cell_of_row w g _ cur e (0, 0) hg]
        exact hcur j u hu
      have hr := run_append_grow (P := P) w t ty e i z ht hi hz ⟨g, off, none⟩ n cap xs hown.1 hholds a m c news hl hnews (by omega) (by omega) (growslice_fits (by omega) hbytes)
      have hgr := grown cap (by omega) (Value.ownBlock (.slice (some ⟨g, off, none⟩) n cap))
      exact ⟨_, _, hr, hgr.1, hgr.2, .inr rfl⟩

theorem wp_append_at {o : Oper} {a : Act} {K : Act → World → Prop} {Q : Exit → Act → World → Prop} (sx x : Operand) (t : TypeId)
    (ho : o.op = .call { callee := .builtin .append, args := #[sx, x], argTypes := #[t, t] })
    (e : TypeId) (i : TypeInfo) (z : Value) (s bytes : Nat) (ht : P.underlying t = some (.slice e)) (hi : P.info? e = some i) (hz : i.zero = some z)
    (hsize : i.size = s) (hby : i.bytes = bytes) (hzs : z.cells.size = s)
    (v : Value) (n : Nat) (xs : List Value) (hs : a.eval sx = v) (hown : OwnAt w e s v n xs)
    (ad : Addr) (m c : Nat) (news : List Value) (hx : a.eval x = .slice (some ad) m c) (hl : news.length = m * s) (hnews : ∀ j u, news[j]? = some u → w.cell? (ad.add j) = some u) (h1 : ∀ u ∈ news, u.oneCell' = true)
    (h63 : n + m ≤ maxLen) (hbytes : (n + m) * bytes ≤ 140737488355328)
    (h : ∀ v' w', OwnAt w' e s v' (n + m) (xs ++ news) → w.grownBy w' v.ownBlock → (v'.ownBlock = v.ownBlock ∨ v'.ownBlock = some w.heap.size) → K (a.put o.dst v') w') : o.wp P a w K Q := by
  obtain ⟨v', w', hr, h2, h3, h4⟩ := run_append_at (P := P) w t o.type e i z s bytes ht hi hz hsize hby hzs v n xs hown ad m c news hl hnews h1 h63 hbytes
  unfold Oper.wp execOp
  simp only [ho, resolve, invoke, builtin, Sem.run_bind, Sem.run_pure, Result.andThen_ok, List.map_toArray, List.map_cons, List.map_nil, hs, hx, hr]
  exact h v' w' h2 h3 h4

theorem wpList_append_at {ops : Array Oper} {rest : List Oper} {o : Oper} {a : Act} {Q : Exit → Act → World → Prop} (hgd : o.guard = none) (sx x : Operand) (t : TypeId)
    (ho : o.op = .call { callee := .builtin .append, args := #[sx, x], argTypes := #[t, t] })
    (e : TypeId) (i : TypeInfo) (z : Value) (s bytes : Nat) (ht : P.underlying t = some (.slice e)) (hi : P.info? e = some i) (hz : i.zero = some z)
    (hsize : i.size = s) (hby : i.bytes = bytes) (hzs : z.cells.size = s)
    (v : Value) (n : Nat) (xs : List Value) (hs : a.eval sx = v) (hown : OwnAt w e s v n xs)
    (ad : Addr) (m c : Nat) (news : List Value) (hx : a.eval x = .slice (some ad) m c) (hl : news.length = m * s) (hnews : ∀ j u, news[j]? = some u → w.cell? (ad.add j) = some u) (h1 : ∀ u ∈ news, u.oneCell' = true)
    (h63 : n + m ≤ maxLen) (hbytes : (n + m) * bytes ≤ 140737488355328)
    (h : ∀ v' w', OwnAt w' e s v' (n + m) (xs ++ news) → w.grownBy w' v.ownBlock → (v'.ownBlock = v.ownBlock ∨ v'.ownBlock = some w.heap.size) → wpList P ops Q rest (a.put o.dst v') w') : wpList P ops Q (o :: rest) a w :=
  wpList_plain hgd fun _ hK => wp_append_at w sx x t ho e i z s bytes ht hi hz hsize hby hzs v n xs hs hown ad m c news hx hl hnews h1 h63 hbytes fun v' w' h2 h3 h4 => hK _ _ (h v' w' h2 h3 h4)

/-- 'append(out, u)' of one element of one cell: the translation lays u in a new block of its own first. -/
theorem wpList_append_one {ops : Array Oper} {rest : List Oper} {o : Oper} {a : Act} {Q : Exit → Act → World → Prop} (hgd : o.guard = none) (sx x : Operand) (t : TypeId)
    (ho : o.op = .call { callee := .builtin .append, args := #[sx, x], argTypes := #[t, t] })
    (e : TypeId) (z : Value) (bytes : Nat) (ht : P.underlying t = some (.slice e)) (hinfo : (P.info? e).map (fun i => (i.zero, i.size, i.bytes)) = some (some z, 1, bytes)) (hzs : z.cells.size = 1)
    (v : Value) (n : Nat) (xs : List Value) (hs : a.eval sx = v) (hown : OwnAt w e 1 v n xs) (u : Value) (h1 : u.oneCell' = true) (E : TypeId)
    (hx : a.eval x = .slice (some ⟨w.heap.size, 0, none⟩) 1 1) (hn : n ≤ 1000000000) (hb : bytes ≤ 64)
    (h : ∀ v' w', OwnAt w' e 1 v' (n + 1) (xs ++ [u]) → (w.alloc (.cells #[u] E)).grownBy w' v.ownBlock → (v'.ownBlock = v.ownBlock ∨ v'.ownBlock = some (w.heap.size + 1)) → wpList P ops Q rest (a.put o.dst v') w') :
    wpList P ops Q (o :: rest) a (w.alloc (.cells #[u] E)) := by
  obtain ⟨i, hi, hz, hsz, hby⟩ := info_parts hinfo
  have hmul : (n + 1) * bytes ≤ (n + 1) * 64 := Nat.mul_le_mul_left _ hb
  refine wpList_append_at _ hgd sx x t ho e i z 1 bytes ht hi hz hsz hby hzs v n xs hs (hown.alloc _) _ 1 1 [u] hx rfl (cell_one_new _ _ _) (by simpa using h1) (by simp only [maxLen]; omega) (by omega) ?_
  intro v' w' h2 h3 h4
  exact h v' w' h2 h3 (by simpa using h4)

/-- append of whatever slice: nil, empty or not. -/
theorem run_append_src (t ty e : TypeId) (i : TypeInfo) (z : Value) (s bytes : Nat) (ht : P.underlying t = some (.slice e)) (hi : P.info? e = some i) (hz : i.zero = some z)
    (hsize : i.size = s) (hby : i.bytes = bytes) (hzs : z.cells.size = s) (hs0 : 0 < s)
    (v : Value) (n : Nat) (xs : List Value) (hown : OwnAt w e s v n xs)
    (A : Option Addr) (m c : Nat) (news : List Value) (hl : news.length = m * s) (hnews : ∀ j u, news[j]? = some u → ∃ ad : Addr, A = some ad ∧ w.cell? (ad.add j) = some u) (h1 : ∀ u ∈ news, u.oneCell' = true)
    (h63 : n + m ≤ maxLen) (hbytes : (n + m) * bytes ≤ 140737488355328) :
    ∃ v' w', (Builtin.append_ #[t, t] ty #[v, .slice A m c]).run P w = .ok v' w' ∧ OwnAt w' e s v' (n + m) (xs ++ news) ∧ w.grownBy w' v.ownBlock ∧
      (v'.ownBlock = v.ownBlock ∨ v'.ownBlock = some w.heap.size) := by
  cases A with
  | some a =>
    refine run_append_at w t ty e i z s bytes ht hi hz hsize hby hzs v n xs hown a m c news hl (fun j u hu => ?_) h1 h63 hbytes
    obtain ⟨ad, he, hc⟩ := hnews j u hu
    cases he
    exact hc
  | none =>
    have hn : news = [] := by
      cases news with
      | nil => rfl
      | cons u r => obtain ⟨_, he, _⟩ := hnews 0 u rfl; cases he
    subst hn
    have hm : m = 0 := by
      rcases Nat.eq_zero_or_pos m with h0 | h0
      · exact h0
      · have := Nat.mul_pos h0 hs0
        simp at hl; omega
    subst hm
    refine ⟨v, w, ?_, by simpa using hown, ⟨rfl, rfl, rfl, Nat.le_refl _, fun _ _ _ => rfl⟩, .inl rfl⟩
    rcases hown.2 with ⟨rfl, rfl⟩ | ⟨g, off, cap, cur, rfl, _, hnc, _⟩
    · simp [Builtin.append_, run_underlying ht, sizeOf, typeInfo, hi, Builtin.lenOf, Builtin.firstCells]
    · simp [Builtin.append_, run_underlying ht, sizeOf, typeInfo, hi, Builtin.lenOf, Builtin.firstCells, hnc, storeCells]

theorem wp_append_src {o : Oper} {a : Act} {K : Act → World → Prop} {Q : Exit → Act → World → Prop} (sx x : Operand) (t : TypeId)
    (ho : o.op = .call { callee := .builtin .append, args := #[sx, x], argTypes := #[t, t] })
    (e : TypeId) (z : Value) (s bytes : Nat) (ht : P.underlying t = some (.slice e)) (hinfo : (P.info? e).map (fun i => (i.zero, i.size, i.bytes)) = some (some z, s, bytes)) (hzs : z.cells.size = s) (hs0 : 0 < s)
    (v : Value) (n : Nat) (xs : List Value) (hs : a.eval sx = v) (hown : OwnAt w e s v n xs)
    (A : Option Addr) (m c : Nat) (news : List Value) (hx : a.eval x = .slice A m c) (hl : news.length = m * s) (hnews : ∀ j u, news[j]? = some u → ∃ ad : Addr, A = some ad ∧ w.cell? (ad.add j) = some u) (h1 : ∀ u ∈ news, u.oneCell' = true)
    (hn : n + m ≤ 1000000000) (hb : bytes ≤ 64)
    (h : ∀ v' w', OwnAt w' e s v' (n + m) (xs ++ news) → w.grownBy w' v.ownBlock → (v'.ownBlock = v.ownBlock ∨ v'.ownBlock = some w.heap.size) → K (a.put o.dst v') w') : o.wp P a w K Q := by
  obtain ⟨i, hi, hz, hsz, hby⟩ := info_parts hinfo
  have hmul : (n + m) * bytes ≤ (n + m) * 64 := Nat.mul_le_mul_left _ hb
  obtain ⟨v', w', hr, h2, h3, h4⟩ := run_append_src (P := P) w t o.type e i z s bytes ht hi hz hsz hby hzs hs0 v n xs hown A m c news hl hnews h1 (by simp only [maxLen]; omega) (by omega)
  unfold Oper.wp execOp
  simp only [ho, resolve, invoke, builtin, Sem.run_bind, Sem.run_pure, Result.andThen_ok, List.map_toArray, List.map_cons, List.map_nil, hs, hx, hr]
  exact h v' w' h2 h3 h4

theorem wpList_append_src {ops : Array Oper} {rest : List Oper} {o : Oper} {a : Act} {Q : Exit → Act → World → Prop} (hgd : o.guard = none) (sx x : Operand) (t : TypeId)
    (ho : o.op = .call { callee := .builtin .append, args := #[sx, x], argTypes := #[t, t] })
    (e : TypeId) (z : Value) (s bytes : Nat) (ht : P.underlying t = some (.slice e)) (hinfo : (P.info? e).map (fun i => (i.zero, i.size, i.bytes)) = some (some z, s, bytes)) (hzs : z.cells.size = s) (hs0 : 0 < s)
    (v : Value) (n : Nat) (xs : List Value) (hs : a.eval sx = v) (hown : OwnAt w e s v n xs)
    (A : Option Addr) (m c : Nat) (news : List Value) (hx : a.eval x = .slice A m c) (hl : news.length = m * s) (hnews : ∀ j u, news[j]? = some u → ∃ ad : Addr, A = some ad ∧ w.cell? (ad.add j) = some u) (h1 : ∀ u ∈ news, u.oneCell' = true)
    (hn : n + m ≤ 1000000000) (hb : bytes ≤ 64)
    (h : ∀ v' w', OwnAt w' e s v' (n + m) (xs ++ news) → w.grownBy w' v.ownBlock → (v'.ownBlock = v.ownBlock ∨ v'.ownBlock = some w.heap.size) → wpList P ops Q rest (a.put o.dst v') w') : wpList P ops Q (o :: rest) a w :=
  wpList_plain hgd fun _ hK => wp_append_src w sx x t ho e z s bytes ht hinfo hzs hs0 v n xs hs hown A m c news hx hl hnews h1 hn hb fun v' w' h2 h3 h4 => hK _ _ (h v' w' h2 h3 h4)

theorem step_append_src {ops : Array Oper} {o : Oper} {a : Act} {K : Act → World → Prop} {Q : Exit → Act → World → Prop} {E : Prop} (hgd : o.guard = none) (sx x : Operand) (t : TypeId)
    (ho : o.op = .call { callee := .builtin .append, args := #[sx, x], argTypes := #[t, t] })
    (e : TypeId) (z : Value) (s bytes : Nat) (ht : P.underlying t = some (.slice e)) (hinfo : (P.info? e).map (fun i => (i.zero, i.size, i.bytes)) = some (some z, s, bytes)) (hzs : z.cells.size = s) (hs0 : 0 < s)
    (v : Value) (n : Nat) (xs : List Value) (hs : a.eval sx = v) (hown : OwnAt w e s v n xs)
    (A : Option Addr) (m c : Nat) (news : List Value) (hx : a.eval x = .slice A m c) (hl : news.length = m * s) (hnews : ∀ j u, news[j]? = some u → ∃ ad : Addr, A = some ad ∧ w.cell? (ad.add j) = some u) (h1 : ∀ u ∈ news, u.oneCell' = true)
    (hn : n + m ≤ 1000000000) (hb : bytes ≤ 64)
    (h : ∀ v' w', OwnAt w' e s v' (n + m) (xs ++ news) → w.grownBy w' v.ownBlock → (v'.ownBlock = v.ownBlock ∨ v'.ownBlock = some w.heap.size) → K (a.put o.dst v') w') :
    if Region.wanted o (yielded ops a.tmps) = true then Oper.wp P o a w K Q else E := by
  rw [if_pos (by simp [Region.wanted, hgd])]
  exact wp_append_src w sx x t ho e z s bytes ht hinfo hzs hs0 v n xs hs hown A m c news hx hl hnews h1 hn hb h

/-- the cells of a slice that reads as a list -/
theorem SlAt.cells {α : Type} {R : World → Value → α → Prop} {w : World} {A : Option Addr} {n : Nat} {xs : List α} (h : SlAt R w A n xs) :
    ∃ us : List Value, us.length = n ∧ (∀ j u, us[j]? = some u → ∃ ad : Addr, A = some ad ∧ w.cell? (ad.add j) = some u) ∧ ∀ (k : Nat) (x : α) (u : Value), xs[k]? = some x → us[k]? = some u → R w u x := by
  refine ⟨(List.range n).map fun k => (A.bind fun a => w.cell? (a.add k)).getD (.tuple #[]), by simp, fun j u hu => ?_, fun k x u hx hu => ?_⟩
  · have hj : j < n := by have := (List.getElem?_eq_some_iff.1 hu).1; simpa using this
    obtain ⟨x, b, off, u', _, rfl, _, hc, _⟩ := h.at_ hj
    refine ⟨⟨b, off, none⟩, rfl, ?_⟩
    rw [List.getElem?_map, List.getElem?_range hj] at hu
    simp only [Option.map_some, Option.bind_some, addr_add_zero, hc, Option.getD_some, Option.some.injEq] at hu
    rw [addr_add_zero, hc, hu]
  · have hk : k < n := by have := (List.getElem?_eq_some_iff.1 hu).1; simpa using this
    obtain ⟨b, off, u', rfl, _, hc, hr⟩ := h.2.2 k x hx
    rw [List.getElem?_map, List.getElem?_range hk] at hu
    simp only [Option.map_some, Option.bind_some, addr_add_zero, hc, Option.getD_some, Option.some.injEq] at hu
    rw [← hu]; exact hr

theorem madeCells_one (z : Value) (n : Nat) : madeCells #[z] n = Array.replicate n z := by
  apply Array.ext
  · simp [size_madeCells]
  · intro i h1 h2
    simp [madeCells, Nat.mod_one]

/-- 'make([]T, n)', an element of one cell. -/
theorem run_make_n (t e : TypeId) (z : Value) (bytes : Nat) (ht : P.underlying t = some (.slice e)) (hinfo : (P.info? e).map (fun i => (i.zero, i.size, i.bytes)) = some (some z, 1, bytes)) (hz : z.cells = #[z])
    (kl kc : IntKind) (n : Nat) (C : Int) (hC : C = n) (hn : n ≤ 1000000000) (hb : bytes ≤ 64) (W : World) :
    (Instr.makeSlice t (.int kl C) (.int kc C)).run P W = .ok (.slice (some ⟨W.heap.size, 0, none⟩) n n) (W.alloc (.cells (Array.replicate n z) e)) := by
  obtain ⟨i, hi, hzz, hsz, hby⟩ := info_parts hinfo
  subst hC
  have hmul : i.bytes * n ≤ 64 * n := Nat.mul_le_mul_right _ (by rw [hby]; exact hb)
  have hbi : (i.bytes : Int) * (n : Int) ≤ 281474976710656 := by
    have h : ((i.bytes * n : Nat) : Int) ≤ 281474976710656 := by omega
    rwa [Int.natCast_mul] at h
  have hr := run_make (P := P) W t e i z ht hi hzz kl kc n n (by omega) (by omega) hbi (by omega)
  simp only [Int.toNat_natCast, hsz, Nat.mul_one, hz, madeCells_one] at hr
  exact hr
end
end Go.Proofs.YtbiopedpceddeaaGreatDoor
