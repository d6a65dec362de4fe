/- Part. -/
import Derived.WalkKit
import Derived.WalkLawsBesides
import Derived.WalkSpells
import Derived.Lib.Hide
import Derived.Deep.QuietTactic
import Derived.BigQuiet
import Derived.Deep.RegionLaw
import Derived.OrdersHeld
import Derived.Deep.RegionHeld
import Derived.Maps.Keyed
import Derived.Maps.OwnOps
import Derived.Carry
import Derived.ChangeMaps5
import Derived.Test.YtbiopedpceddeaaGreatDoorProg
import Derived.Laws.BitsAllLaws
import Derived.Laws.EntriesVeiled
import Derived.Shelf.Abstract
import Derived.Deep.RegionWith
import Derived.StillTailTactics
import Derived.BigRegion
import Derived.ProofKit
import Derived.OpenShut
import Derived.Deep.Slices
import Derived.Deep.Fields
import Derived.ChangeSame
import Derived.Deep.LoopGhost
import Derived.Deep.RegionHeld3
set_option linter.unusedVariables false
set_option linter.unusedSimpArgs false
set_option maxRecDepth 100000
set_option maxHeartbeats 16000000
namespace Go.Proofs.YtbiopedpceddeaaGreatDoor
section
open Go.RowKit
def SlAt {α : Type} (R : World → Value → α → Prop) (w : World) (A : Option Addr) (n : Nat) (xs : List α) : Prop :=
 xs.length = n ∧ n ≤ 9223372036854775807 ∧ ∀ k x, xs[k]? = some x → ∃ b off u, A = some ⟨b, off, none⟩ ∧ b < w.heap.size ∧ w.cell? ⟨b, off + k, none⟩ = some u ∧ R w u x
def IntR (q : IntKind) (_ : World) (u : Value) (x : Int) : Prop := u = .int q x
def SlR {α : Type} (R : World → Value → α → Prop) (w : World) (u : Value) (xs : List α) : Prop :=
 ∃ A c, u = .slice A xs.length c ∧ SlAt R w A xs.length xs
def Dr (w w' : World) : Prop := ∃ n, w' = w.drewN n
theorem Dr.refl (w : World) : Dr w w := ⟨0, rfl⟩
theorem Dr.drewN {w w' : World} (h : Dr w w') (n : Nat) : Dr w (w'.drewN n) := by
 obtain ⟨m, rfl⟩ := h
 exact ⟨m + n, World.drewN_drewN _ _ _⟩
theorem Dr.trans {a b c : World} (h : Dr a b) (k : Dr b c) : Dr a c := by
 obtain ⟨m, rfl⟩ := k
 exact h.drewN m
theorem Dr.below {w w' : World} (h : Dr w w') (B : Nat) : Below B w w' := by
 obtain ⟨n, rfl⟩ := h
 exact ⟨rfl, rfl, rfl, Nat.le_refl _, fun _ _ => rfl⟩
theorem _root_.Go.RowKit.Below.dr {B : Nat} {a w w' : World} (h : Below B a w) (k : Dr w w') : Below B a w' := h.trans (k.below B)
def MonoR {α : Type} (R : World → Value → α → Prop) : Prop := ∀ w w' u x, Below w.heap.size w w' → R w u x → R w' u x
section
variable {α : Type} {R : World → Value → α → Prop} {w w' : World} {A : Option Addr} {n : Nat} {xs : List α}
theorem monoInt (q : IntKind) : MonoR (IntR q) := fun _ _ _ _ _ h => h
theorem SlAt.len (h : SlAt R w A n xs) : xs.length = n := h.1
theorem SlAt.le (h : SlAt R w A n xs) : n ≤ 9223372036854775807 := h.2.1
theorem SlAt.at_ (h : SlAt R w A n xs) {k : Nat} (hk : k < n) : ∃ x b off u, xs[k]? = some x ∧ A = some ⟨b, off, none⟩ ∧ b < w.heap.size ∧ w.cell? ⟨b, off + k, none⟩ = some u ∧ R w u x := by
 obtain ⟨h1, _, h2⟩ := h
 have hl : k < xs.length := by omega
 obtain ⟨b, off, u, r⟩ := h2 k xs[k] (List.getElem?_eq_getElem hl)
 exact ⟨_, b, off, u, List.getElem?_eq_getElem hl, r⟩
theorem SlAt.below (hR : MonoR R) (h : SlAt R w A n xs) (hb : Below w.heap.size w w') : SlAt R w' A n xs := by
 refine ⟨h.1, h.2.1, fun k x hx => ?_⟩
 obtain ⟨b, off, u, hA, hlt, hc, hr⟩ := h.2.2 k x hx
 exact ⟨b, off, u, hA, Nat.lt_of_lt_of_le hlt hb.size, (hb.cell (p := ⟨b, off + k, none⟩) hlt).trans hc, hR _ _ _ _ hb hr⟩
theorem SlAt.dr (hR : MonoR R) (h : SlAt R w A n xs) (hb : Dr w w') : SlAt R w' A n xs := h.below hR (hb.below _)
theorem SlAt.nil_ (A : Option Addr) : SlAt R w A 0 ([] : List α) := ⟨rfl, by omega, fun k x h => by simp at h⟩
theorem SlR.mk_ {c : Nat} (h : SlAt R w A n xs) : SlR R w (.slice A n c) xs := by
 have := h.1
 subst this
 exact ⟨A, c, rfl, h⟩
end
def OwnAt (w : World) (e : TypeId) (s : Nat) (v : Value) (n : Nat) (xs : List Value) : Prop :=
 xs.length = n * s ∧ ((v = .slice none 0 0 ∧ n = 0) ∨
  ∃ g off cap cur, v = .slice (some ⟨g, off, none⟩) n cap ∧ w.heap[g]? = some (.cells cur e (0, 0)) ∧ n ≤ cap ∧ cap ≤ maxLen ∧ off + cap * s ≤ cur.size ∧ ∀ j u, xs[j]? = some u → cur[off + j]? = some u)
section
variable {w w' : World} {e : TypeId} {s : Nat} {v : Value} {n : Nat} {xs : List Value}
theorem OwnAt.nil_ (w : World) (e : TypeId) (s : Nat) : OwnAt w e s (.slice none 0 0) 0 [] := ⟨by simp, .inl ⟨rfl, rfl⟩⟩
theorem OwnAt.lt (h : OwnAt w e s v n xs) : ∀ k, v.ownBlock = some k → k < w.heap.size := by
 intro k hk
 rcases h.2 with ⟨rfl, _⟩ | ⟨g, off, cap, cur, rfl, hg, _⟩
 · simp [Value.ownBlock] at hk
 · simp [Value.ownBlock] at hk
   subst hk
   exact (Array.getElem?_eq_some_iff.1 hg).1
theorem OwnAt.same (h : OwnAt w e s v n xs) (hg : ∀ g, v.ownBlock = some g → w'.heap[g]? = w.heap[g]?) : OwnAt w' e s v n xs := by
 refine ⟨h.1, ?_⟩
 rcases h.2 with hn | ⟨g, off, cap, cur, rfl, hgg, r⟩
 · exact .inl hn
 · exact .inr ⟨g, off, cap, cur, rfl, by rw [hg g (by simp [Value.ownBlock])]; exact hgg, r⟩
theorem OwnAt.kept {row : Option Nat} (h : OwnAt w e s v n xs) (hg : w.grownBy w' row) (hne : v.ownBlock = none ∨ v.ownBlock ≠ row) : OwnAt w' e s v n xs :=
 h.same fun g hgv => hg.block g (h.lt g hgv) (by
  rcases hne with hne | hne
  · rw [hne] at hgv; cases hgv
  · rw [← hgv]; exact hne)
theorem OwnAt.below {B : Nat} (h : OwnAt w e s v n xs) (hb : Below B w w') (hlt : ∀ g, v.ownBlock = some g → g < B) : OwnAt w' e s v n xs :=
 h.same fun g hg => hb.block g (hlt g hg)
theorem OwnAt.alloc (h : OwnAt w e s v n xs) (o : Obj) : OwnAt (w.alloc o) e s v n xs := h.same fun g hg => Below.heap_alloc w o g (h.lt g hg)
theorem OwnAt.setCell (h : OwnAt w e s v n xs) {p : Addr} (hp : v.ownBlock ≠ some p.block) (u : Value) : OwnAt (w.setCell p u) e s v n xs :=
 h.same fun g hg => Below.heap_setCell w p u g (fun e => hp (by rw [hg, e]))
theorem OwnAt.form (h : OwnAt w e s v n xs) : ∃ A c, v = .slice A n c := by
 rcases h.2 with ⟨rfl, rfl⟩ | ⟨g, off, cap, cur, rfl, _⟩
 · exact ⟨_, _, rfl⟩
 · exact ⟨_, _, rfl⟩
theorem OwnAt.le (h : OwnAt w e s v n xs) : n ≤ 9223372036854775807 := by
 rcases h.2 with ⟨rfl, rfl⟩ | ⟨g, off, cap, cur, rfl, _, h1, h2, _⟩
 · omega
 · simp only [maxLen] at h2; omega
theorem OwnAt.of_new (w : World) (cur : Array Value) (n : Nat) (hs : cur.size = n * s) (hm : n ≤ maxLen) : OwnAt (w.alloc (.cells cur e)) e s (.slice (some ⟨w.heap.size, 0, none⟩) n n) n cur.toList :=
 ⟨by simpa using hs, .inr ⟨w.heap.size, 0, n, cur, rfl, heap_alloc_new w _, Nat.le_refl _, hm, by omega, fun j u hu => by simpa using hu⟩⟩
theorem OwnAt.slAt {α : Type} {R : World → Value → α → Prop} {A : Option Addr} {c : Nat} {ys : List α} (h : OwnAt w e 1 (.slice A n c) n xs) (hl : ys.length = xs.length) (hR : ∀ (k : Nat) (x : α) (u : Value), ys[k]? = some x → xs[k]? = some u → R w u x) : SlAt R w A n ys := by
 have hlen := h.1
 refine ⟨by omega, h.le, fun k x hx => ?_⟩
 have hk : k < ys.length := (List.getElem?_eq_some_iff.1 hx).1
 have hk' : k < xs.length := by omega
 rcases h.2 with ⟨h1, h2⟩ | ⟨g, off, cap, cur, h1, hg, _, _, _, hcur⟩
 · subst h2; omega
 · injection h1 with h1 _ _
   refine ⟨g, off, xs[k], h1, (Array.getElem?_eq_some_iff.1 hg).1, ?_, hR k x _ hx (List.getElem?_eq_getElem hk')⟩
   rw [cell_of_row w g _ cur e (0, 0) hg]
   exact hcur k _ (List.getElem?_eq_getElem hk')
theorem OwnAt.slInts {A : Option Addr} {c : Nat} {q : IntKind} {ys : List Int} (h : OwnAt w e 1 (.slice A n c) n (ys.map (.int q))) : SlAt (IntR q) w A n ys :=
 h.slAt (by simp) fun k x u hx hu => by
  rw [List.getElem?_map, hx] at hu
  exact (Option.some.inj hu).symm
end
section
variable {P : Program} (w : World)
theorem addr_add_zero (g off : Nat) (j : Nat) : (⟨g, off, none⟩ : Addr).add j = ⟨g, off + j, none⟩ := by unfold Addr.add; split <;> simp_all
theorem run_append_at (t ty e : TypeId) (i : TypeInfo) (z : Value) (s bytes : Nat) (ht : P.underlying t = some (.slice e)) (hi : P.info? e = some i) (hz : i.zero = some z)
 (hsize : i.size = s) (hby : i.bytes = bytes) (hzs : z.cells.size = s)
 (v : Value) (n : Nat) (xs : List Value) (hown : OwnAt w e s v n xs)
 (a : Addr) (m c : Nat) (news : List Value) (hl : news.length = m * s) (hnews : ∀ j u, news[j]? = some u → w.cell? (a.add j) = some u) (h1 : ∀ u ∈ news, u.oneCell' = true)
 (h63 : n + m ≤ maxLen) (hbytes : (n + m) * bytes ≤ 140737488355328) :
 ∃ v' w', (Builtin.append_ #[t, t] ty #[v, .slice (some a) m c]).run P w = .ok v' w' ∧ OwnAt w' e s v' (n + m) (xs ++ news) ∧ w.grownBy w' v.ownBlock ∧
  (v'.ownBlock = v.ownBlock ∨ v'.ownBlock = some w.heap.size) := by
 subst hsize
 subst hby
 have hsmall : n + m ≤ 9223372036854775807 := by simp only [maxLen] at h63; omega
 have hlen : (xs ++ news).length = (n + m) * i.size := by rw [List.length_append, hown.1, hl, Nat.add_mul]
 have grown : ∀ (old : Nat), old < n + m → ∀ (row : Option Nat),
  OwnAt (w.drew.alloc (.cells (xs.toArray ++ news.toArray ++ Builtin.zeroCells z.cells (grownCap w (n + m) old e - (n + m))) e)) e i.size
   (.slice (some ⟨w.heap.size, 0, none⟩) (n + m) (grownCap w (n + m) old e)) (n + m) (xs ++ news) ∧
  w.grownBy (w.drew.alloc (.cells (xs.toArray ++ news.toArray ++ Builtin.zeroCells z.cells (grownCap w (n + m) old e - (n + m))) e)) row := by
  intro old ho row
  have hge := grownCap_ge w (n + m) old e
  have hcm : grownCap w (n + m) old e ≤ maxLen := grownCap_le_maxLen w (n + m) old e h63
  refine ⟨⟨hlen, .inr ⟨w.heap.size, 0, _, _, rfl, heap_alloc_new w.drew _, hge, hcm, ?_, ?_⟩⟩, ⟨rfl, rfl, rfl, by simp, fun k hk _ => Below.heap_alloc w.drew _ k hk⟩⟩
  · simp only [Array.size_append, List.size_toArray, size_zeroCells, hzs, hown.1, hl, ← Nat.add_mul]
    rw [Nat.zero_add, Nat.add_sub_cancel' hge]
    exact Nat.le_refl _
  · intro j u hu
    have hj : j < (xs ++ news).length := (List.getElem?_eq_some_iff.1 hu).1
    rw [Nat.zero_add, Array.getElem?_append_left (by simpa using hj)]
    simpa using hu
 rcases hown.2 with ⟨rfl, rfl⟩ | ⟨g, off, cap, cur, rfl, hg, hnc, hcm, hcs, hcur⟩
 · have hx : xs = [] := List.eq_nil_of_length_eq_zero (by simpa using hown.1)
   subst hx
   by_cases hm : m = 0
   · subst hm
     have hn : news = [] := List.eq_nil_of_length_eq_zero (by simpa using hl)
     subst hn
     refine ⟨.slice none 0 0, w, ?_, OwnAt.nil_ w e i.size, ⟨rfl, rfl, rfl, Nat.le_refl _, fun _ _ _ => rfl⟩, .inl rfl⟩
     simp [Builtin.append_, run_underlying ht, sizeOf, typeInfo, hi, Builtin.lenOf, Builtin.firstCells, loadCells, loadCellsFrom]
   · have hr := run_append_nil (P := P) w t ty e i z ht hi hz a m c news hl hnews (by omega) (by omega) (by have hb := hbytes; simp only [Nat.zero_add] at hb; omega)
     have hgr := grown 0 (by omega) (Value.ownBlock (.slice none 0 0))
     simp only [Nat.zero_add, List.nil_append, Array.empty_append] at hgr ⊢
     exact ⟨_, _, hr, hgr.1, hgr.2, .inr rfl⟩
 · by_cases hroom : n + m ≤ cap
   · have hxl := hown.1
     have hmul : n * i.size + m * i.size ≤ cap * i.size := by rw [← Nat.add_mul]; exact Nat.mul_le_mul_right _ hroom
     have hf := run_firstCells_some (P := P) w i.size m a m c news hl hnews
     have hst := run_storeCells_at P g (off + n * i.size) e news 0 cur w hg (by omega) h1
     simp only [Nat.add_zero] at hst
     refine ⟨.slice (some ⟨g, off, none⟩) (n + m) cap, w.setRow g (cur.toList.take (off + n * i.size) ++ news ++ cur.toList.drop (off + n * i.size + news.length)).toArray, ?_, ⟨hlen, .inr ⟨g, off, cap, _, rfl, setRow_heap w g cur _ e _ hg, hroom, hcm, ?_, ?_⟩⟩,
      ⟨rfl, rfl, rfl, by simp, fun k _ hk => setRow_other w g k _ (fun e => hk (by simp [Value.ownBlock, e]))⟩, .inl rfl⟩
     · simp [Builtin.append_, run_underlying ht, sizeOf, typeInfo, hi, Builtin.lenOf, hroom, hf, addr_add_zero, hst]
     · simp only [List.size_toArray, List.length_append, List.length_take, List.length_drop, Array.length_toList]
       omega
     · intro j u hu
       have hj : j < (xs ++ news).length := (List.getElem?_eq_some_iff.1 hu).1
       rw [List.length_append] at hj
       have hs' : off + cap * i.size ≤ cur.toList.length := by simpa using hcs
       by_cases hjx : j < n * i.size
       · rw [List.getElem?_append_left (by omega)] at hu
         have := hcur j u hu
         simp only [List.getElem?_toArray]
         rw [List.append_assoc, List.getElem?_append_left (by simp; omega), List.getElem?_take, if_pos (by omega)]
         simpa using this
       · rw [List.getElem?_append_right (by omega)] at hu
         simp only [List.getElem?_toArray]
         rw [List.append_assoc, List.getElem?_append_right (by simp; omega), List.getElem?_append_left (by simp; omega)]
         rw [← hu]
         congr 1
         simp
         omega
   · have hholds : ∀ j u, xs[j]? = some u → w.cell? ((⟨g, off, none⟩ : Addr).add j) = some u := by
      intro j u hu
      rw [addr_add_zero, cell_of_row w g _ cur e (0, 0) hg]
      exact hcur j u hu
     have hr := run_append_grow (P := P) w t ty e i z ht hi hz ⟨g, off, none⟩ n cap xs hown.1 hholds a m c news hl hnews (by omega) (by omega) (growslice_fits (by omega) hbytes)
     have hgr := grown cap (by omega) (Value.ownBlock (.slice (some ⟨g, off, none⟩) n cap))
     exact ⟨_, _, hr, hgr.1, hgr.2, .inr rfl⟩
theorem wp_append_at {o : Oper} {a : Act} {K : Act → World → Prop} {Q : Exit → Act → World → Prop} (sx x : Operand) (t : TypeId)
 (ho : o.op = .call { callee := .builtin .append, args := #[sx, x], argTypes := #[t, t] })
 (e : TypeId) (i : TypeInfo) (z : Value) (s bytes : Nat) (ht : P.underlying t = some (.slice e)) (hi : P.info? e = some i) (hz : i.zero = some z)
 (hsize : i.size = s) (hby : i.bytes = bytes) (hzs : z.cells.size = s)
 (v : Value) (n : Nat) (xs : List Value) (hs : a.eval sx = v) (hown : OwnAt w e s v n xs)
 (ad : Addr) (m c : Nat) (news : List Value) (hx : a.eval x = .slice (some ad) m c) (hl : news.length = m * s) (hnews : ∀ j u, news[j]? = some u → w.cell? (ad.add j) = some u) (h1 : ∀ u ∈ news, u.oneCell' = true)
 (h63 : n + m ≤ maxLen) (hbytes : (n + m) * bytes ≤ 140737488355328)
 (h : ∀ v' w', OwnAt w' e s v' (n + m) (xs ++ news) → w.grownBy w' v.ownBlock → (v'.ownBlock = v.ownBlock ∨ v'.ownBlock = some w.heap.size) → K (a.put o.dst v') w') : o.wp P a w K Q := by
 obtain ⟨v', w', hr, h2, h3, h4⟩ := run_append_at (P := P) w t o.type e i z s bytes ht hi hz hsize hby hzs v n xs hown ad m c news hl hnews h1 h63 hbytes
 unfold Oper.wp execOp
 simp only [ho, resolve, invoke, builtin, Sem.run_bind, Sem.run_pure, Result.andThen_ok, List.map_toArray, List.map_cons, List.map_nil, hs, hx, hr]
 exact h v' w' h2 h3 h4
theorem wpList_append_at {ops : Array Oper} {rest : List Oper} {o : Oper} {a : Act} {Q : Exit → Act → World → Prop} (hgd : o.guard = none) (sx x : Operand) (t : TypeId)
 (ho : o.op = .call { callee := .builtin .append, args := #[sx, x], argTypes := #[t, t] })
 (e : TypeId) (i : TypeInfo) (z : Value) (s bytes : Nat) (ht : P.underlying t = some (.slice e)) (hi : P.info? e = some i) (hz : i.zero = some z)
 (hsize : i.size = s) (hby : i.bytes = bytes) (hzs : z.cells.size = s)
 (v : Value) (n : Nat) (xs : List Value) (hs : a.eval sx = v) (hown : OwnAt w e s v n xs)
 (ad : Addr) (m c : Nat) (news : List Value) (hx : a.eval x = .slice (some ad) m c) (hl : news.length = m * s) (hnews : ∀ j u, news[j]? = some u → w.cell? (ad.add j) = some u) (h1 : ∀ u ∈ news, u.oneCell' = true)
 (h63 : n + m ≤ maxLen) (hbytes : (n + m) * bytes ≤ 140737488355328)
 (h : ∀ v' w', OwnAt w' e s v' (n + m) (xs ++ news) → w.grownBy w' v.ownBlock → (v'.ownBlock = v.ownBlock ∨ v'.ownBlock = some w.heap.size) → wpList P ops Q rest (a.put o.dst v') w') : wpList P ops Q (o :: rest) a w :=
 wpList_plain hgd fun _ hK => wp_append_at w sx x t ho e i z s bytes ht hi hz hsize hby hzs v n xs hs hown ad m c news hx hl hnews h1 h63 hbytes fun v' w' h2 h3 h4 => hK _ _ (h v' w' h2 h3 h4)
theorem wpList_append_one {ops : Array Oper} {rest : List Oper} {o : Oper} {a : Act} {Q : Exit → Act → World → Prop} (hgd : o.guard = none) (sx x : Operand) (t : TypeId)
 (ho : o.op = .call { callee := .builtin .append, args := #[sx, x], argTypes := #[t, t] })
 (e : TypeId) (z : Value) (bytes : Nat) (ht : P.underlying t = some (.slice e)) (hinfo : (P.info? e).map (fun i => (i.zero, i.size, i.bytes)) = some (some z, 1, bytes)) (hzs : z.cells.size = 1)
 (v : Value) (n : Nat) (xs : List Value) (hs : a.eval sx = v) (hown : OwnAt w e 1 v n xs) (u : Value) (h1 : u.oneCell' = true) (E : TypeId)
 (hx : a.eval x = .slice (some ⟨w.heap.size, 0, none⟩) 1 1) (hn : n ≤ 1000000000) (hb : bytes ≤ 64)
 (h : ∀ v' w', OwnAt w' e 1 v' (n + 1) (xs ++ [u]) → (w.alloc (.cells #[u] E)).grownBy w' v.ownBlock → (v'.ownBlock = v.ownBlock ∨ v'.ownBlock = some (w.heap.size + 1)) → wpList P ops Q rest (a.put o.dst v') w') :
 wpList P ops Q (o :: rest) a (w.alloc (.cells #[u] E)) := by
 obtain ⟨i, hi, hz, hsz, hby⟩ := info_parts hinfo
 have hmul : (n + 1) * bytes ≤ (n + 1) * 64 := Nat.mul_le_mul_left _ hb
 refine wpList_append_at _ hgd sx x t ho e i z 1 bytes ht hi hz hsz hby hzs v n xs hs (hown.alloc _) _ 1 1 [u] hx rfl (cell_one_new _ _ _) (by simpa using h1) (by simp only [maxLen]; omega) (by omega) ?_
 intro v' w' h2 h3 h4
 exact h v' w' h2 h3 (by simpa using h4)
theorem run_append_src (t ty e : TypeId) (i : TypeInfo) (z : Value) (s bytes : Nat) (ht : P.underlying t = some (.slice e)) (hi : P.info? e = some i) (hz : i.zero = some z)
 (hsize : i.size = s) (hby : i.bytes = bytes) (hzs : z.cells.size = s) (hs0 : 0 < s)
 (v : Value) (n : Nat) (xs : List Value) (hown : OwnAt w e s v n xs)
 (A : Option Addr) (m c : Nat) (news : List Value) (hl : news.length = m * s) (hnews : ∀ j u, news[j]? = some u → ∃ ad : Addr, A = some ad ∧ w.cell? (ad.add j) = some u) (h1 : ∀ u ∈ news, u.oneCell' = true)
 (h63 : n + m ≤ maxLen) (hbytes : (n + m) * bytes ≤ 140737488355328) :
 ∃ v' w', (Builtin.append_ #[t, t] ty #[v, .slice A m c]).run P w = .ok v' w' ∧ OwnAt w' e s v' (n + m) (xs ++ news) ∧ w.grownBy w' v.ownBlock ∧
  (v'.ownBlock = v.ownBlock ∨ v'.ownBlock = some w.heap.size) := by
 cases A with
 | some a =>
  refine run_append_at w t ty e i z s bytes ht hi hz hsize hby hzs v n xs hown a m c news hl (fun j u hu => ?_) h1 h63 hbytes
  obtain ⟨ad, he, hc⟩ := hnews j u hu
  cases he
  exact hc
 | none =>
  have hn : news = [] := by
   cases news with
   | nil => rfl
   | cons u r => obtain ⟨_, he, _⟩ := hnews 0 u rfl; cases he
  subst hn
  have hm : m = 0 := by
   rcases Nat.eq_zero_or_pos m with h0 | h0
   · exact h0
   · have := Nat.mul_pos h0 hs0
     simp at hl; omega
  subst hm
  refine ⟨v, w, ?_, by simpa using hown, ⟨rfl, rfl, rfl, Nat.le_refl _, fun _ _ _ => rfl⟩, .inl rfl⟩
  rcases hown.2 with ⟨rfl, rfl⟩ | ⟨g, off, cap, cur, rfl, _, hnc, _⟩
  · simp [Builtin.append_, run_underlying ht, sizeOf, typeInfo, hi, Builtin.lenOf, Builtin.firstCells]
  · simp [Builtin.append_, run_underlying ht, sizeOf, typeInfo, hi, Builtin.lenOf, Builtin.firstCells, hnc, storeCells]
theorem wp_append_src {o : Oper} {a : Act} {K : Act → World → Prop} {Q : Exit → Act → World → Prop} (sx x : Operand) (t : TypeId)
 (ho : o.op = .call { callee := .builtin .append, args := #[sx, x], argTypes := #[t, t] })
 (e : TypeId) (z : Value) (s bytes : Nat) (ht : P.underlying t = some (.slice e)) (hinfo : (P.info? e).map (fun i => (i.zero, i.size, i.bytes)) = some (some z, s, bytes)) (hzs : z.cells.size = s) (hs0 : 0 < s)
 (v : Value) (n : Nat) (xs : List Value) (hs : a.eval sx = v) (hown : OwnAt w e s v n xs)
 (A : Option Addr) (m c : Nat) (news : List Value) (hx : a.eval x = .slice A m c) (hl : news.length = m * s) (hnews : ∀ j u, news[j]? = some u → ∃ ad : Addr, A = some ad ∧ w.cell? (ad.add j) = some u) (h1 : ∀ u ∈ news, u.oneCell' = true)
 (hn : n + m ≤ 1000000000) (hb : bytes ≤ 64)
 (h : ∀ v' w', OwnAt w' e s v' (n + m) (xs ++ news) → w.grownBy w' v.ownBlock → (v'.ownBlock = v.ownBlock ∨ v'.ownBlock = some w.heap.size) → K (a.put o.dst v') w') : o.wp P a w K Q := by
 obtain ⟨i, hi, hz, hsz, hby⟩ := info_parts hinfo
 have hmul : (n + m) * bytes ≤ (n + m) * 64 := Nat.mul_le_mul_left _ hb
 obtain ⟨v', w', hr, h2, h3, h4⟩ := run_append_src (P := P) w t o.type e i z s bytes ht hi hz hsz hby hzs hs0 v n xs hown A m c news hl hnews h1 (by simp only [maxLen]; omega) (by omega)
 unfold Oper.wp execOp
 simp only [ho, resolve, invoke, builtin, Sem.run_bind, Sem.run_pure, Result.andThen_ok, List.map_toArray, List.map_cons, List.map_nil, hs, hx, hr]
 exact h v' w' h2 h3 h4
theorem wpList_append_src {ops : Array Oper} {rest : List Oper} {o : Oper} {a : Act} {Q : Exit → Act → World → Prop} (hgd : o.guard = none) (sx x : Operand) (t : TypeId)
 (ho : o.op = .call { callee := .builtin .append, args := #[sx, x], argTypes := #[t, t] })
 (e : TypeId) (z : Value) (s bytes : Nat) (ht : P.underlying t = some (.slice e)) (hinfo : (P.info? e).map (fun i => (i.zero, i.size, i.bytes)) = some (some z, s, bytes)) (hzs : z.cells.size = s) (hs0 : 0 < s)
 (v : Value) (n : Nat) (xs : List Value) (hs : a.eval sx = v) (hown : OwnAt w e s v n xs)
 (A : Option Addr) (m c : Nat) (news : List Value) (hx : a.eval x = .slice A m c) (hl : news.length = m * s) (hnews : ∀ j u, news[j]? = some u → ∃ ad : Addr, A = some ad ∧ w.cell? (ad.add j) = some u) (h1 : ∀ u ∈ news, u.oneCell' = true)
 (hn : n + m ≤ 1000000000) (hb : bytes ≤ 64)
 (h : ∀ v' w', OwnAt w' e s v' (n + m) (xs ++ news) → w.grownBy w' v.ownBlock → (v'.ownBlock = v.ownBlock ∨ v'.ownBlock = some w.heap.size) → wpList P ops Q rest (a.put o.dst v') w') : wpList P ops Q (o :: rest) a w :=
 wpList_plain hgd fun _ hK => wp_append_src w sx x t ho e z s bytes ht hinfo hzs hs0 v n xs hs hown A m c news hx hl hnews h1 hn hb fun v' w' h2 h3 h4 => hK _ _ (h v' w' h2 h3 h4)
theorem step_append_src {ops : Array Oper} {o : Oper} {a : Act} {K : Act → World → Prop} {Q : Exit → Act → World → Prop} {E : Prop} (hgd : o.guard = none) (sx x : Operand) (t : TypeId)
 (ho : o.op = .call { callee := .builtin .append, args := #[sx, x], argTypes := #[t, t] })
 (e : TypeId) (z : Value) (s bytes : Nat) (ht : P.underlying t = some (.slice e)) (hinfo : (P.info? e).map (fun i => (i.zero, i.size, i.bytes)) = some (some z, s, bytes)) (hzs : z.cells.size = s) (hs0 : 0 < s)
 (v : Value) (n : Nat) (xs : List Value) (hs : a.eval sx = v) (hown : OwnAt w e s v n xs)
 (A : Option Addr) (m c : Nat) (news : List Value) (hx : a.eval x = .slice A m c) (hl : news.length = m * s) (hnews : ∀ j u, news[j]? = some u → ∃ ad : Addr, A = some ad ∧ w.cell? (ad.add j) = some u) (h1 : ∀ u ∈ news, u.oneCell' = true)
 (hn : n + m ≤ 1000000000) (hb : bytes ≤ 64)
 (h : ∀ v' w', OwnAt w' e s v' (n + m) (xs ++ news) → w.grownBy w' v.ownBlock → (v'.ownBlock = v.ownBlock ∨ v'.ownBlock = some w.heap.size) → K (a.put o.dst v') w') :
 if Region.wanted o (yielded ops a.tmps) = true then Oper.wp P o a w K Q else E := by
 rw [if_pos (by simp [Region.wanted, hgd])]
 exact wp_append_src w sx x t ho e z s bytes ht hinfo hzs hs0 v n xs hs hown A m c news hx hl hnews h1 hn hb h
theorem SlAt.cells {α : Type} {R : World → Value → α → Prop} {w : World} {A : Option Addr} {n : Nat} {xs : List α} (h : SlAt R w A n xs) :
 ∃ us : List Value, us.length = n ∧ (∀ j u, us[j]? = some u → ∃ ad : Addr, A = some ad ∧ w.cell? (ad.add j) = some u) ∧ ∀ (k : Nat) (x : α) (u : Value), xs[k]? = some x → us[k]? = some u → R w u x := by
 refine ⟨(List.range n).map fun k => (A.bind fun a => w.cell? (a.add k)).getD (.tuple #[]), by simp, fun j u hu => ?_, fun k x u hx hu => ?_⟩
 · have hj : j < n := by have := (List.getElem?_eq_some_iff.1 hu).1; simpa using this
   obtain ⟨x, b, off, u', _, rfl, _, hc, _⟩ := h.at_ hj
   refine ⟨⟨b, off, none⟩, rfl, ?_⟩
   rw [List.getElem?_map, List.getElem?_range hj] at hu
   simp only [Option.map_some, Option.bind_some, addr_add_zero, hc, Option.getD_some, Option.some.injEq] at hu
   rw [addr_add_zero, hc, hu]
 · have hk : k < n := by have := (List.getElem?_eq_some_iff.1 hu).1; simpa using this
   obtain ⟨b, off, u', rfl, _, hc, hr⟩ := h.2.2 k x hx
   rw [List.getElem?_map, List.getElem?_range hk] at hu
   simp only [Option.map_some, Option.bind_some, addr_add_zero, hc, Option.getD_some, Option.some.injEq] at hu
   rw [← hu]; exact hr
theorem madeCells_one (z : Value) (n : Nat) : madeCells #[z] n = Array.replicate n z := by
 apply Array.ext
 · simp [size_madeCells]
 · intro i h1 h2
   simp [madeCells, Nat.mod_one]
theorem run_make_n (t e : TypeId) (z : Value) (bytes : Nat) (ht : P.underlying t = some (.slice e)) (hinfo : (P.info? e).map (fun i => (i.zero, i.size, i.bytes)) = some (some z, 1, bytes)) (hz : z.cells = #[z])
 (kl kc : IntKind) (n : Nat) (C : Int) (hC : C = n) (hn : n ≤ 1000000000) (hb : bytes ≤ 64) (W : World) :
 (Instr.makeSlice t (.int kl C) (.int kc C)).run P W = .ok (.slice (some ⟨W.heap.size, 0, none⟩) n n) (W.alloc (.cells (Array.replicate n z) e)) := by
 obtain ⟨i, hi, hzz, hsz, hby⟩ := info_parts hinfo
 subst hC
 have hmul : i.bytes * n ≤ 64 * n := Nat.mul_le_mul_right _ (by rw [hby]; exact hb)
 have hbi : (i.bytes : Int) * (n : Int) ≤ 281474976710656 := by
  have h : ((i.bytes * n : Nat) : Int) ≤ 281474976710656 := by omega
  rwa [Int.natCast_mul] at h
 have hr := run_make (P := P) W t e i z ht hi hzz kl kc n n (by omega) (by omega) hbi (by omega)
 simp only [Int.toNat_natCast, hsz, Nat.mul_one, hz, madeCells_one] at hr
 exact hr
end
end
section
open Go.RowKit
theorem yL {α : Type} : (∀ (l : List α) (i : Nat) (a : α), l.toArray.setIfInBounds i a = (l.set i a).toArray) ∧ (∀ (x : α) (xs : List α) (a : α), (x :: xs).set 0 a = a :: xs) ∧ (∀ (x : α) (xs : List α) (i : Nat) (a : α), (x :: xs).set (i + 1) a = x :: xs.set i a) ∧ (∀ (xs : List α) (i : Nat) (h : i < xs.toArray.size), xs.toArray[i] = xs[i]'(by simpa using h)) ∧ (∀ (a : α) (l : List α) (i : Nat) (h : i + 1 < (a :: l).length), (a :: l)[i + 1] = l[i]'(Nat.lt_of_succ_lt_succ h)) ∧ (∀ (a : α) (l : List α) (h : 0 < (a :: l).length), (a :: l)[0] = a) :=
 ⟨fun _ _ _ => List.setIfInBounds_toArray .., fun _ _ _ => List.set_cons_zero .., fun _ _ _ _ => List.set_cons_succ .., fun _ _ h => List.getElem_toArray h, fun _ _ _ h => List.getElem_cons_succ _ _ _ h, fun _ _ h => List.getElem_cons_zero _ _ h⟩
theorem tk {P : Program} {ops : Array Oper} {Q : Exit → Act → World → Prop} {md : Region.Mode} {S : World → Prop} {oi : Oper} {fuel : Nat} {listed : Array Bool} {a : Act} {w : World} (i : Nat) (v : Value) (hS : S w)
 (hy : ∀ Y, S Y → (execOp a.eval oi).run P Y = .ok (.value v) Y) (h : wpAnyH P md ops Q S fuel (listed.setIfInBounds i true) (a.put oi.dst v) w)
 (hi : ops[i]? = some oi := by exact rfl) (hs : Region.noSelect ops = true := by kernel_rfl) (hf : Region.free md ops listed i = true := by kernel_rfl) (hr : (Region.ready md ops listed).contains i = true := by kernel_rfl)
 (hQ : ∀ c a w, Q (.panic c) (a.put oi.dst v) w → Q (.panic c) a w := by exact fun _ _ _ h => h) (hg : Region.wanted oi (yielded ops a.tmps) = true := by rfl) : wpAnyH P md ops Q S (fuel + 1) listed a w :=
 wpAnyH_take hi hs hf hr hQ (.inl ⟨hg, hy⟩) hS h
theorem rd {P : Program} {ops : Array Oper} {Q : Exit → Act → World → Prop} {md : Region.Mode} {S : World → Prop} {o : Oper} {fuel : Nat} {listed : Array Bool} {a : Act} {w : World} (i : Nat)
 (h : ∀ K' : Act → World → Prop, Shut (∀ a w, S w → (S w → wpAnyH P md ops Q S fuel (listed.setIfInBounds i true) a w) → K' a w) → if Region.wanted o (yielded ops a.tmps) = true then Oper.wp P o a w K' Q else K' (a.put o.dst undef) w)
 (hr : Region.ready md ops listed = [i] := by kernel_rfl) (ho : ops[i]? = some o := by exact rfl) : wpAnyH P md ops Q S (fuel + 1) listed a w :=
 wpAnyH_ready hr (by simp) (AllReadyH.cons ho h AllReadyH.nil)
theorem tc {α : Type} {x : Option α} {a b : α} (h : x = some a) (e : a = b := by kernel_rfl) : x = some b := h.trans (congrArg some e)
theorem gA {α : Type} {xs : Array α} {i : Nat} {b : α} (h : xs[i]? = some b) : ∃ h : i < xs.size, xs[i] = b := Array.getElem?_eq_some_iff.1 h
theorem al0 {W : World} {o : Obj} : Below W.heap.size W (W.alloc o) := (Below.refl _ _).alloc (Nat.le_refl _) _
theorem kH {p : Prop} (h : p) : RowKit.Hid p := h
end
end Go.Proofs.YtbiopedpceddeaaGreatDoor
section
section
namespace Go.Proofs.YtbiopedpceddeaaGreatDoor.B
def pw (n : Int) : Int := 2 ^ n.toNat
def isWd (n : Int) : Bool := decide (1 ≤ n) && decide (n ≤ 32)
def isW (n a : Int) : Bool := isWd n && decide (a < pw n)
theorem pw_pos (n : Int) : 0 < pw n := Int.pow_pos (by decide)
theorem pw_nat (n : Int) : pw n = ((2 ^ n.toNat : Nat) : Int) := by unfold pw; simp
theorem pw_mono {m n : Int} (h : m ≤ n) : pw m ≤ pw n := by
 rw [pw_nat, pw_nat]
 exact Int.ofNat_le.2 (Nat.pow_le_pow_right (by decide) (by omega))
theorem pw_32 : pw 32 = 4294967296 := by decide
theorem pw_le {n : Int} (h : n ≤ 32) : pw n ≤ 4294967296 := by rw [← pw_32]; exact pw_mono h
theorem isWd_iff {n : Int} : isWd n = true ↔ 1 ≤ n ∧ n ≤ 32 := by unfold isWd; simp
section
end
end Go.Proofs.YtbiopedpceddeaaGreatDoor.B
end
section
namespace Go.Proofs.YtbiopedpceddeaaGreatDoor
open Go.RowKit Go.MapKept Go.Maps
namespace AL
variable {κ α : Type} [DecidableEq κ]
def get : List (κ × α) → κ → Option α
 | [], _ => none
 | p :: l, k => if p.1 = k then some p.2 else get l k
def put : List (κ × α) → κ → α → List (κ × α)
 | [], k, a => [(k, a)]
 | p :: l, k, a => if p.1 = k then (k, a) :: l else p :: put l k a
theorem get_none {l : List (κ × α)} {k : κ} (h : ∀ p ∈ l, p.1 ≠ k) : get l k = none := by
 induction l with
 | nil => rfl
 | cons p l ih => rw [get, if_neg (h p (by simp)), ih (fun q hq => h q (by simp [hq]))]
theorem get_some {l : List (κ × α)} {k : κ} {a : α} {j : Nat} (hd : (l.map Prod.fst).Nodup) (h : l[j]? = some (k, a)) : get l k = some a := by
 induction l generalizing j with
 | nil => simp at h
 | cons p l ih =>
  rw [List.map_cons, List.nodup_cons] at hd
  cases j with
  | zero => simp at h; subst h; simp [get]
  | succ j =>
   simp at h
   have hm : k ∈ l.map Prod.fst := List.mem_map.2 ⟨(k, a), List.mem_of_getElem? h, rfl⟩
   rw [get, if_neg (fun e => hd.1 (by rw [e]; exact hm))]
   exact ih hd.2 h
theorem put_none {l : List (κ × α)} {k : κ} (h : ∀ p ∈ l, p.1 ≠ k) (a : α) : put l k a = l ++ [(k, a)] := by
 induction l with
 | nil => rfl
 | cons p l ih => rw [put, if_neg (h p (by simp)), ih (fun q hq => h q (by simp [hq]))]; rfl
theorem put_some {l : List (κ × α)} {k : κ} {a0 : α} {j : Nat} (hd : (l.map Prod.fst).Nodup) (h : l[j]? = some (k, a0)) (a : α) : put l k a = l.set j (k, a) := by
 induction l generalizing j with
 | nil => simp at h
 | cons p l ih =>
  rw [List.map_cons, List.nodup_cons] at hd
  cases j with
  | zero => simp at h; subst h; simp [put]
  | succ j =>
   simp at h
   have hm : k ∈ l.map Prod.fst := List.mem_map.2 ⟨(k, a0), List.mem_of_getElem? h, rfl⟩
   rw [put, if_neg (fun e => hd.1 (by rw [e]; exact hm)), ih hd.2 h]
   rfl
theorem get_put_same (l : List (κ × α)) (k : κ) (a : α) : get (put l k a) k = some a := by
 induction l with
 | nil => simp [put, get]
 | cons p l ih => unfold put; split <;> simp_all [get]
theorem get_put_other (l : List (κ × α)) {k k' : κ} (a : α) (h : k' ≠ k) : get (put l k a) k' = get l k' := by
 induction l with
 | nil => simp [put, get, Ne.symm h]
 | cons p l ih =>
  unfold put
  split
  · rename_i e; simp [get, e, Ne.symm h]
  · simp only [get, ih]
theorem mem_put {l : List (κ × α)} {k : κ} {a : α} {p : κ × α} (h : p ∈ put l k a) : p ∈ l ∨ p = (k, a) := by
 induction l with
 | nil => simpa [put] using h
 | cons q l ih =>
  unfold put at h
  split at h
  · rcases List.mem_cons.1 h with h | h
    · exact .inr h
    · exact .inl (by simp [h])
  · rcases List.mem_cons.1 h with h | h
    · exact .inl (by simp [h])
    · rcases ih h with h | h
      · exact .inl (by simp [h])
      · exact .inr h
theorem length_put (l : List (κ × α)) (k : κ) (a : α) : (put l k a).length = if get l k = none then l.length + 1 else l.length := by
 induction l with
 | nil => simp [put, get]
 | cons p l ih =>
  unfold put get
  split
  · simp
  · simp only [List.length_cons, ih]; split <;> simp_all
end AL
def MapEnt {κ α : Type} (P : Program) (kt : TypeId) (ek : κ → Value) (R : World → κ → Value → α → Prop) (w : World) (es : Array MapEntry) (l : List (κ × α)) : Prop :=
 ∀ (i : Nat) (k : κ) (a : α), l[i]? = some (k, a) → ∃ e : MapEntry, es.toList[i]? = some e ∧ e.key = ek k ∧ R w k e.val a ∧ ∃ kl, keyOf P kt (ek k) = some kl
def MapAt {κ α : Type} (P : Program) (kt : TypeId) (ek : κ → Value) (R : World → κ → Value → α → Prop) (w : World) (b : Nat) (l : List (κ × α)) : Prop :=
 ∃ (es : Array MapEntry) (clock : Nat), w.heap[b]? = some (.map es clock) ∧ Stamped es clock ∧ es.toList.length = l.length ∧
  MapEnt P kt ek R w es l
section
variable {κ α : Type} {P : Program} {kt et t : TypeId} {ek : κ → Value} {R : World → κ → Value → α → Prop} {w w' : World} {b : Nat} {l : List (κ × α)}
theorem MapAt.lt (h : MapAt P kt ek R w b l) : b < w.heap.size := by
 obtain ⟨es, clock, hb, _⟩ := h
 exact (gA hb).1
theorem MapAt.made (w : World) : MapAt P kt ek R (w.alloc (.map #[] 0)) w.heap.size [] :=
 ⟨#[], 0, heap_alloc_new w _, stamped_empty 0, by simp, by intro i k a h; simp at h⟩
theorem MapAt.keep {R' : World → κ → Value → α → Prop} (h : MapAt P kt ek R w b l) (hb : w'.heap[b]? = w.heap[b]?) (hR : ∀ k u a, R w k u a → R' w' k u a) : MapAt P kt ek R' w' b l := by
 obtain ⟨es, clock, h1, h2, h3, h4⟩ := h
 refine ⟨es, clock, hb.trans h1, h2, h3, fun i k a hi => ?_⟩
 obtain ⟨e, e1, e2, e3, e4⟩ := h4 i k a hi
 exact ⟨e, e1, e2, hR _ _ _ e3, e4⟩
theorem mapAt_entry {es : Array MapEntry} (hl : es.toList.length = l.length) {j : Nat} {e : MapEntry} (he : es.toList[j]? = some e) : ∃ k a, l[j]? = some (k, a) := by
 have hj : j < l.length := by rw [← hl]; exact (List.getElem?_eq_some_iff.1 he).1
 exact ⟨l[j].1, l[j].2, List.getElem?_eq_getElem hj⟩
theorem mapAt_nodup {es : Array MapEntry} {clock : Nat} (hs : Stamped es clock) (hl : es.toList.length = l.length)
 (h4 : MapEnt P kt ek R w es l) : (l.map Prod.fst).Nodup := by
 have hp := ((stamped_iff es clock).1 hs).2.2
 rw [List.Nodup, List.pairwise_map, List.pairwise_iff_getElem]
 intro i j hi hj hij e
 rw [List.pairwise_iff_getElem] at hp
 obtain ⟨ei, h1, h2, _⟩ := h4 i l[i].1 l[i].2 (List.getElem?_eq_getElem hi)
 obtain ⟨ej, h3, h5, _⟩ := h4 j l[j].1 l[j].2 (List.getElem?_eq_getElem hj)
 have := hp i j (by omega) (by omega) hij
 rw [List.getElem?_eq_getElem (by omega)] at h1 h3
 rw [Option.some.inj h1, Option.some.inj h3, h2, h5, e] at this
 exact this rfl
theorem MapAt.find (h : MapAt P kt ek R w b l) (K : Keyed P kt) (hinj : ∀ a b, ek a = ek b → a = b) {k : κ} {kl : Lit} (hkey : keyOf P kt (ek k) = some kl) :
 ∃ (es : Array MapEntry) (clock : Nat), w.heap[b]? = some (.map es clock) ∧ Stamped es clock ∧ es.toList.length = l.length ∧ (l.map Prod.fst).Nodup ∧
  MapEnt P kt ek R w es l ∧
  (((Instr.findKey kt (ek k) es.toList).run P w = .ok none w ∧ (∀ e ∈ es.toList, e.key ≠ ek k) ∧ ∀ p ∈ l, p.1 ≠ k) ∨
   ∃ j e a, (Instr.findKey kt (ek k) es.toList).run P w = .ok (some (j, e.val)) w ∧ es.toList[j]? = some e ∧ e.key = ek k ∧ l[j]? = some (k, a) ∧ R w k e.val a) := by
 obtain ⟨es, clock, hb, hs, hl, h4⟩ := h
 have hd := mapAt_nodup hs hl h4
 have hkeys : ∀ e ∈ es.toList, ∃ l, keyOf P kt e.key = some l := by
  intro e he
  obtain ⟨j, hj, rfl⟩ := List.mem_iff_getElem.1 he
  obtain ⟨k', a, hka⟩ := mapAt_entry hl (List.getElem?_eq_getElem hj)
  obtain ⟨e', h1, h2, _, kl', h5⟩ := h4 j k' a hka
  rw [List.getElem?_eq_getElem hj] at h1
  exact ⟨kl', by rw [Option.some.inj h1, h2]; exact h5⟩
 refine ⟨es, clock, hb, hs, hl, hd, h4, ?_⟩
 rcases K.find w hkey es.toList hkeys with ⟨h1, h2⟩ | ⟨j, e, h1, h2, h3⟩
 · refine .inl ⟨h1, h2, fun p hp e => ?_⟩
   obtain ⟨i, hi, rfl⟩ := List.mem_iff_getElem.1 hp
   obtain ⟨e', g1, g2, _⟩ := h4 i l[i].1 l[i].2 (List.getElem?_eq_getElem hi)
   exact h2 e' (List.mem_of_getElem? g1) (by rw [g2, e])
 · obtain ⟨k', a, hka⟩ := mapAt_entry hl h2
   obtain ⟨e', g1, g2, g3, _⟩ := h4 j k' a hka
   rw [h2] at g1
   obtain rfl := Option.some.inj g1
   obtain rfl : k' = k := hinj _ _ (by rw [← g2, h3])
   exact .inr ⟨j, e, a, h1, h2, h3, hka, g3⟩
variable [DecidableEq κ]
theorem MapAt.lookup (h : MapAt P kt ek R w b l) (K : Keyed P kt) (hinj : ∀ a b, ek a = ek b → a = b) (ht : P.underlying t = some (.map kt et)) {z : Value} (hz : (zeroValue et).run P w = .ok z w) {k : κ} {kl : Lit} (hkey : keyOf P kt (ek k) = some kl) :
 ∃ u, (Instr.lookup t (.map (some b)) (ek k) false).run P w = .ok u w ∧ (Instr.lookup t (.map (some b)) (ek k) true).run P w = .ok (.tuple #[u, .bool (AL.get l k).isSome]) w ∧
  ((AL.get l k = none ∧ u = z) ∨ ∃ a, AL.get l k = some a ∧ R w k u a) := by
 obtain ⟨es, clock, hb, hs, hl, hd, h4, hf⟩ := h.find K hinj hkey
 rcases hf with ⟨h1, h2, h3⟩ | ⟨j, e, a, h1, h2, h3, hka, hR⟩
 · refine ⟨z, ?_, ?_, .inl ⟨AL.get_none h3, rfl⟩⟩
   · simp [Instr.lookup, run_underlying ht, MapKept.run_getObj_map hb, K.check w _ hkey, h1, hz, Result.andThen]
   · simp [Instr.lookup, run_underlying ht, MapKept.run_getObj_map hb, K.check w _ hkey, h1, hz, Result.andThen, AL.get_none h3]
 · refine ⟨e.val, ?_, ?_, .inr ⟨a, AL.get_some hd hka, hR⟩⟩
   · simp [Instr.lookup, run_underlying ht, MapKept.run_getObj_map hb, K.check w _ hkey, h1, Result.andThen]
   · simp [Instr.lookup, run_underlying ht, MapKept.run_getObj_map hb, K.check w _ hkey, h1, Result.andThen, AL.get_some hd hka]
theorem MapAt.update (h : MapAt P kt ek R w b l) (K : Keyed P kt) (hinj : ∀ a b, ek a = ek b → a = b) (ht : P.underlying t = some (.map kt et)) {k : κ} {kl : Lit} (hkey : keyOf P kt (ek k) = some kl) (val : Value) :
 ∃ w', (Instr.mapUpdate t (.map (some b)) (ek k) val).run P w = .ok () w' ∧ w.grownBy w' (some b) ∧ w'.heap.size = w.heap.size ∧
  ∀ (R' : World → κ → Value → α → Prop) (a : α), (∀ k' u a', k' ≠ k → R w k' u a' → R' w' k' u a') → R' w' k val a → MapAt P kt ek R' w' b (AL.put l k a) := by
 obtain ⟨es, clock, hb, hs, hl, hd, h4, hf⟩ := h.find K hinj hkey
 rcases hf with ⟨h1, h2, h3⟩ | ⟨j, e0, a0, h1, h2, h3, hka, hR⟩
 · refine ⟨ChangeMaps.setBlock w b (.map (es.push ⟨ek k, val, clock⟩) (clock + 1)), ?_, ⟨rfl, rfl, rfl, by simp [ChangeMaps.setBlock], fun i _ hi => ChangeMaps.heap_setBlock_other hb _ (fun e => hi (by rw [e]))⟩, by simp [ChangeMaps.setBlock], ?_⟩
   · simp [Instr.mapUpdate, run_underlying ht, MapKept.run_getObj_map hb, K.check w false hkey, h1, MapKept.run_setObj_map _ hb, Result.andThen, ChangeMaps.setBlock]
   · intro R' a hR' hv
     refine ⟨_, _, ChangeMaps.heap_setBlock_same hb _, stamped_push hs h2, ?_, ?_⟩
     · rw [AL.put_none h3]; simp; simpa using hl
     · rw [AL.put_none h3]
       intro i k' a' hi
       by_cases hil : i < l.length
       · rw [List.getElem?_append_left hil] at hi
         obtain ⟨e, g1, g2, g3, g4⟩ := h4 i k' a' hi
         refine ⟨e, ?_, g2, hR' _ _ _ (h3 _ (List.mem_of_getElem? hi)) g3, g4⟩
         rw [Array.toList_push, List.getElem?_append_left (by omega)]
         exact g1
       · have hi2 : i < (l ++ [(k, a)]).length := (List.getElem?_eq_some_iff.1 hi).1
         simp at hi2
         obtain rfl : i = l.length := by omega
         simp at hi
         obtain ⟨rfl, rfl⟩ := hi
         refine ⟨⟨ek k, val, clock⟩, ?_, rfl, hv, kl, hkey⟩
         rw [Array.toList_push, List.getElem?_append_right (by omega), hl]
         simp
 · have hj : es[j]? = some e0 := by simpa using h2
   have hjl : j < es.toList.length := (List.getElem?_eq_some_iff.1 h2).1
   have hkeyf : ∀ e', es[j]? = some e' → ({ e' with key := ek k, val := val } : MapEntry).key = e'.key := fun e' he' => by rw [hj] at he'; cases he'; exact h3.symm
   have hlist : (es.modify j (fun e' => { e' with key := ek k, val := val })).toList = es.toList.set j { e0 with key := ek k, val := val } := by rw [Array.toList_modify, ChangeMaps.modify_eq_set _ _ _ _ h2]
   refine ⟨ChangeMaps.setBlock w b (.map (es.modify j (fun e' => { e' with key := ek k, val := val })) clock), ?_, ⟨rfl, rfl, rfl, by simp [ChangeMaps.setBlock], fun i _ hi => ChangeMaps.heap_setBlock_other hb _ (fun e => hi (by rw [e]))⟩, by simp [ChangeMaps.setBlock], ?_⟩
   · simp [Instr.mapUpdate, run_underlying ht, MapKept.run_getObj_map hb, K.check w false hkey, h1, hj, h3, K.stays w hkey, MapKept.run_setObj_map _ hb, Result.andThen, ChangeMaps.setBlock]
   · intro R' a hR' hv
     refine ⟨es.modify j (fun e' => { e' with key := ek k, val := val }), clock, ChangeMaps.heap_setBlock_same hb _, stamped_modify hs _ _ (fun _ _ => rfl) (fun e' _ he' => hkeyf e' he'), ?_, ?_⟩
     · rw [AL.put_some hd hka, hlist]; simp; simpa using hl
     · rw [AL.put_some hd hka]
       intro i k' a' hi
       rw [List.getElem?_set] at hi
       split at hi
       · rename_i hij
         subst hij
         split at hi
         · simp at hi
           obtain ⟨rfl, rfl⟩ := hi
           refine ⟨{ e0 with key := ek k, val := val }, ?_, rfl, hv, kl, hkey⟩
           rw [hlist, List.getElem?_set_self hjl]
         · cases hi
       · rename_i hij
         obtain ⟨e, g1, g2, g3, g4⟩ := h4 i k' a' hi
         refine ⟨e, ?_, g2, hR' _ _ _ ?_ g3, g4⟩
         · rw [hlist, List.getElem?_set_ne hij]; exact g1
         · rintro rfl
           refine hij ?_
           have hi' : i < (l.map Prod.fst).length := by rw [List.length_map]; exact (List.getElem?_eq_some_iff.1 hi).1
           have hj' : j < (l.map Prod.fst).length := by rw [List.length_map]; omega
           have a1 := (List.getElem?_eq_some_iff.1 hi).2
           have a2 := (List.getElem?_eq_some_iff.1 hka).2
           have hp := List.pairwise_iff_getElem.1 hd
           rcases Nat.lt_trichotomy j i with hlt | rfl | hlt
           · exact absurd (by simp only [List.getElem_map, a1, a2]) (hp j i hj' hi' hlt)
           · rfl
           · exact absurd (by simp only [List.getElem_map, a1, a2]) (hp i j hi' hj' hlt)
end
theorem wpList_mapUpdate_at {κ α : Type} [DecidableEq κ] {P : Program} {kt et t : TypeId} {ek : κ → Value} {R : World → κ → Value → α → Prop} {w : World} {b : Nat} {l : List (κ × α)}
 {ops : Array Oper} {rest : List Oper} {o : Oper} {a : Act} {Q : Exit → Act → World → Prop} (hg : o.guard = none) (m x v : Operand) (hop : o.op = Op.mapUpdate t m x v)
 (h : MapAt P kt ek R w b l) (K : Keyed P kt) (hinj : ∀ a b, ek a = ek b → a = b) (ht : P.underlying t = some (.map kt et)) (k : κ) (val : Value) {kl : Lit} (hkey : keyOf P kt (ek k) = some kl)
 (hm : a.eval m = .map (some b)) (hx : a.eval x = ek k) (hv : a.eval v = val)
 (hK : ∀ w', w.grownBy w' (some b) → w'.heap.size = w.heap.size → (∀ (R' : World → κ → Value → α → Prop) (a : α), (∀ k' u a', k' ≠ k → R w k' u a' → R' w' k' u a') → R' w' k val a → MapAt P kt ek R' w' b (AL.put l k a)) →
  wpList P ops Q rest (a.put o.dst undef) w') : wpList P ops Q (o :: rest) a w := by
 refine wpList_plain hg fun K' hK' => ?_
 obtain ⟨w', hrun, r1, r2, r3⟩ := h.update K hinj ht hkey val
 unfold Oper.wp
 simp [execOp, hop, hm, hx, hv, hrun, Result.andThen]
 exact hK' _ _ (hK w' r1 r2 r3)
end Go.Proofs.YtbiopedpceddeaaGreatDoor
end
section
namespace Go.Proofs.YtbiopedpceddeaaGreatDoor
open Go.RowKit
theorem ret_bool {a b : Bool} (h : a = b) : Ending.returned (.bool a) = .returned (.bool b) := by rw [h]
theorem ret_int {k : IntKind} {a b : Int} (h : a = b) : Ending.returned (.int k a) = .returned (.int k b) := by rw [h]
namespace B
theorem wrap64_id {x : Int} (h : -9223372036854775808 ≤ x) (h' : x ≤ 9223372036854775807) : wrap64 x = x := IntWalk.wrap64_in x ⟨h, h'⟩
end B
theorem isWidth_yes (n : Int) (w : World) (h0 : 1 ≤ n) (h1 : n ≤ 32) : Calls Tryz.prog 104 #[.int .i64 n] w fun e w' => e = .returned (.bool true) ∧ w = w' := by
 go_enter Tryz.func104, Tryz.ntmps104
 go_wp2
 go_ret
 exact ⟨rfl, rfl⟩
theorem isWidth_no (n : Int) (w : World) (h : n < 1 ∨ 32 < n) : Calls Tryz.prog 104 #[.int .i64 n] w fun e w' => e = .returned (.bool false) ∧ w = w' := by
 rcases h with h | h
 · go_enter Tryz.func104, Tryz.ntmps104
   go_wp2
   go_ret
   exact ⟨rfl, rfl⟩
 · have h1 : 1 ≤ n := by omega
   have hd : decide (n ≤ 32) = false := by simp; omega
   go_enter Tryz.func104, Tryz.ntmps104
   go_wp2
   go_ret
   exact ⟨rfl, rfl⟩
theorem isWidth_any (n : Int) (w : World) : Calls Tryz.prog 104 #[.int .i64 n] w fun e w' => e = .returned (.bool (B.isWd n)) ∧ w = w' := by
 cases h : B.isWd n
 · exact isWidth_no n w (by have : ¬ (1 ≤ n ∧ n ≤ 32) := fun hc => by rw [B.isWd_iff.2 hc] at h; cases h
                            omega)
 · have := B.isWd_iff.1 h
   exact isWidth_yes n w this.1 this.2
theorem mask_any (n : Int) (w : World) (h0 : 0 ≤ n) (h1 : n ≤ 32) : Calls Tryz.prog 105 #[.int .i64 n] w fun e w' => e = .returned (.int .u32 (B.pw n - 1)) ∧ w = w' := by
 go_enter Tryz.func105, Tryz.ntmps105
 go_wp2
 go_ret
 refine ⟨ret_int ?_, rfl⟩
 have e : (2 : Int) ^ n.toNat = B.pw n := rfl
 have hp := B.pw_pos n
 have hl := B.pw_le h1
 rw [e, IntKind.wrap_u64, IntKind.wrap_u64]
 omega
theorem Mask_any (n : Int) (w : World) : Calls Tryz.prog 100 #[.int .i64 n] w fun e w' => e = .returned (.tuple #[.int .u32 (if B.isWd n then B.pw n - 1 else 0), .int .i64 (if B.isWd n then 0 else 1)]) ∧ w = w' := by
 have H1 := kH (isWidth_any n w)
 cases h : B.isWd n
 · rw [h] at H1
   have Hh := kH h; clear h
   go_enter Tryz.func100, Tryz.ntmps100
   go_wp2_with fail
   refine H1.out.mono ?_
   rintro e w' ⟨rfl, rfl⟩
   go_wp2
   go_ret2
   exact ⟨rfl, rfl⟩
 · have hn := B.isWd_iff.1 h
   rw [h] at H1
   have H2 := kH (mask_any n w (by omega) hn.2)
   have Hh := kH h; clear h hn
   go_enter Tryz.func100, Tryz.ntmps100
   go_wp2_with fail
   refine H1.out.mono ?_
   rintro e w' ⟨rfl, rfl⟩
   go_wp2_with fail
   refine H2.out.mono ?_
   rintro e w' ⟨rfl, rfl⟩
   go_wp2
   go_ret2
   exact ⟨rfl, rfl⟩
end Go.Proofs.YtbiopedpceddeaaGreatDoor
end
section
namespace Go.Proofs.YtbiopedpceddeaaGreatDoor
open Go.RowKit
namespace B
end B
end Go.Proofs.YtbiopedpceddeaaGreatDoor
end
section
namespace Go.Proofs.YtbiopedpceddeaaGreatDoor
open Go.RowKit
end Go.Proofs.YtbiopedpceddeaaGreatDoor
end
section
namespace Go.Proofs.YtbiopedpceddeaaGreatDoor
open Go.RowKit Go.Maps Go.Shelf
theorem take_succ_of {α : Type} {xs : List α} {k : Nat} {x : α} (h : xs[k]? = some x) : xs.take (k + 1) = xs.take k ++ [x] := by
 rw [List.take_add_one, h]; rfl
theorem take_all {α : Type} {xs : List α} {n k : Nat} (hn : xs.length = n) (h : n ≤ k) : xs.take k = xs := List.take_of_length_le (by omega)
end Go.Proofs.YtbiopedpceddeaaGreatDoor
end
section
namespace Go.Proofs.YtbiopedpceddeaaGreatDoor
open Go.RowKit Go.Maps Go.Shelf
end Go.Proofs.YtbiopedpceddeaaGreatDoor
end
section
namespace Go.Proofs.YtbiopedpceddeaaGreatDoor
open Go.RowKit Go.Maps Go.Shelf
end Go.Proofs.YtbiopedpceddeaaGreatDoor
end
section
namespace Go.Proofs.YtbiopedpceddeaaGreatDoor
open Go.RowKit Go.Maps Go.Shelf
end Go.Proofs.YtbiopedpceddeaaGreatDoor
end
section
namespace Go.Proofs.YtbiopedpceddeaaGreatDoor.B
end Go.Proofs.YtbiopedpceddeaaGreatDoor.B
end
end
section
section
namespace Go.Proofs.YtbiopedpceddeaaGreatDoor
open Go.RowKit
theorem rsize_any (n : Int) (w : World) (h0 : 0 ≤ n) (h1 : n ≤ 32) : Calls Tryz.prog 119 #[.int .i64 n] w fun e w' => e = .returned (.int .i64 (B.pw n)) ∧ w = w' := by
 go_enter Tryz.func119, Tryz.ntmps119
 go_wp2
 go_ret
 refine ⟨ret_int ?_, rfl⟩
 have e : (2 : Int) ^ n.toNat = B.pw n := rfl
 have hp := B.pw_pos n
 have hl := B.pw_le h1
 simp only [e]
 exact B.wrap64_id (by omega) (by omega)
theorem risWidth_yes (n : Int) (w : World) (h0 : 1 ≤ n) (h1 : n ≤ 32) : Calls Tryz.prog 161 #[.int .i64 n] w fun e w' => e = .returned (.bool true) ∧ w = w' := by
 go_enter Tryz.func161, Tryz.ntmps161
 go_wp2
 go_ret
 exact ⟨rfl, rfl⟩
theorem risWidth_no (n : Int) (w : World) (h : n < 1 ∨ 32 < n) : Calls Tryz.prog 161 #[.int .i64 n] w fun e w' => e = .returned (.bool false) ∧ w = w' := by
 rcases h with h | h
 · go_enter Tryz.func161, Tryz.ntmps161
   go_wp2
   go_ret
   exact ⟨rfl, rfl⟩
 · have h1 : 1 ≤ n := by omega
   have hd : decide (n ≤ 32) = false := by simp; omega
   go_enter Tryz.func161, Tryz.ntmps161
   go_wp2
   go_ret
   exact ⟨rfl, rfl⟩
theorem not_wd {n : Int} (h : B.isWd n = false) : n < 1 ∨ 32 < n := by
 have : ¬ (1 ≤ n ∧ n ≤ 32) := fun hc => by rw [B.isWd_iff.2 hc] at h; cases h
 omega
theorem risWidth_any (n : Int) (w : World) : Calls Tryz.prog 161 #[.int .i64 n] w fun e w' => e = .returned (.bool (B.isWd n)) ∧ w = w' := by
 cases h : B.isWd n
 · exact risWidth_no n w (not_wd h)
 · have := B.isWd_iff.1 h
   exact risWidth_yes n w this.1 this.2
theorem isWord_any (n a : Int) (w : World) (h0 : 0 ≤ a) (h1 : a < 4294967296) : Calls Tryz.prog 112 #[.int .i64 n, .int .u32 a] w fun e w' => e = .returned (.bool (B.isW n a)) ∧ w = w' := by
 have H1 := kH (risWidth_any n w)
 cases h : B.isWd n
 · have hw : B.isW n a = false := by unfold B.isW; rw [h]; rfl
   rw [h] at H1
   rw [hw]
   clear h hw
   go_enter Tryz.func112, Tryz.ntmps112
   go_wp2_with fail
   refine H1.out.mono ?_
   rintro e w' ⟨rfl, rfl⟩
   go_wp2
   go_ret
   exact ⟨rfl, rfl⟩
 · have hn := B.isWd_iff.1 h
   have hw : B.isW n a = decide (a < B.pw n) := by unfold B.isW; rw [h]; rfl
   rw [h] at H1
   rw [hw]
   have H2 := kH (fun W => rsize_any n W (by omega) hn.2)
   clear h hn hw
   go_enter Tryz.func112, Tryz.ntmps112
   go_wp2_with fail
   refine H1.out.mono ?_
   rintro e w' ⟨rfl, rfl⟩
   go_wp2_with fail
   refine (H2.out _).mono ?_
   rintro e w' ⟨rfl, rfl⟩
   go_wp2
   go_ret
   exact ⟨rfl, rfl⟩
end Go.Proofs.YtbiopedpceddeaaGreatDoor
end
section
namespace Go.Proofs.YtbiopedpceddeaaGreatDoor
open Go.RowKit
end Go.Proofs.YtbiopedpceddeaaGreatDoor
end
section
namespace Go.Proofs.YtbiopedpceddeaaGreatDoor
open Go.RowKit
end Go.Proofs.YtbiopedpceddeaaGreatDoor
end
section
namespace Go.Proofs.YtbiopedpceddeaaGreatDoor
open Go.RowKit
end Go.Proofs.YtbiopedpceddeaaGreatDoor
end
section
namespace Go.Proofs.YtbiopedpceddeaaGreatDoor
open Go.RowKit
end Go.Proofs.YtbiopedpceddeaaGreatDoor
end
section
namespace Go.Proofs.YtbiopedpceddeaaGreatDoor
open Go.RowKit
end Go.Proofs.YtbiopedpceddeaaGreatDoor
end
end
section
section
namespace Go.Proofs.YtbiopedpceddeaaGreatDoor.K
theorem take_succ_at {α : Type} {xs : List α} {k : Nat} {x : α} (h : xs[k]? = some x) : xs.take (k + 1) = xs.take k ++ [x] := by
 rw [List.take_add_one, h]; rfl
end Go.Proofs.YtbiopedpceddeaaGreatDoor.K
end
section
namespace Go.Proofs.YtbiopedpceddeaaGreatDoor
open Go.ChangeShapes Go.WideShapes Go.ChangeAt Go.RowKit Go.Deep
section
variable {H : Type} {enc : TypeId × Value → H} {P : Program} {W : World}
def ReadsAs {α : Type} (enc : TypeId × Value → H) (P : Program) (W : World) (t : TypeId) (R : World → Value → α → Prop) : Prop :=
 ∀ n u x, DataW.trod enc P W 0 (fun _ => true) true n t [u] = some x → ∃ a, R W u a
theorem readsInt {t : TypeId} {q : IntKind} (ht : P.underlying t = some (.int q)) : ReadsAs enc P W t (IntR q) := by
 intro n u x h
 obtain ⟨m, e, _, _⟩ := DataW.trod_int ht h
 exact ⟨m, (List.cons.inj e).1⟩
theorem slAt_of_cells {α : Type} [Inhabited α] {R : World → Value → α → Prop} {t e : TypeId} (ht : P.underlying t = some (.slice e)) (hc : P.cellsOf e = 1) (hR : ReadsAs enc P W e R) {n : Nat} {u : Value} {x : DataW H × List MemPlace}
 (h : DataW.trod enc P W 0 (fun _ => true) true n t [u] = some x) : ∃ A m c xs, u = .slice A m c ∧ SlAt R W A m xs := by
 rcases open_slice1 ht hc h with ⟨e1, _⟩ | ⟨a, len, cap, m, k, V, D, Pl, e1, _, hl, hm, hmm, _, hV⟩
 · exact ⟨none, 0, 0, [], by simpa using e1, SlAt.nil_ _⟩
 · simp at hmm
   subst hmm
   obtain ⟨X, hX⟩ := choose_lt (α := α) (p := fun i y => R W (V i) y) (n := m) (fun i hi => hR k (V i) _ (hV i hi).2)
   refine ⟨some a, len, m, (List.range len).map X, by simpa using e1, by simp, ?_, fun j y hy => ?_⟩
   · simp only [maxLen] at hm; omega
   · have hj : j < len := by
      have := (List.getElem?_eq_some_iff.1 hy).1
      simpa using this
     have hy' : y = X j := by simpa [hj] using hy.symm
     obtain ⟨b, off, spot⟩ := a
     have h0 : spot = none := World.cell?_spot (v := V 0) (by simpa [Addr.add] using (hV 0 (by omega)).1)
     subst h0
     have hcell := (hV j (by omega)).1
     rw [add_plain] at hcell
     exact ⟨b, off, V j, rfl, World.block_lt_of_cell? _ _ hcell, hcell, by rw [hy']; exact hX j (by omega)⟩
theorem readsSl {α : Type} [Inhabited α] {R : World → Value → α → Prop} {t e : TypeId} (ht : P.underlying t = some (.slice e)) (hc : P.cellsOf e = 1) (hR : ReadsAs enc P W e R) : ReadsAs enc P W t (SlR R) := by
 intro n u x h
 obtain ⟨A, m, c, xs, rfl, hs⟩ := slAt_of_cells ht hc hR h
 obtain rfl := hs.len
 exact ⟨xs, SlR.mk_ hs⟩
theorem trodAll_stays (hl : laidOutB P = true) {W' : World} (hb : Below W.heap.size W W') {sp : Nat → Bool} : ∀ {ts : List TypeId} {vs : List Value} {ds : List (DataW H)} {ps : List MemPlace},
 (ts.all fun t => P.readableRec t && decide (t < P.types.size)) = true → DataW.TrodAll enc P W 0 (fun _ => true) true ts vs ds ps → (∀ x ∈ ps, x.block < W.heap.size) → (∀ x ∈ ps, sp x.block = true) → DataW.TrodAll enc P W' 0 sp true ts vs ds ps
 | [], vs, ds, ps, _, h, _, _ => by
  obtain ⟨rfl, rfl, rfl⟩ := trodAll_nil h
  exact trodAll_mk0
 | t :: ts, vs, ds, ps, hr, h, hlt, hsp => by
  obtain ⟨v, vs', d, ds', p, q, rfl, rfl, rfl, h1, h2⟩ := trodAll_cons h
  simp only [List.all_cons, Bool.and_eq_true, decide_eq_true_eq] at hr
  exact trodAll_cons_mk (WideElems.Trod_stays hl hr.1.1 hr.1.2 h1 (fun x hx => hb.same (hlt x (List.mem_append_left _ hx))) (fun x hx => hsp x (List.mem_append_left _ hx)))
   (trodAll_stays hl hb hr.2 h2 (fun x hx => hlt x (List.mem_append_right _ hx)) (fun x hx => hsp x (List.mem_append_right _ hx)))
theorem post_true {f : Func} {s : ChangeSpec} {W' : World} {args : Array Value} {ds gs : List (DataW H)} {before : List MemPlace} {tb : TypeId} {apart fresh handsOn : Bool} (hl : laidOutB P = true) (hv : s.vars = [])
 (hr : (f.params.toList.all fun t => P.readableRec t && decide (t < P.types.size)) = true)
 (hW : DataW.Whole enc P f.params.toList s.vars apart W args.toList ds gs before) (hs : s.fn H (ds ++ gs) = { results := [.lit (.bool true)], args := ds }) (hrt : f.resultTypes = #[tb]) (htb : P.underlying tb = some .bool)
 (hb : Below W.heap.size W W') : s.post enc P f apart fresh handsOn false W args (.bool true) W' := by
 have hW' := hW
 obtain ⟨p, q, hA, hV, rfl, hfz, hnd⟩ := hW
 rw [hv] at hV
 obtain ⟨rfl, rfl⟩ := trodVars_none hV
 have hlt : ∀ x ∈ p, x.block < W.heap.size := fun x hx => by have := hW'.lt x (by simpa using hx); exact this
 refine ⟨ds, [], p ++ [], [], p, [], hW', ?_, ?_, ?_, hb.frame _, fun h => by cases h⟩
 · rw [hs, hrt]; exact trodAll_cons_mk (shut_bool htb _) trodAll_mk0
 · rw [hs]; exact trodAll_stays hl hb hr hA hlt (fun x hx => by simpa using hlt x hx)
 · rw [hv, hs]; rfl
end
end Go.Proofs.YtbiopedpceddeaaGreatDoor
end
section
namespace Go.Proofs.YtbiopedpceddeaaGreatDoor
open Go.ChangeShapes Go.WideShapes Go.ChangeAt Go.RowKit Go.Deep
def StAt {α : Type} (s : Nat) (R : World → List Value → α → Prop) (w : World) (A : Option Addr) (n : Nat) (xs : List α) : Prop :=
 xs.length = n ∧ n ≤ 9223372036854775807 ∧ ∀ k x, xs[k]? = some x → ∃ b off us, A = some ⟨b, off, none⟩ ∧ b < w.heap.size ∧ us.length = s ∧ (∀ j u, us[j]? = some u → w.cell? ⟨b, off + k * s + j, none⟩ = some u) ∧ R w us x
def MonoL {α : Type} (R : World → List Value → α → Prop) : Prop := ∀ w w' us x, Below w.heap.size w w' → R w us x → R w' us x
section
variable {α : Type} {s : Nat} {R : World → List Value → α → Prop} {w w' : World} {A : Option Addr} {n : Nat} {xs : List α}
theorem StAt.len (h : StAt s R w A n xs) : xs.length = n := h.1
theorem StAt.le (h : StAt s R w A n xs) : n ≤ 9223372036854775807 := h.2.1
theorem StAt.at_ (h : StAt s R w A n xs) {k : Nat} (hk : k < n) : ∃ x b off us, xs[k]? = some x ∧ A = some ⟨b, off, none⟩ ∧ b < w.heap.size ∧ us.length = s ∧ (∀ j u, us[j]? = some u → w.cell? ⟨b, off + k * s + j, none⟩ = some u) ∧ R w us x := by
 obtain ⟨h1, _, h2⟩ := h
 have hl : k < xs.length := by omega
 obtain ⟨b, off, us, r⟩ := h2 k xs[k] (List.getElem?_eq_getElem hl)
 exact ⟨_, b, off, us, List.getElem?_eq_getElem hl, r⟩
theorem StAt.below (hR : MonoL R) (h : StAt s R w A n xs) (hb : Below w.heap.size w w') : StAt s R w' A n xs := by
 refine ⟨h.1, h.2.1, fun k x hx => ?_⟩
 obtain ⟨b, off, us, hA, hlt, hs, hc, hr⟩ := h.2.2 k x hx
 exact ⟨b, off, us, hA, Nat.lt_of_lt_of_le hlt hb.size, hs, fun j u hu => (hb.cell (p := ⟨b, off + k * s + j, none⟩) hlt).trans (hc j u hu), hR _ _ _ _ hb hr⟩
theorem StAt.nil_ (A : Option Addr) : StAt s R w A 0 ([] : List α) := ⟨rfl, by omega, fun k x h => by simp at h⟩
theorem OwnAt.stAt {e : TypeId} {c : Nat} {vs : List Value} {ys : List α} (h : OwnAt w e s (.slice A n c) n vs) (hl : ys.length = n)
 (hR : ∀ (k : Nat) (x : α), ys[k]? = some x → R w ((vs.drop (k * s)).take s) x) : StAt s R w A n ys := by
 refine ⟨hl, h.le, fun k x hx => ?_⟩
 have hk : k < ys.length := (List.getElem?_eq_some_iff.1 hx).1
 rcases h.2 with ⟨h1, h2⟩ | ⟨g, off, cap, cur, h1, hg, _, _, _, hcur⟩
 · omega
 · injection h1 with h1 _ _
   have hvl := h.1
   have hks : k * s + s ≤ n * s := by rw [← Nat.succ_mul]; exact Nat.mul_le_mul_right _ (by omega)
   refine ⟨g, off, (vs.drop (k * s)).take s, h1, (gA hg).1, by rw [List.length_take, List.length_drop]; omega, fun j u hu => ?_, hR k x hx⟩
   rw [cell_of_row w g _ cur e (0, 0) hg, Nat.add_assoc]
   refine hcur _ _ ?_
   rw [List.getElem?_take] at hu
   split at hu
   · rw [List.getElem?_drop] at hu; exact hu
   · cases hu
end
section
variable {H : Type} {enc : TypeId × Value → H} {P : Program} {W : World}
def ReadsSt {α : Type} (enc : TypeId × Value → H) (P : Program) (W : World) (fs : Array Field) (R : World → List Value → α → Prop) : Prop :=
 ∀ n (us : List Value), us.length = fs.size → (∀ (j : Nat) (f : Field), fs[j]? = some f → ∃ u y, us[j]? = some u ∧ DataW.trod enc P W 0 (fun _ => true) true n f.type [u] = some y) → ∃ a, R W us a
theorem stAt_of_cells {α : Type} [Inhabited α] {R : World → List Value → α → Prop} {t e : TypeId} {fs : Array Field} (ht : P.underlying t = some (.slice e)) (he : P.underlying e = some (.struct fs))
 (hone : oneCellFields P fs = true) (hC : P.cellsOf e = fs.size) (hs0 : 0 < fs.size) (hR : ReadsSt enc P W fs R) {n : Nat} {u : Value} {x : DataW H × List MemPlace}
 (h : DataW.trod enc P W 0 (fun _ => true) true n t [u] = some x) : ∃ A m c xs, u = .slice A m c ∧ StAt fs.size R W A m xs := by
 rcases open_slice ht h with ⟨e1, _⟩ | ⟨a, len, cap, m, k, D, Pl, e1, _, hl, hm, hmm, _, hV⟩
 · exact ⟨none, 0, 0, [], by simpa using e1, StAt.nil_ _⟩
 · simp at hmm
   subst hmm
   have each : ∀ i, i < m → ∃ q : α × List Value, q.2.length = fs.size ∧ (∀ j v, q.2[j]? = some v → W.cell? (a.add (i * fs.size + j)) = some v) ∧ R W q.2 q.1 := by
    intro i hi
    obtain ⟨cs', hc, ht'⟩ := hV i hi
    rw [hC] at hc
    obtain ⟨ys, n', hn', hy, hlen, hyl, hf⟩ := DataW.trod_struct he ht'
    obtain ⟨_, hcl, hat⟩ := World.cells?_some hc
    obtain ⟨y, hy'⟩ := hR n' cs' hcl (fun j f hj => by
     obtain ⟨ho, hk⟩ := hone_of hone j f hj
     have hjl : j < fs.size := (gA hj).1
     have h1 := hf j f hj
     rw [ho, hk] at h1
     have hone' : (cs'.drop j).take 1 = [cs'[j]'(by omega)] := by
      rw [List.drop_eq_getElem_cons (by omega)]
      rfl
     rw [hone'] at h1
     exact ⟨_, _, List.getElem?_eq_getElem (by omega), h1.trans (List.getElem?_eq_getElem (by omega))⟩)
    refine ⟨(y, cs'), hcl, fun j v hv => ?_, hy'⟩
    have hj : j < fs.size := by have := (List.getElem?_eq_some_iff.1 hv).1; simp at this; omega
    rw [← Go.Deep.add_add, hat j hj]
    exact hv
   obtain ⟨q, hq⟩ := choose_lt each
   refine ⟨some a, len, m, (List.range len).map fun i => (q i).1, by simpa using e1, by simp, ?_, fun j y hy => ?_⟩
   · simp only [maxLen] at hm; omega
   · have hj : j < len := by
      have := (List.getElem?_eq_some_iff.1 hy).1
      simpa using this
     have hy' : y = (q j).1 := by simpa [hj] using hy.symm
     obtain ⟨b, off, spot⟩ := a
     obtain ⟨h1, h2, h3⟩ := hq j (by omega)
     have hv : (q j).2[0]? = some ((q j).2[0]'(by omega)) := List.getElem?_eq_getElem (by omega)
     have hc0 := h2 0 _ hv
     have h0 : spot = none := by
      obtain ⟨g1, g2, _⟩ := hq 0 (by omega)
      have hv0 : (q 0).2[0]? = some ((q 0).2[0]'(by omega)) := List.getElem?_eq_getElem (by omega)
      have := World.cell?_spot (g2 0 _ hv0)
      simpa [Addr.add] using this
     subst h0
     rw [add_plain] at hc0
     refine ⟨b, off, (q j).2, rfl, World.block_lt_of_cell? _ _ hc0, h1, fun i v hv => ?_, by rw [hy']; exact h3⟩
     have := h2 i v hv
     rw [add_plain, ← Nat.add_assoc] at this
     exact this
theorem open_st {α : Type} [Inhabited α] {R : World → List Value → α → Prop} {r : Reach} {b0 : Nat} {t e : TypeId} {fs : Array Field} {v : Value} {d : DataW H} {ps : List MemPlace} (ht : P.underlying t = some (.slice e)) (he : P.underlying e = some (.struct fs))
 (hone : oneCellFields P fs = true) (hC : P.cellsOf e = fs.size) (hs0 : 0 < fs.size) (hR : ReadsSt enc P W fs R)
 (hval : Value.okWide P W r b0 t v) (h : DataW.Trod enc P W 0 (fun _ => true) true t v d ps) : ∃ A m c xs, v = .slice A m c ∧ StAt fs.size R W A m xs := by
 obtain ⟨A, m, c, rfl⟩ := okWide_slice ht hval
 obtain ⟨n, hn⟩ := h
 obtain ⟨A', m', c', xs, e, hs⟩ := stAt_of_cells ht he hone hC hs0 hR (u := .slice A m c) (by simpa [Value.cells] using hn)
 cases e
 exact ⟨A, m, c, xs, rfl, hs⟩
end
end Go.Proofs.YtbiopedpceddeaaGreatDoor
end
section
namespace Go.Proofs.YtbiopedpceddeaaGreatDoor
open Go.RowKit
theorem below_append {w0 w w' : World} {B : Nat} {v v' : Value} {o : Obj} (hb : Below B w0 w) (hB : B ≤ w.heap.size) (hv : ∀ g, v.ownBlock = some g → B ≤ g) (hg : (w.alloc o).grownBy w' v.ownBlock)
 (hat : v'.ownBlock = v.ownBlock ∨ v'.ownBlock = some (w.heap.size + 1)) : Below B w0 w' ∧ ∀ g, v'.ownBlock = some g → B ≤ g := by
 refine ⟨(hb.alloc hB o).grown hg (by simp; omega) hv, fun g hgv => ?_⟩
 rcases hat with h | h
 · exact hv g (by rw [← h]; exact hgv)
 · rw [h] at hgv; cases hgv; omega
theorem wpList_append_one' {P : Program} {w : World} {ops : Array Oper} {rest : List Oper} {o : Oper} {a : Act} {Q : Exit → Act → World → Prop} (hgd : o.guard = none) (sx x : Operand) (t : TypeId)
 (ho : o.op = .call { callee := .builtin .append, args := #[sx, x], argTypes := #[t, t] })
 (e : TypeId) (z : Value) (bytes : Nat) (ht : P.underlying t = some (.slice e)) (hinfo : (P.info? e).map (fun i => (i.zero, i.size, i.bytes)) = some (some z, 1, bytes)) (hzs : z.cells.size = 1)
 (v : Value) (n : Nat) (xs : List Value) (hs : a.eval sx = v) (hown : OwnAt w e 1 v n xs) (u : Value) (h1 : u.oneCell' = true) (E : TypeId) (p : Nat) (hp : p = w.heap.size)
 (hx : a.eval x = .slice (some ⟨p, 0, none⟩) 1 1) (hn : n ≤ 1000000000) (hb : bytes ≤ 64)
 (h : ∀ v' w', OwnAt w' e 1 v' (n + 1) (xs ++ [u]) → (w.alloc (.cells #[u] E)).grownBy w' v.ownBlock → (v'.ownBlock = v.ownBlock ∨ v'.ownBlock = some (w.heap.size + 1)) → wpList P ops Q rest (a.put o.dst v') w') :
 wpList P ops Q (o :: rest) a (w.alloc (.cells #[u] E)) := by
 subst hp
 exact wpList_append_one w hgd sx x t ho e z bytes ht hinfo hzs v n xs hs hown u h1 E hx hn hb h
theorem infoInt : (Tryz.prog.info? 3).map (fun i => (i.zero, i.size, i.bytes)) = some (some (.int .i64 0), 1, 8) := by kernel_rfl
end Go.Proofs.YtbiopedpceddeaaGreatDoor
end
section
namespace Go.Proofs.YtbiopedpceddeaaGreatDoor
open Go.RowKit
end Go.Proofs.YtbiopedpceddeaaGreatDoor
end
section
namespace Go.Proofs.YtbiopedpceddeaaGreatDoor
open Go.RowKit
theorem wpList_append_cells {P : Program} {w : World} {ops : Array Oper} {rest : List Oper} {o : Oper} {a : Act} {Q : Exit → Act → World → Prop} (hgd : o.guard = none) (sx x : Operand) (t : TypeId)
 (ho : o.op = .call { callee := .builtin .append, args := #[sx, x], argTypes := #[t, t] })
 (e : TypeId) (z : Value) (s bytes : Nat) (ht : P.underlying t = some (.slice e)) (hinfo : (P.info? e).map (fun i => (i.zero, i.size, i.bytes)) = some (some z, s, bytes)) (hzs : z.cells.size = s)
 (v : Value) (n : Nat) (xs : List Value) (hs : a.eval sx = v) (hown : OwnAt w e s v n xs) (cs : Array Value) (hcs : cs.size = s) (h1 : ∀ u ∈ cs.toList, u.oneCell' = true) (E : TypeId) (p : Nat) (hp : p = w.heap.size)
 (hx : a.eval x = .slice (some ⟨p, 0, none⟩) 1 1) (hn : n ≤ 1000000000) (hb : bytes ≤ 64)
 (h : ∀ v' w', OwnAt w' e s v' (n + 1) (xs ++ cs.toList) → (w.alloc (.cells cs E)).grownBy w' v.ownBlock → (v'.ownBlock = v.ownBlock ∨ v'.ownBlock = some (w.heap.size + 1)) → wpList P ops Q rest (a.put o.dst v') w') :
 wpList P ops Q (o :: rest) a (w.alloc (.cells cs E)) := by
 subst hp
 obtain ⟨i, hi, hz, hsz, hby⟩ := info_parts hinfo
 have hmul : (n + 1) * bytes ≤ (n + 1) * 64 := Nat.mul_le_mul_left _ hb
 refine wpList_append_at _ hgd sx x t ho e i z s bytes ht hi hz hsz hby hzs v n xs hs (hown.alloc _) _ 1 1 cs.toList hx (by simpa using hcs) (fun j u hu => ?_) h1 (by simp only [maxLen]; omega) (by omega) ?_
 · rw [addr_add_zero, Nat.zero_add, cell_of_row _ _ _ cs E (0, 0) (heap_alloc_new w _)]
   simpa using hu
 · intro v' w' h2 h3 h4
   exact h v' w' h2 h3 (by simpa using h4)
end Go.Proofs.YtbiopedpceddeaaGreatDoor
end
section
namespace Go.Proofs.YtbiopedpceddeaaGreatDoor
open Go.RowKit
end Go.Proofs.YtbiopedpceddeaaGreatDoor
end
section
namespace Go.Proofs.YtbiopedpceddeaaGreatDoor
open Go.RowKit
end Go.Proofs.YtbiopedpceddeaaGreatDoor
end
section
namespace Go.Proofs.YtbiopedpceddeaaGreatDoor
open Go.RowKit
namespace K
end K
end Go.Proofs.YtbiopedpceddeaaGreatDoor
end
end
