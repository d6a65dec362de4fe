/- Part. -/
import Derived.Test.YtbiopedpceddeaaGreatDoorQz17
import Derived.Deep.DeepCutAuto
import Derived.Stop.LaidErr
import Derived.Shelf.Vars
import Derived.HandedShaped
import Derived.Test.YtbiopedpceddeaaGreatDoorRows
import Derived.JoinedOf
set_option linter.unusedVariables false
set_option linter.unusedSimpArgs false
set_option maxRecDepth 100000
set_option maxHeartbeats 16000000
namespace Go.Proofs.YtbiopedpceddeaaGreatDoor
section
open Go.RowKit
namespace RF
theorem ownR_imm {B n c k : Nat} {A : Option Addr} {w : World} {nds : List T.Nd} (h : OwnR (NdF B) B w (.slice A n c) nds) (hn : nds.length = n) (hk : k < n) :
 ∃ x g off cur A2 c2, nds[k]? = some x ∧ A = some ⟨g, off, none⟩ ∧ B ≤ g ∧ w.heap[g]? = some (.cells cur 62 (0, 0)) ∧ (∀ (i : Nat) u, (ndC x A2 c2)[i]? = some u → cur[off + k * 5 + i]? = some u) ∧ (0 ≤ x.imm ∧ x.imm < 4294967296) ∧
  ∀ m : Int, 0 ≤ m → m < 4294967296 → OwnR (NdF B) B (w.setCell ⟨g, off + k * 5 + 4, none⟩ (.int .u32 m)) (.slice A n c) (nds.set k { x with imm := m }) := by
 subst hn
 have hh := h
 obtain ⟨cells, h1, h2, h3⟩ := h
 rcases h1.2 with ⟨e, h0⟩ | ⟨g, off, cap, cur, e, hg, q1, q2, q3, q4⟩
 · omega
 cases e
 have hx : nds[k]? = some nds[k] := List.getElem?_eq_getElem hk
 obtain ⟨A2, c2, e1, r1, i0, i1, r2⟩ := h2 k _ hx
 have hc : ∀ (i : Nat) u, (ndC nds[k] A2 c2)[i]? = some u → cur[off + k * 5 + i]? = some u := fun i u hu => by
  rw [← e1, List.getElem?_take] at hu
  split at hu
  · rw [List.getElem?_drop] at hu
    have := q4 _ u hu
    rwa [← Nat.add_assoc] at this
  · cases hu
 refine ⟨nds[k], g, off, cur, A2, c2, hx, rfl, h3 g rfl, hg, hc, ⟨i0, i1⟩, fun m m0 m1 => ?_⟩
 have hgr := setCell_grown w g (off + k * 5 + 4) (.int .u32 m)
 have hoth : ∀ g' cur' T fr, some g = some g' → w.heap[g']? = some (.cells cur' T fr) → T = 62 := fun g' cur' T fr e hcc => by
  injection e with e
  subst e
  rw [hg] at hcc
  injection hcc with hcc
  injection hcc with _ hcc _
  exact hcc.symm
 have hf' := NdF.other' (show NdF B w (ndC nds[k] A2 c2) nds[k] from ⟨A2, c2, rfl, r1, i0, i1, r2⟩) hgr hoth
 have hlt : off + k * 5 + 4 < cur.size := (gA (hc 4 _ rfl)).1
 exact OwnR.put (y := { nds[k] with imm := m }) (A2 := A2) (c2 := c2) hh rfl hk hg hgr (heap_setCell_same w g (off + k * 5 + 4) _ _ (.int .u32 m) hg) (by simp) (fun i hi => by
  rw [Array.getElem?_setIfInBounds, if_neg (by omega)]) (fun i u hu => by
  rw [Array.getElem?_setIfInBounds]
  rcases i with _ | _ | _ | _ | _ | i
  · rw [if_neg (by omega)]; exact hc 0 u hu
  · rw [if_neg (by omega)]; exact hc 1 u hu
  · rw [if_neg (by omega)]; exact hc 2 u hu
  · rw [if_neg (by omega)]; exact hc 3 u hu
  · rw [if_pos (by omega), if_pos (by omega)]; exact hu
  · simp [ndC] at hu) (by
  obtain ⟨A3, c3, e1, e2, _, _, e3⟩ := hf'
  simp only [ndC, List.cons.injEq, Value.slice.injEq] at e1
  obtain ⟨_, _, _, ⟨e4, _, e5⟩, _⟩ := e1
  subst e4 e5
  exact ⟨A2, c2, rfl, e2, m0, m1, e3⟩)
theorem ownR_otherN {B g : Nat} {w w' : World} {v : Value} {l : List T.Nd} {cur : Array Value} {fr : Nat × Nat} (h : OwnR (NdF B) B w v l) (hg : w.grownBy w' (some g)) (hr : w.heap[g]? = some (.cells cur 62 fr)) (hne : v.ownBlock ≠ some g) : OwnR (NdF B) B w' v l := by
 obtain ⟨cells, h1, h2, h3⟩ := h
 refine ⟨cells, h1.same fun g' hg' => ?_, fun k x hx => (h2 k x hx).other' hg (fun g2 cur2 T fr2 e hc => ?_), h3⟩
 · rcases h1.2 with ⟨rfl, _⟩ | ⟨g2, off, cap, cur', rfl, hcur, _⟩
   · simp [Value.ownBlock] at hg'
   · refine hg.block _ ?_ (fun e => hne (by injection e with e; rw [hg', e]))
     simp [Value.ownBlock] at hg'
     subst hg'
     exact (gA hcur).1
 · injection e with e
   subst e
   rw [hr] at hc
   injection hc with hc
   injection hc with _ hc _
   exact hc.symm
structure FSt (B gb : Nat) (v1 v2 v3 : Value) (L Q : List T.Nd) (P : List R.Cd) (w : World) : Prop where
 lo : B ≤ gb
 row : w.heap[gb]? = some (.cells #[v1, v2, v3] 101 (0, 0))
 o1 : OwnR (NdF B) B w v1 L
 o2 : OwnR (NdF B) B w v2 Q
 o3 : OwnC B w v3 P
 ne : ∀ g, v1.ownBlock = some g → v2.ownBlock ≠ some g
theorem FSt.lt {B gb : Nat} {v1 v2 v3 : Value} {L Q : List T.Nd} {P : List R.Cd} {w : World} (h : FSt B gb v1 v2 v3 L Q P w) : gb < w.heap.size := (gA h.row).1
theorem FSt.below {B gb : Nat} {v1 v2 v3 : Value} {L Q : List T.Nd} {P : List R.Cd} {w w' : World} (h : FSt B gb v1 v2 v3 L Q P w) (hb : Below w.heap.size w w') : FSt B gb v1 v2 v3 L Q P w' :=
 ⟨h.lo, (hb.block _ h.lt).trans h.row, h.o1.below (ndF_rel _) hb, h.o2.below (ndF_rel _) hb, h.o3.below hb, h.ne⟩
def lst (s : Nat) (v1 v2 : Value) : Value := if s = 0 then v1 else v2
def Fs (s B gb : Nat) (v1 v2 v3 : Value) (L Q l : List T.Nd) (w : World) : Prop := if s = 0 then FSt B gb v1 v2 v3 l Q [] w else FSt B gb v1 v2 v3 L l [] w
theorem Fs.own {s B gb : Nat} {v1 v2 v3 : Value} {L Q l : List T.Nd} {w : World} (h : Fs s B gb v1 v2 v3 L Q l w) : OwnR (NdF B) B w (lst s v1 v2) l := by
 unfold Fs at h
 unfold lst
 split <;> rename_i e
 · rw [if_pos e] at h; exact h.o1
 · rw [if_neg e] at h; exact h.o2
theorem Fs.row {s B gb : Nat} {v1 v2 v3 : Value} {L Q l : List T.Nd} {w : World} (h : Fs s B gb v1 v2 v3 L Q l w) : w.heap[gb]? = some (.cells #[v1, v2, v3] 101 (0, 0)) := by
 unfold Fs at h
 split at h
 · exact h.row
 · exact h.row
theorem Fs.below {s B gb : Nat} {v1 v2 v3 : Value} {L Q l : List T.Nd} {w w' : World} (h : Fs s B gb v1 v2 v3 L Q l w) (hb : Below w.heap.size w w') : Fs s B gb v1 v2 v3 L Q l w' := by
 unfold Fs at h ⊢
 split <;> rename_i e
 · rw [if_pos e] at h; exact h.below hb
 · rw [if_neg e] at h; exact h.below hb
theorem ownC_nodes {B g : Nat} {w w' : World} {v : Value} {P : List R.Cd} {cur : Array Value} {fr : Nat × Nat} (h : OwnC B w v P) (hg : w.grownBy w' (some g)) (hr : w.heap[g]? = some (.cells cur 62 fr)) : OwnC B w' v P :=
 h.other hg fun g2 cur2 T fr2 e hc => by
  injection e with e
  subst e
  rw [hr] at hc
  injection hc with hc
  injection hc with _ hc _
  rw [← hc]
  decide
theorem row_ne {w : World} {a b : Nat} {c1 c2 : Array Value} {T1 T2 : TypeId} {f1 f2 : Nat × Nat} (h1 : w.heap[a]? = some (.cells c1 T1 f1)) (h2 : w.heap[b]? = some (.cells c2 T2 f2)) (hT : T1 ≠ T2) : a ≠ b := fun e => by
 subst e
 rw [h1] at h2
 injection h2 with h2
 injection h2 with _ h2 _
 exact hT h2
theorem Fs.put {s B gb : Nat} {v1 v2 v3 : Value} {L Q l : List T.Nd} {w : World} {n c k : Nat} {A : Option Addr} (h : Fs s B gb v1 v2 v3 L Q l w) (hv : lst s v1 v2 = .slice A n c) (hn : l.length = n) (hk : k < n) :
 ∃ x g off cur A2 c2, l[k]? = some x ∧ A = some ⟨g, off, none⟩ ∧ B ≤ g ∧ w.heap[g]? = some (.cells cur 62 (0, 0)) ∧ (∀ (i : Nat) u, (ndC x A2 c2)[i]? = some u → cur[off + k * 5 + i]? = some u) ∧ (0 ≤ x.imm ∧ x.imm < 4294967296) ∧
  ∀ m : Int, 0 ≤ m → m < 4294967296 → Fs s B gb v1 v2 v3 L Q (l.set k { x with imm := m }) (w.setCell ⟨g, off + k * 5 + 4, none⟩ (.int .u32 m)) := by
 have ho := h.own
 rw [hv] at ho
 obtain ⟨x, g, off, cur, A2, c2, hx, hA, hB, hg, hc, hi, hp⟩ := ownR_imm ho hn hk
 refine ⟨x, g, off, cur, A2, c2, hx, hA, hB, hg, hc, hi, fun m m0 m1 => ?_⟩
 have hq := hp m m0 m1
 have hgr := setCell_grown w g (off + k * 5 + 4) (.int .u32 m)
 have hob : (lst s v1 v2).ownBlock = some g := by rw [hv, hA]; rfl
 have hrow := (hgr.block _ (gA h.row).1 (fun e => row_ne h.row hg (by decide) (by injection e with e))).trans h.row
 unfold Fs at h ⊢
 unfold lst at hob hv
 split <;> rename_i e
 · rw [if_pos e] at h hob hv
   rw [hv] at h ⊢
   rw [hv] at hob
   rw [hv] at hrow
   exact ⟨h.lo, hrow, hq, ownR_otherN h.o2 hgr hg (h.ne g hob), ownC_nodes h.o3 hgr hg, h.ne⟩
 · rw [if_neg e] at h hob hv
   rw [hv] at h ⊢
   rw [hv] at hob
   rw [hv] at hrow
   exact ⟨h.lo, hrow, ownR_otherN h.o1 hgr hg (fun e => h.ne g e hob), hq, ownC_nodes h.o3 hgr hg, h.ne⟩
theorem form_ne {w : World} {gb g : Nat} {c1 cur : Array Value} {T : TypeId} {fr : Nat × Nat} (e : some gb = some g) (h : w.heap[gb]? = some (.cells c1 101 (0, 0))) (hc : w.heap[g]? = some (.cells cur T fr)) : T ≠ 3 ∧ T ≠ 62 := by
 injection e with e
 subst e
 rw [h] at hc
 injection hc with hc
 injection hc with _ hc _
 subst hc
 exact ⟨by decide, by decide⟩
theorem cells5 {w : World} {g : Nat} {T : TypeId} {a0 a1 a2 a3 a4 : Value} (h : w.heap[g]? = some (.cells #[a0, a1, a2, a3, a4] T (0, 0))) : w.cell? ⟨g, 0, none⟩ = some a0 ∧ w.cell? ⟨g, 1, none⟩ = some a1 ∧ w.cell? ⟨g, 2, none⟩ = some a2 ∧ w.cell? ⟨g, 3, none⟩ = some a3 ∧ w.cell? ⟨g, 4, none⟩ = some a4 := by
 refine ⟨?_, ?_, ?_, ?_, ?_⟩ <;> rw [cell_of_row _ _ _ _ _ (0, 0) h] <;> rfl
theorem set_block {w : World} {g i b : Nat} {u : Value} (h : b ≠ g) (hb : b < w.heap.size) : (w.setCell ⟨g, i, none⟩ u).heap[b]? = w.heap[b]? :=
 (setCell_grown w g i u).block _ hb (fun e => h (by injection e with e))
theorem form_nc {w : World} {gb g : Nat} {c1 cur : Array Value} {T : TypeId} {fr : Nat × Nat} (e : some gb = some g) (h : w.heap[gb]? = some (.cells c1 101 (0, 0))) (hc : w.heap[g]? = some (.cells cur T fr)) : T ≠ 88 := by
 injection e with e
 subst e
 rw [h] at hc
 injection hc with hc
 injection hc with _ hc _
 subst hc
 decide
theorem infoCd : (Tryz.prog.info? 88).map (fun i => (i.zero, i.size, i.bytes)) = some (some (.agg #[.int .i64 0, .int .i64 0, .int .u32 0]), 3, 24) := by kernel_rfl
def Tab (w : World) (g : Nat) (s : List Int) : Prop := w.heap[g]? = some (.cells #[.int .i64 (KT.ix s 0), .int .i64 (KT.ix s 1)] 3 (0, 0))
theorem Tab.keep {w w' : World} {g : Nat} {s : List Int} (h : Tab w g s) (hk : w'.heap[g]? = w.heap[g]?) : Tab w' g s := hk.trans h
theorem Tab.lt {w : World} {g : Nat} {s : List Int} (h : Tab w g s) : g < w.heap.size := (gA h).1
theorem Tab.cell {w : World} {g : Nat} {s : List Int} (h : Tab w g s) {i : Int} (h0 : 0 ≤ i) (h2 : i < 2) : w.cell? ⟨g, i.toNat, none⟩ = some (.int .i64 (KT.ix s i)) := by
 rw [cell_of_row _ _ _ _ _ (0, 0) h]
 obtain rfl | rfl : i = 0 ∨ i = 1 := by omega
 · rfl
 · rfl
theorem Tab.meet {w : World} {g : Nat} {s : List Int} (h : Tab w g s) {i : Int} (h0 : 0 ≤ i) (h2 : i < 2) (hn : i ∉ s) : Tab (w.setCell ⟨g, i.toNat, none⟩ (.int .i64 (s.length : Int))) g (KT.meet s i) := by
 have := heap_setCell_same w g i.toNat _ _ (.int .i64 (s.length : Int)) h
 unfold Tab
 rw [this]
 obtain rfl | rfl : i = 0 ∨ i = 1 := by omega
 · rw [KT.ix_meet_same hn, KT.ix_meet_other hn (by decide)]
   rfl
 · rw [KT.ix_meet_same hn, KT.ix_meet_other hn (by decide)]
   rfl
theorem Fs.put2 {s B gb : Nat} {v1 v2 v3 : Value} {L Q l : List T.Nd} {w : World} {n c k : Nat} {A : Option Addr} (h : Fs s B gb v1 v2 v3 L Q l w) (hv : lst s v1 v2 = .slice A n c) (hn : l.length = n) (hk : k < n) :
 ∃ x g off cur A2 c2, l[k]? = some x ∧ A = some ⟨g, off, none⟩ ∧ B ≤ g ∧ w.heap[g]? = some (.cells cur 62 (0, 0)) ∧ (∀ (i : Nat) u, (ndC x A2 c2)[i]? = some u → cur[off + k * 5 + i]? = some u) ∧ (0 ≤ x.imm ∧ x.imm < 4294967296) ∧
  ∀ w', Below w.heap.size w w' → ∀ m : Int, 0 ≤ m → m < 4294967296 → Fs s B gb v1 v2 v3 L Q (l.set k { x with imm := m }) (w'.setCell ⟨g, off + k * 5 + 4, none⟩ (.int .u32 m)) := by
 obtain ⟨x, g, off, cur, A2, c2, hx, hA, hB, hg, hc, hi, _⟩ := h.put hv hn hk
 refine ⟨x, g, off, cur, A2, c2, hx, hA, hB, hg, hc, hi, fun w' hb m m0 m1 => ?_⟩
 obtain ⟨x', g', off', cur', A2', c2', hx', hA', _, _, _, _, hp⟩ := (h.below hb).put hv hn hk
 rw [hx] at hx'
 injection hx' with hx'
 subst hx'
 rw [hA] at hA'
 injection hA' with hA'
 injection hA' with h1 h2
 subst h1 h2
 exact hp m m0 m1
structure En (ga gh gl : Nat) (V U : List Int) (v1 v2 : Value) (w : World) : Prop where
 a : Tab w ga V
 h : Tab w gh U
 l : w.heap[gl]? = some (.cells #[v1, v2] 22 (0, 0))
theorem En.below {ga gh gl : Nat} {V U : List Int} {v1 v2 : Value} {w w' : World} (e : En ga gh gl V U v1 v2 w) (hb : Below w.heap.size w w') : En ga gh gl V U v1 v2 w' :=
 ⟨e.a.keep (hb.block _ e.a.lt), e.h.keep (hb.block _ e.h.lt), (hb.block _ (gA e.l).1).trans e.l⟩
theorem En.set {ga gh gl g i : Nat} {V U : List Int} {v1 v2 u : Value} {w : World} {cur : Array Value} {fr : Nat × Nat} (e : En ga gh gl V U v1 v2 w) (hg : w.heap[g]? = some (.cells cur 62 fr)) : En ga gh gl V U v1 v2 (w.setCell ⟨g, i, none⟩ u) :=
 ⟨e.a.keep (set_block (row_ne e.a hg (by decide)) e.a.lt), e.h.keep (set_block (row_ne e.h hg (by decide)) e.h.lt), (set_block (row_ne e.l hg (by decide)) (gA e.l).1).trans e.l⟩
theorem En.cell {ga gh gl s : Nat} {V U : List Int} {v1 v2 : Value} {w : World} (e : En ga gh gl V U v1 v2 w) (hs : s < 2) : w.cell? ⟨gl, s, none⟩ = some (lst s v1 v2) := by
 rw [cell_of_row _ _ _ _ _ (0, 0) e.l]
 unfold lst
 obtain rfl | rfl : s = 0 ∨ s = 1 := by omega
 · rfl
 · rfl
theorem set_next {l : List T.Nd} {f : T.Nd → T.Nd} {k : Nat} {x y : T.Nd} (hx : l[k]? = some x) (hy : f x = y) : ((l.take k).map f ++ l.drop k).set k y = (l.take (k + 1)).map f ++ l.drop (k + 1) := by
 have hk := (List.getElem?_eq_some_iff.1 hx).1
 have hm : min k l.length = k := by omega
 rw [List.set_append_right _ _ (by rw [List.length_map, List.length_take]; omega), List.length_map, List.length_take, hm, Nat.sub_self, List.drop_eq_getElem_cons hk, List.set_cons_zero, List.take_add_one, hx, List.map_append, List.append_assoc, ← hy]
 rfl
theorem next_same {l : List T.Nd} {f : T.Nd → T.Nd} {k : Nat} {x : T.Nd} (hx : l[k]? = some x) (hy : f x = x) : (l.take k).map f ++ l.drop k = (l.take (k + 1)).map f ++ l.drop (k + 1) := by
 have hk := (List.getElem?_eq_some_iff.1 hx)
 obtain ⟨hk, e⟩ := hk
 rw [List.drop_eq_getElem_cons hk, e, List.take_add_one, hx, List.map_append, List.append_assoc]
 simp [hy]
theorem map_get {l : List T.Nd} {f : T.Nd → T.Nd} {k : Nat} (hk : k < l.length) : ((l.take k).map f ++ l.drop k)[k]? = l[k]? := by
 have hm : min k l.length = k := by omega
 rw [List.getElem?_append_right (by rw [List.length_map, List.length_take]; omega), List.length_map, List.length_take, hm, Nat.sub_self, List.getElem?_drop, Nat.add_zero]
theorem ownC_snoc {B : Nat} {w' : World} {v' : Value} {cs : List R.Cd} {us : List Value} {y : R.Cd} (hl : us.length = cs.length * 3) (h2 : ∀ (k : Nat) (x : R.Cd), cs[k]? = some x → CdR w' ((us.drop (k * 3)).take 3) x) (hown : OwnAt w' 88 3 v' (cs.length + 1) (us ++ cdC y)) (hy : 0 ≤ y.imm ∧ y.imm < 4294967296) (hB : ∀ g, v'.ownBlock = some g → B ≤ g) : OwnC B w' v' (cs ++ [y]) := by
 refine ⟨us ++ cdC y, by rw [List.length_append]; exact hown, fun k x hx => ?_, hB⟩
 have hk := (List.getElem?_eq_some_iff.1 hx).1
 rw [List.length_append] at hk
 simp only [List.length_cons, List.length_nil] at hk
 by_cases e : k < cs.length
 · rw [List.getElem?_append_left e] at hx
   rw [List.drop_append_of_le_length (by omega), List.take_append_of_le_length (by rw [List.length_drop]; omega)]
   exact h2 k x hx
 · obtain rfl : k = cs.length := by omega
   rw [List.getElem?_append_right (Nat.le_refl _), Nat.sub_self] at hx
   simp only [List.getElem?_cons_zero, Option.some.injEq] at hx
   subst hx
   rw [← hl, List.drop_left]
   exact ⟨rfl, hy.1, hy.2⟩
theorem ownC_ty {B g : Nat} {w : World} {v : Value} {cs : List R.Cd} (h : OwnC B w v cs) (hg : v.ownBlock = some g) : ∃ cur, w.heap[g]? = some (.cells cur 88 (0, 0)) := by
 obtain ⟨us, h1, _⟩ := h
 rcases h1.2 with ⟨rfl, _⟩ | ⟨g', off, cap, cur, rfl, hcur, _⟩
 · simp [Value.ownBlock] at hg
 · simp [Value.ownBlock] at hg
   subst hg
   exact ⟨cur, hcur⟩
theorem FSt.app {B gb : Nat} {v1 v2 v3 v' : Value} {L Q : List T.Nd} {P : List R.Cd} {w wa w' : World} {us : List Value} {y : R.Cd} (h : FSt B gb v1 v2 v3 L Q P w) (hB : B ≤ w.heap.size) (hl : us.length = P.length * 3) (h2 : ∀ (k : Nat) (x : R.Cd), P[k]? = some x → CdR w' ((us.drop (k * 3)).take 3) x)
 (hb : Below w.heap.size w wa) (hgr : wa.grownBy w' v3.ownBlock) (hat : v'.ownBlock = v3.ownBlock ∨ ∃ n, v'.ownBlock = some n ∧ B ≤ n) (hown : OwnAt w' 88 3 v' (P.length + 1) (us ++ cdC y)) (hy : 0 ≤ y.imm ∧ y.imm < 4294967296) :
 w'.heap[gb]? = some (.cells #[v1, v2, v3] 101 (0, 0)) ∧ FSt B gb v1 v2 v' L Q (P ++ [y]) (w'.setCell ⟨gb, 2, none⟩ v') ∧ (∀ g s, Tab w g s → Tab (w'.setCell ⟨gb, 2, none⟩ v') g s) ∧ ∀ W1, Below B W1 w → Below B W1 (w'.setCell ⟨gb, 2, none⟩ v') := by
 have ha := h.below hb
 have hne : ∀ (g : Nat) (cur : Array Value) (T : TypeId) (fr : Nat × Nat), v3.ownBlock = some g → wa.heap[g]? = some (.cells cur T fr) → T = 88 := fun g cur T fr e hc => by
  obtain ⟨cur', hc'⟩ := ownC_ty ha.o3 e
  rw [hc'] at hc
  injection hc with hc
  injection hc with _ hc _
  exact hc.symm
 have hne2 : ∀ (g : Nat) (cur : Array Value) (T : TypeId) (fr : Nat × Nat), v3.ownBlock = some g → wa.heap[g]? = some (.cells cur T fr) → T ≠ 3 ∧ T ≠ 62 := fun g cur T fr e hc => by
  rw [hne g cur T fr e hc]
  exact ⟨by decide, by decide⟩
 have stay : ∀ (g : Nat) (cur : Array Value) (T : TypeId) (fr : Nat × Nat), T ≠ 88 → wa.heap[g]? = some (.cells cur T fr) → w'.heap[g]? = some (.cells cur T fr) := fun g cur T fr hT hc => (hgr.block _ (gA hc).1 (fun e => hT (hne g cur T fr e.symm hc))).trans hc
 have hrow := stay gb _ _ _ (by decide) ha.row
 have hs := setCell_grown w' gb 2 v'
 have hform : ∀ (g : Nat) (cur : Array Value) (T : TypeId) (fr : Nat × Nat), some gb = some g → w'.heap[g]? = some (.cells cur T fr) → T = 101 := fun g cur T fr e hc => by
  injection e with e
  subst e
  rw [hrow] at hc
  injection hc with hc
  injection hc with _ hc _
  exact hc.symm
 have hB' : ∀ g, v'.ownBlock = some g → B ≤ g := fun g hg => by
  rcases hat with e | ⟨n, e, hn⟩
  · rw [e] at hg
    obtain ⟨_, _, _, h3⟩ := h.o3
    exact h3 g hg
  · rw [e] at hg
    injection hg with hg
    omega
 refine ⟨hrow, ⟨h.lo, ?_, (ha.o1.other hgr hne2).other hs (fun g cur T fr e hc => form_ne e hrow hc), (ha.o2.other hgr hne2).other hs (fun g cur T fr e hc => form_ne e hrow hc), (ownC_snoc hl h2 hown hy hB').other hs (fun g cur T fr e hc => by rw [hform g cur T fr e hc]; decide), h.ne⟩, fun g s ht => ?_, fun W1 hW => ?_⟩
 · have := heap_setCell_same w' gb 2 _ _ v' hrow
   rw [this]
   rfl
 · have hta := ht.keep (hb.block _ ht.lt)
   have htb : Tab w' g s := stay g _ _ _ (by decide) hta
   exact htb.keep (set_block (row_ne htb hrow (by decide)) htb.lt)
 · have h3 : ∀ g, v3.ownBlock = some g → B ≤ g := by
    obtain ⟨_, _, _, h3⟩ := h.o3
    exact h3
   have hwa : Below B W1 wa := hW.trans (hb.mono hB)
   exact (hwa.grown hgr (Nat.le_trans hB hb.size) h3).setCell (p := ⟨gb, 2, none⟩) h.lo _
end RF
end
section
open Go.RowKit Go.Lib
namespace KT
theorem wpList_append_nodeR3 {R : World → List Value → T.Nd → Prop} {B : Nat} (hR : NdRel B R) {w : World} {ops : Array Oper} {rest : List Oper} {o : Oper} {a : Act} {Q : Exit → Act → World → Prop} (hgd : o.guard = none) (sx x : Operand)
 (ho : o.op = .call { callee := .builtin .append, args := #[sx, x], argTypes := #[22, 22] })
 (v : Value) (nds : List T.Nd) (hs : a.eval sx = v) (hown : OwnR R B w v nds) (us : List Value) (nd : T.Nd) (hnd : R w us nd) (p : Nat) (hp : p = w.heap.size)
 (hx : a.eval x = .slice (some ⟨p, 0, none⟩) 1 1) (hn : nds.length ≤ 900000) (hB : B ≤ w.heap.size)
 (h : ∀ v' w', OwnR R B w' v' (nds ++ [nd]) → (w.alloc (.cells us.toArray 62)).grownBy w' v.ownBlock → (v'.ownBlock = v.ownBlock ∨ v'.ownBlock = some (w.heap.size + 1)) → wpList Tryz.prog ops Q rest (a.put o.dst v') w') :
 wpList Tryz.prog ops Q (o :: rest) a (w.alloc (.cells us.toArray 62)) := by
 subst hp
 have hl : us.length = 5 := by obtain ⟨A, c, rfl, _⟩ := hR.form hnd; rfl
 have h1' : ∀ u ∈ us, u.oneCell' = true := by obtain ⟨A, c, rfl, _⟩ := hR.form hnd; exact ndC_one _ _ _
 have hba : Below w.heap.size w (w.alloc (.cells us.toArray 62)) := al0
 obtain ⟨cells, h1, h2, h3⟩ := id hown
 have hrow := (hown.below hR hba).row
 have hcl := h1.1
 refine wpList_append_src _ hgd sx x 22 ho 62 _ 5 56 Tryz.underlying22 infoNode rfl (by decide) v nds.length cells hs (h1.below hba h1.lt) _ 1 1 us hx (by rw [hl]) (src_new w us 62) h1' (by omega) (by decide) ?_
 intro v' w' hown' hgr hat
 refine h v' w' ⟨cells ++ us, by rw [List.length_append]; exact hown', ?_, ?_⟩ hgr (by simpa using hat)
 · intro k y hy
   rcases Nat.lt_or_ge k nds.length with hk | hk
   · rw [List.getElem?_append_left hk] at hy
     have e : ((cells ++ us).drop (k * 5)).take 5 = (cells.drop (k * 5)).take 5 := by
      rw [List.drop_append_of_le_length (by omega), List.take_append_of_le_length (by rw [List.length_drop]; omega)]
     rw [e]
     exact hR.grown (hR.below (h2 k y hy) hba) hgr hrow
   · rw [List.getElem?_append_right hk] at hy
     have hk0 : k = nds.length := by
      rcases Nat.eq_zero_or_pos (k - nds.length) with e | e
      · omega
      · rw [List.getElem?_eq_none (by simp; omega)] at hy; cases hy
     subst hk0
     simp at hy
     subst hy
     have e : ((cells ++ us).drop (nds.length * 5)).take 5 = us := by
      rw [← hcl, List.drop_left, List.take_of_length_le (by omega)]
     rw [e]
     exact hR.grown (hR.below hnd hba) hgr hrow
 · intro g hg
   rcases hat with e | e
   · exact h3 g (by rw [← e]; exact hg)
   · rw [e] at hg
     simp at hg
     omega
theorem ownR_lt {B : Nat} {w : World} {v : Value} {l : List T.Nd} (h : OwnR (NdF B) B w v l) : ∀ g, v.ownBlock = some g → g < w.heap.size := by
 obtain ⟨cells, h1, _⟩ := h
 exact h1.lt
theorem ownR_kept {B : Nat} {w w' : World} {v : Value} {l : List T.Nd} {row : Option Nat} (h : OwnR (NdF B) B w v l) (hg : w.grownBy w' row) (hr : ∀ g, row = some g → ∃ cur fr, w.heap[g]? = some (.cells cur 62 fr)) (hne : ∀ g, row = some g → v.ownBlock ≠ some g) : OwnR (NdF B) B w' v l := by
 cases row with
 | none => exact h.other hg fun _ _ _ _ e => by cases e
 | some g =>
  obtain ⟨cur, fr, hc⟩ := hr g rfl
  exact RF.ownR_otherN h hg hc (hne g rfl)
theorem ty_of {w : World} {g : Nat} {c1 c2 : Array Value} {T1 T2 : TypeId} {f1 f2 : Nat × Nat} (h1 : w.heap[g]? = some (.cells c1 T1 f1)) (h2 : w.heap[g]? = some (.cells c2 T2 f2)) : T1 = T2 := by
 rw [h1] at h2
 injection h2 with h2
 injection h2
structure RdSt (B gr : Nat) (vl vr vp : Value) (q : R.Rl) (W w : World) : Prop where
 lo : B ≤ gr
 row : w.heap[gr]? = some (.cells #[vl, vr, vp] 33 (0, 0))
 own : OwnRl B w vl vr vp q
 ne : ∀ g, vl.ownBlock = some g → vr.ownBlock ≠ some g
 b : Below B W w
def Fra (gr : Nat) (w w' : World) : Prop := ∀ i, i < w.heap.size → i ≠ gr → (∀ cur T fr, w.heap[i]? = some (.cells cur T fr) → T ≠ 62 ∧ T ≠ 88) → w'.heap[i]? = w.heap[i]?
section
variable {B gr : Nat} {vl vr vp v' : Value} {q : R.Rl} {W w wa w' : World}
theorem RdSt.lt (h : RdSt B gr vl vr vp q W w) : gr < w.heap.size := (gA h.row).1
theorem RdSt.below (h : RdSt B gr vl vr vp q W w) (hB : B ≤ w.heap.size) (hb : Below w.heap.size w w') : RdSt B gr vl vr vp q W w' :=
 ⟨h.lo, (hb.block _ h.lt).trans h.row, h.own.below hb, h.ne, h.b.trans (hb.mono hB)⟩
theorem rule_ne {g : Nat} {c1 cur : Array Value} {T : TypeId} {fr : Nat × Nat} (e : some gr = some g) (h : w.heap[gr]? = some (.cells c1 33 (0, 0))) (hc : w.heap[g]? = some (.cells cur T fr)) : T = 33 := by
 injection e with e
 subst e
 exact ty_of hc h
theorem RdSt.left (h : RdSt B gr vl vr vp q W w) {x : T.Nd} (hB : B ≤ w.heap.size) (hba : Below w.heap.size w wa) (hown : OwnR (NdF B) B w' v' (q.left ++ [x])) (hgr : wa.grownBy w' vl.ownBlock) (hat : v'.ownBlock = vl.ownBlock ∨ ∃ n, v'.ownBlock = some n ∧ w.heap.size ≤ n) :
 w'.heap[gr]? = some (.cells #[vl, vr, vp] 33 (0, 0)) ∧ RdSt B gr v' vr vp { q with left := q.left ++ [x] } W (w'.setCell ⟨gr, 0, none⟩ v') ∧ Fra gr w (w'.setCell ⟨gr, 0, none⟩ v') := by
 have ha := h.below hB hba
 have hr := fun g e => (ha.own.ol.row g e).2
 have stay : ∀ i, i < wa.heap.size → (∀ cur T fr, wa.heap[i]? = some (.cells cur T fr) → T ≠ 62) → w'.heap[i]? = wa.heap[i]? := fun i hi hT => hgr.block i hi fun e => by
  obtain ⟨cur, fr, hc⟩ := hr i e.symm
  exact hT cur _ fr hc rfl
 have hrow := (stay gr ha.lt fun cur T fr hc => by rw [rule_ne rfl ha.row hc]; decide).trans ha.row
 have hs := setCell_grown w' gr 0 v'
 have hnew : (w'.setCell ⟨gr, 0, none⟩ v').heap[gr]? = some (.cells #[v', vr, vp] 33 (0, 0)) := by
  have := heap_setCell_same w' gr 0 _ _ v' hrow
  rw [this]
  rfl
 refine ⟨hrow, ⟨h.lo, hnew, ⟨hown.other hs fun g cur T fr e hc => ?_, (ownR_kept ha.own.or_ hgr hr h.ne).other hs fun g cur T fr e hc => ?_, (ha.own.op.other hgr fun g cur T fr e hc => ?_).other hs fun g cur T fr e hc => ?_⟩, fun g hg => ?_, ?_⟩, fun i hi hne hT => ?_⟩
 · rw [rule_ne e hrow hc]; exact ⟨by decide, by decide⟩
 · rw [rule_ne e hrow hc]; exact ⟨by decide, by decide⟩
 · obtain ⟨cur', fr', hc'⟩ := hr g e
   rw [ty_of hc hc']; decide
 · rw [rule_ne e hrow hc]; decide
 · rcases hat with e | ⟨n, e, hn⟩
   · exact h.ne g (e ▸ hg)
   · rw [e] at hg
     injection hg with hg
     intro e2
     have := ownR_lt h.own.or_ g e2
     omega
 · exact (ha.b.grown hgr (Nat.le_trans hB hba.size) fun g e => (ha.own.ol.row g e).1).setCell (p := ⟨gr, 0, none⟩) h.lo _
 · have h1 := hba.block i hi
   have hi2 := Nat.lt_of_lt_of_le hi hba.size
   rw [RF.set_block hne (Nat.lt_of_lt_of_le hi2 hgr.size), stay i hi2 fun cur T fr hc => (hT cur T fr (h1 ▸ hc)).1, h1]
theorem RdSt.right (h : RdSt B gr vl vr vp q W w) {x : T.Nd} (hB : B ≤ w.heap.size) (hba : Below w.heap.size w wa) (hown : OwnR (NdF B) B w' v' (q.right ++ [x])) (hgr : wa.grownBy w' vr.ownBlock) (hat : v'.ownBlock = vr.ownBlock ∨ ∃ n, v'.ownBlock = some n ∧ w.heap.size ≤ n) :
 w'.heap[gr]? = some (.cells #[vl, vr, vp] 33 (0, 0)) ∧ RdSt B gr vl v' vp { q with right := q.right ++ [x] } W (w'.setCell ⟨gr, 1, none⟩ v') ∧ Fra gr w (w'.setCell ⟨gr, 1, none⟩ v') := by
 have ha := h.below hB hba
 have hr := fun g e => (ha.own.or_.row g e).2
 have stay : ∀ i, i < wa.heap.size → (∀ cur T fr, wa.heap[i]? = some (.cells cur T fr) → T ≠ 62) → w'.heap[i]? = wa.heap[i]? := fun i hi hT => hgr.block i hi fun e => by
  obtain ⟨cur, fr, hc⟩ := hr i e.symm
  exact hT cur _ fr hc rfl
 have hrow := (stay gr ha.lt fun cur T fr hc => by rw [rule_ne rfl ha.row hc]; decide).trans ha.row
 have hs := setCell_grown w' gr 1 v'
 have hnew : (w'.setCell ⟨gr, 1, none⟩ v').heap[gr]? = some (.cells #[vl, v', vp] 33 (0, 0)) := by
  have := heap_setCell_same w' gr 1 _ _ v' hrow
  rw [this]
  rfl
 refine ⟨hrow, ⟨h.lo, hnew, ⟨(ownR_kept ha.own.ol hgr hr fun g e e2 => h.ne g e2 e).other hs fun g cur T fr e hc => ?_, hown.other hs fun g cur T fr e hc => ?_, (ha.own.op.other hgr fun g cur T fr e hc => ?_).other hs fun g cur T fr e hc => ?_⟩, fun g hg => ?_, ?_⟩, fun i hi hne hT => ?_⟩
 · rw [rule_ne e hrow hc]; exact ⟨by decide, by decide⟩
 · rw [rule_ne e hrow hc]; exact ⟨by decide, by decide⟩
 · obtain ⟨cur', fr', hc'⟩ := hr g e
   rw [ty_of hc hc']; decide
 · rw [rule_ne e hrow hc]; decide
 · rcases hat with e | ⟨n, e, hn⟩
   · rw [e]
     exact h.ne g hg
   · rw [e]
     intro e2
     injection e2 with e2
     have := ownR_lt h.own.ol g hg
     omega
 · exact (ha.b.grown hgr (Nat.le_trans hB hba.size) fun g e => (ha.own.or_.row g e).1).setCell (p := ⟨gr, 1, none⟩) h.lo _
 · have h1 := hba.block i hi
   have hi2 := Nat.lt_of_lt_of_le hi hba.size
   rw [RF.set_block hne (Nat.lt_of_lt_of_le hi2 hgr.size), stay i hi2 fun cur T fr hc => (hT cur T fr (h1 ▸ hc)).1, h1]
theorem RdSt.cond (h : RdSt B gr vl vr vp q W w) {us : List Value} {y : R.Cd} (hB : B ≤ w.heap.size) (hba : Below w.heap.size w wa) (hl : us.length = q.pre.length * 3) (h2 : ∀ (k : Nat) (x : R.Cd), q.pre[k]? = some x → CdR w' ((us.drop (k * 3)).take 3) x) (hown : OwnAt w' 88 3 v' (q.pre.length + 1) (us ++ cdC y)) (hy : 0 ≤ y.imm ∧ y.imm < 4294967296) (hgr : wa.grownBy w' vp.ownBlock) (hat : v'.ownBlock = vp.ownBlock ∨ ∃ n, v'.ownBlock = some n ∧ w.heap.size ≤ n) :
 w'.heap[gr]? = some (.cells #[vl, vr, vp] 33 (0, 0)) ∧ RdSt B gr vl vr v' { q with pre := q.pre ++ [y] } W (w'.setCell ⟨gr, 2, none⟩ v') ∧ Fra gr w (w'.setCell ⟨gr, 2, none⟩ v') := by
 have ha := h.below hB hba
 have hr := fun g (e : vp.ownBlock = some g) => RF.ownC_ty ha.own.op e
 have hlo : ∀ g, vp.ownBlock = some g → B ≤ g := by
  obtain ⟨_, _, _, h3⟩ := h.own.op
  exact h3
 have stay : ∀ i, i < wa.heap.size → (∀ cur T fr, wa.heap[i]? = some (.cells cur T fr) → T ≠ 88) → w'.heap[i]? = wa.heap[i]? := fun i hi hT => hgr.block i hi fun e => by
  obtain ⟨cur, hc⟩ := hr i e.symm
  exact hT cur _ _ hc rfl
 have hrow := (stay gr ha.lt fun cur T fr hc => by rw [rule_ne rfl ha.row hc]; decide).trans ha.row
 have hs := setCell_grown w' gr 2 v'
 have hnew : (w'.setCell ⟨gr, 2, none⟩ v').heap[gr]? = some (.cells #[vl, vr, v'] 33 (0, 0)) := by
  have := heap_setCell_same w' gr 2 _ _ v' hrow
  rw [this]
  rfl
 have hB' : ∀ g, v'.ownBlock = some g → B ≤ g := fun g hg => by
  rcases hat with e | ⟨n, e, hn⟩
  · exact hlo g (e ▸ hg)
  · rw [e] at hg
    injection hg with hg
    omega
 refine ⟨hrow, ⟨h.lo, hnew, ⟨(ha.own.ol.other hgr fun g cur T fr e hc => ?_).other hs fun g cur T fr e hc => ?_, (ha.own.or_.other hgr fun g cur T fr e hc => ?_).other hs fun g cur T fr e hc => ?_, (RF.ownC_snoc hl h2 hown hy hB').other hs fun g cur T fr e hc => ?_⟩, h.ne, ?_⟩, fun i hi hne hT => ?_⟩
 · obtain ⟨cur', hc'⟩ := hr g e
   rw [ty_of hc hc']; exact ⟨by decide, by decide⟩
 · rw [rule_ne e hrow hc]; exact ⟨by decide, by decide⟩
 · obtain ⟨cur', hc'⟩ := hr g e
   rw [ty_of hc hc']; exact ⟨by decide, by decide⟩
 · rw [rule_ne e hrow hc]; exact ⟨by decide, by decide⟩
 · rw [rule_ne e hrow hc]; decide
 · exact (ha.b.grown hgr (Nat.le_trans hB hba.size) hlo).setCell (p := ⟨gr, 2, none⟩) h.lo _
 · have h1 := hba.block i hi
   have hi2 := Nat.lt_of_lt_of_le hi hba.size
   rw [RF.set_block hne (Nat.lt_of_lt_of_le hi2 hgr.size), stay i hi2 fun cur T fr hc => (hT cur T fr (h1 ▸ hc)).2, h1]
end
end KT
end
section
open Go.RowKit Go.Maps Go.Lib
theorem Kpm.of_belowN {B : Nat} {a b : World} (h : Below B a b) : Kpm (fun i => B ≤ i) a b := ⟨h.os, h.tape, h.output, h.size, fun i _ hm => h.block i (by omega)⟩
namespace KT
structure Lb (W : World) : Prop where
 tens : Tens W
 mlen : MLen W
 e5 : ErrAt W 5
 e6 : ErrAt W 6
theorem Lb.below {W W' : World} (h : Lb W) (hb : Below W.heap.size W W') : Lb W' := ⟨h.tens.below hb, h.mlen.below hb, h.e5.below hb, h.e6.below hb⟩
theorem splitK_mem (c : UInt8) : ∀ (k : Nat) (s x : List UInt8), x ∈ splitK [c] 0 k s → x.length ≤ s.length := by
 intro k
 induction k with
 | zero => intro s x h; rw [splitK, List.mem_singleton] at h; subst h; exact Nat.le_refl _
 | succ k ih =>
  intro s x h
  rw [splitK] at h
  split at h
  · rw [List.mem_singleton] at h; subst h; exact Nat.le_refl _
  · rcases List.mem_cons.1 h with rfl | h
    · exact List.length_take_le' _ _
    · exact Nat.le_trans (ih _ _ h) (by rw [List.length_drop]; omega)
theorem splitK_size (c : UInt8) : ∀ (k : Nat) (s : List UInt8), (splitK [c] 0 k s).length ≤ k + 1 := by
 intro k
 induction k with
 | zero => intro s; simp [splitK]
 | succ k ih =>
  intro s
  rw [splitK]
  split
  · simp
  · have := ih (s.drop ((index s [c]).toNat + [c].length))
    simp only [List.length_cons] at this ⊢
    omega
theorem splitN_len {c : UInt8} {s : List UInt8} {n : Nat} (hn : 1 ≤ n) : (Lib.splitN s [c] n).length ≤ n := by
 have := splitK_size c (min n (s.length + 1) - 1) s
 unfold Lib.splitN
 omega
theorem sl_set {w : World} {b g i n : Nat} {u : Value} {xs : List (List UInt8)} (h : SlAt StrR w (some ⟨b, 0, none⟩) n xs) (hne : b ≠ g) : SlAt StrR (w.setCell ⟨g, i, none⟩ u) (some ⟨b, 0, none⟩) n xs := by
 refine ⟨h.1, h.2.1, fun k x hx => ?_⟩
 obtain ⟨b', off, u', e, hlt, hc, hr⟩ := h.2.2 k x hx
 cases e
 refine ⟨_, _, u', rfl, by simpa using hlt, ?_, hr⟩
 unfold World.cell? at hc ⊢
 rw [RF.set_block hne hlt]
 exact hc
theorem own_of_row {w : World} {g n : Nat} {T : TypeId} {xs : List Value} (h : w.heap[g]? = some (.cells xs.toArray T (0, 0))) (hl : xs.length = n) (hn : n ≤ maxLen) : OwnAt w T 1 (.slice (some ⟨g, 0, none⟩) n n) n xs :=
 ⟨by omega, .inr ⟨g, 0, n, _, rfl, h, Nat.le_refl _, hn, by simp; omega, fun j u hu => by simpa using hu⟩⟩
def numsSo (ws : List (List UInt8)) (n j : Nat) : List Int := (ws.take j).map num ++ List.replicate (n - j) 0
theorem numsSo_set {ws : List (List UInt8)} {n j : Nat} {x : List UInt8} (hx : ws[j]? = some x) (hn : ws.length ≤ n) : (numsSo ws n j).set j (num x) = numsSo ws n (j + 1) := by
 have hj := (List.getElem?_eq_some_iff.1 hx).1
 unfold numsSo
 have e : List.replicate (n - j) (0 : Int) = 0 :: List.replicate (n - (j + 1)) 0 := by
  rw [show n - j = (n - (j + 1)) + 1 by omega, List.replicate_succ]
 rw [List.set_append_right _ _ (by rw [List.length_map, List.length_take]; omega), e, List.length_map, List.length_take, show j - min j ws.length = 0 by omega, List.set_cons_zero, List.take_add_one, hx, List.map_append, List.append_assoc]
 rfl
theorem numsSo_at {ws : List (List UInt8)} {n j : Nat} (hj : j < ws.length) (hn : ws.length ≤ n) : (numsSo ws n j)[j]? = some 0 := by
 unfold numsSo
 rw [List.getElem?_append_right (by rw [List.length_map, List.length_take]; omega), List.length_map, List.length_take, List.getElem?_replicate, if_pos (by omega)]
theorem parts_any {t : List UInt8} {n : Nat} (ht : t.length ≤ 1000000000) (hn : 1 ≤ n) (hn2 : n ≤ 1000) {W : World} (hL : Lb W) :
 Calls Tryz.prog 77 #[.string ⟨t.toArray⟩, .int .i64 (n : Int)] W fun e w' => ∃ v, e = .returned v ∧ OwnAt w' 3 1 v n ((partsOf t n).map (Value.int .i64)) ∧ Below W.heap.size W w' ∧ ∀ i, v.ownBlock = some i → W.heap.size ≤ i := by
 obtain ⟨W1, hW1⟩ : ∃ W1, W1 = W.alloc (.cells (Array.replicate n (.int .i64 0)) 3) := ⟨_, rfl⟩
 have hb1 : Below W.heap.size W W1 := by rw [hW1]; exact al0
 have hr1 : W1.heap[W.heap.size]? = some (.cells ((numsSo [] n 0).map (Value.int .i64)).toArray 3 (0, 0)) := by rw [hW1, heap_alloc_new]; simp [numsSo]
 have hmk := fun (W' : World) => run_make_n (P := Tryz.prog) 60 3 (.int .i64 0) 8 Tryz.underlying60 infoI rfl .i64 .i64 n (n : Int) rfl (by omega) (by omega) W'
 obtain ⟨ws, hws⟩ : ∃ ws, ws = Lib.splitN t [46] n := ⟨_, rfl⟩
 have hml : ws.length ≤ n := by rw [hws]; exact splitN_len hn
 have HC := kH (SplitN_any (c := 46) ht hn hn2 (hL.below hb1).mlen)
 rw [← hws] at HC
 have Hmem := kH (show ∀ x ∈ ws, x.length ≤ t.length from fun x hx => by rw [hws] at hx; exact splitK_mem _ _ _ _ hx)
 have HP := kH (show partsOf t n = numsSo ws n ws.length from by unfold partsOf numsSo; rw [hws, List.take_length])
 have Hs1 := kH (show W1.heap.size = W.heap.size + 1 from by rw [hW1]; simp)
 have HB1 := kH hb1
 have Hr1 := kH hr1
 have HL := kH (fun X (h : Below W.heap.size W X) => hL.below h)
 have HW1 := kH hW1
 clear hL hb1 hr1 hws hW1
 go_enter Tryz.func77, Tryz.ntmps77
 go_upto_region 2 with (fail)
 rw [← HW1.out]
 clear hmk
 go_wp2_with fail
 (with_reducible refine HC.out.mono ?_)
 rintro e w2 ⟨cc, rfl, hsl, hb2⟩
 have Hsl := kH hsl
 have Hb2 := kH (HB1.out.trans (hb2.mono HB1.out.size))
 have Hr2 := kH ((hb2.block _ (gA Hr1.out).1).trans Hr1.out)
 obtain ⟨m, hm⟩ : ∃ m, m = ws.length := ⟨_, rfl⟩
 have Hm := kH hm
 rw [← hm] at Hsl hml HP ⊢
 clear hsl hb2 HC hm
 go_wp2_with fail
 go_loopg [14] (m + 1) (fun gg s14 wr => ∃ j : Nat, j ≤ m ∧ s14 = .int .i64 (j : Int) ∧ gg + j = m + 1 ∧ Hid (wr.heap[W.heap.size]? = some (.cells ((numsSo ws n j).map (Value.int .i64)).toArray 3 (0, 0))) ∧ Hid (SlAt StrR wr (some ⟨W1.heap.size, 0, none⟩) m ws) ∧ Hid (Below W.heap.size W wr))
 case atStart => exact ⟨0, Nat.zero_le _, rfl, by omega, kH (by simpa [numsSo] using Hr2.out), Hsl, Hb2⟩
 case round =>
  obtain ⟨j, hj, rfl, hgk, Hr, Hs, Hb⟩ := hrel
  have Hgk := kH hgk
  clear hgk
  by_cases hjm : j < m
  · obtain ⟨x, b, off, u, hx, hAe, hlt, hc, hu⟩ := Hs.out.at_ hjm
    cases hAe
    have hu : u = .string ⟨x.toArray⟩ := hu
    subst hu
    rw [Nat.zero_add] at hc
    have Hx := kH hx
    have hxl := Hmem.out x (List.mem_of_getElem? hx)
    have HN := kH (number_any (t := x) (by omega) (HL.out _ Hb.out).e5 (HL.out _ Hb.out).e6)
    clear hx hlt hxl
    go_wp2_with fail
    (with_reducible refine HN.out.mono ?_)
    rintro e w3 ⟨rfl, hb3⟩
    have Hb3 := kH (Hb.out.trans (hb3.mono Hb.out.size))
    have hr3 := (hb3.block _ (gA Hr.out).1).trans Hr.out
    have Hr3 := kH hr3
    have Hs3 := kH (Hs.out.below monoStr hb3)
    have nf := frozen_row hr3 j
    have nc : w3.cell? ⟨W.heap.size, j, none⟩ = some (.int .i64 0) := by
     rw [cell_of_row _ _ _ _ _ (0, 0) hr3]
     have h1 := numsSo_at (ws := ws) (n := n) (j := j) (by have := Hm.out; omega) (by have := Hm.out; omega)
     simp only [List.getElem?_toArray, List.getElem?_map, h1, Option.map_some]
    clear hc HN hb3 hr3
    go_wp2_with fail
    go_roundg (gk - 1)
    case measure => have := Hgk.out; omega
    case rel =>
     have := Hgk.out
     have hs1 := Hs1.out
     refine ⟨j + 1, by omega, by go_num, by omega, kH ?_, kH (sl_set Hs3.out (by omega)), kH (Hb3.out.setCell (p := ⟨W.heap.size, j, none⟩) (Nat.le_refl _) _)⟩
     rw [heap_setCell_same _ _ _ _ _ _ Hr3.out, ← numsSo_set Hx.out (by have := Hm.out; omega), List.map_set]
     simp
  · obtain rfl : j = m := by omega
    go_wp2
    go_ret
    refine ⟨_, rfl, ?_, Hb.out, fun i hi => by simp [Value.ownBlock] at hi; omega⟩
    rw [HP.out]
    refine own_of_row Hr.out ?_ (by simp only [maxLen]; omega)
    rw [List.length_map]
    unfold numsSo
    rw [List.length_append, List.length_map, List.length_take, List.length_replicate]
    have := Hm.out
    omega
theorem cells5f {w : World} {g : Nat} {T : TypeId} {a0 a1 a2 a3 a4 : Value} (h : w.heap[g]? = some (.cells #[a0, a1, a2, a3, a4] T (0, 0))) : w.cell? ⟨g, 0, none⟩ = some a0 ∧ w.cell? ⟨g, 1, none⟩ = some a1 ∧ w.cell? ⟨g, 2, none⟩ = some a2 ∧ w.cell? ⟨g, 3, none⟩ = some a3 ∧ w.cell? ⟨g, 4, none⟩ = some a4 ∧ ∀ k, w.frozen? ⟨g, k, none⟩ = false := by
 refine ⟨?_, ?_, ?_, ?_, ?_, fun k => frozen_row h k⟩
 all_goals rw [cell_of_row _ _ _ _ _ (0, 0) h]; rfl
def set5 (w : World) (g : Nat) (a0 a1 a2 a3 a4 : Value) : World := ((((w.setCell ⟨g, 0, none⟩ a0).setCell ⟨g, 1, none⟩ a1).setCell ⟨g, 2, none⟩ a2).setCell ⟨g, 3, none⟩ a3).setCell ⟨g, 4, none⟩ a4
theorem set5_row {w : World} {g : Nat} {T : TypeId} {b0 b1 b2 b3 b4 : Value} (a0 a1 a2 a3 a4 : Value) (h : w.heap[g]? = some (.cells #[b0, b1, b2, b3, b4] T (0, 0))) : (set5 w g a0 a1 a2 a3 a4).heap[g]? = some (.cells #[a0, a1, a2, a3, a4] T (0, 0)) :=
 heap_setCell_same _ g 4 _ _ a4 (heap_setCell_same _ g 3 _ _ a3 (heap_setCell_same _ g 2 _ _ a2 (heap_setCell_same _ g 1 _ _ a1 (heap_setCell_same w g 0 _ _ a0 h))))
theorem set5_below {B : Nat} {W w : World} {g : Nat} (a0 a1 a2 a3 a4 : Value) (h : Below B W w) (hg : B ≤ g) : Below B W (set5 w g a0 a1 a2 a3 a4) :=
 ((((h.setCell (p := ⟨g, 0, none⟩) hg _).setCell (p := ⟨g, 1, none⟩) hg _).setCell (p := ⟨g, 2, none⟩) hg _).setCell (p := ⟨g, 3, none⟩) hg _).setCell (p := ⟨g, 4, none⟩) hg _
theorem own_cell {w : World} {A : Option Addr} {c n : Nat} {l : List Int} (h : OwnAt w 3 1 (.slice A n c) n (l.map (Value.int .i64))) {j : Nat} {x : Int} (hx : l[j]? = some x) : ∃ g off, A = some ⟨g, off, none⟩ ∧ w.cell? ⟨g, off + j, none⟩ = some (.int .i64 x) := by
 have hj := (List.getElem?_eq_some_iff.1 hx).1
 have hl := h.1
 rw [List.length_map] at hl
 rcases h.2 with ⟨e, h0⟩ | ⟨g, off, cap, cur, e, hg, q1, q2, q3, q4⟩
 · omega
 · cases e
   refine ⟨g, off, rfl, ?_⟩
   rw [cell_of_row _ _ _ _ _ (0, 0) hg]
   exact q4 j _ (by simp [hx])
theorem own_cellr {w : World} {A : Option Addr} {c n : Nat} {l : List Int} (h : OwnAt w 3 1 (.slice A n c) n (l.map (Value.int .i64))) {j : Nat} {x : Int} (hx : l[j]? = some x) : ∃ g off, A = some ⟨g, off, none⟩ ∧ w.cell? ⟨g, off + j, none⟩ = some (.int .i64 x) ∧ ∃ cur, w.heap[g]? = some (.cells cur 3 (0, 0)) := by
 have hj := (List.getElem?_eq_some_iff.1 hx).1
 have hl := h.1
 rw [List.length_map] at hl
 rcases h.2 with ⟨e, h0⟩ | ⟨g, off, cap, cur, e, hg, q1, q2, q3, q4⟩
 · omega
 · cases e
   refine ⟨g, off, rfl, ?_, cur, hg⟩
   rw [cell_of_row _ _ _ _ _ (0, 0) hg]
   exact q4 j _ (by simp [hx])
theorem partsOf_len {s : List UInt8} {n : Nat} (hn : 1 ≤ n) : (partsOf s n).length = n := by
 have := splitN_len (c := 46) (s := s) hn
 unfold partsOf
 rw [List.length_append, List.length_map, List.length_replicate]
 omega
theorem getD_some {l : List Int} {i : Nat} (h : i < l.length) : l[i]? = some (l.getD i 0) := by
 rw [List.getD_eq_getElem?_getD, List.getElem?_eq_getElem h]
 rfl
def NodePost (W : World) (x : T.Nd) (e : Ending) (w' : World) : Prop :=
 ∃ A c, e = .returned (.agg #[.int .i64 x.op, .int .i64 x.w, .int .i64 x.fl, .slice A x.args.length c, .int .u32 x.imm]) ∧ NdF W.heap.size w' (ndC x A c) x ∧ Below W.heap.size W w'
theorem node_any {t : List UInt8} (ht : t.length ≤ 900000) {W : World} (hL : Lb W) :
 Calls Tryz.prog 137 #[.string ⟨t.toArray⟩] W (NodePost W (nodeOf t)) := by
 obtain ⟨W1, hW1⟩ : ∃ W1, W1 = W.alloc (.cells #[.int .i64 0, .int .i64 0, .int .i64 0, .slice none 0 0, .int .u32 0] 62) := ⟨_, rfl⟩
 have hb1 : Below W.heap.size W W1 := by rw [hW1]; exact al0
 have hr1 : W1.heap[W.heap.size]? = some (.cells #[.int .i64 0, .int .i64 0, .int .i64 0, .slice none 0 0, .int .u32 0] 62 (0, 0)) := by rw [hW1]; exact heap_alloc_new W _
 have HC := kH (Cut_any (s := t) (c := 44) (by omega) (hL.below hb1).mlen)
 obtain ⟨hd, hhd⟩ : ∃ hd, hd = (Lib.cut t [44]).1 := ⟨_, rfl⟩
 obtain ⟨ar, har⟩ : ∃ ar, ar = (Lib.cut t [44]).2.1 := ⟨_, rfl⟩
 obtain ⟨hs, hhs⟩ : ∃ hs, hs = (Lib.cut t [44]).2.2 := ⟨_, rfl⟩
 have hlen : hd.length ≤ t.length ∧ ar.length ≤ t.length := by
  rw [hhd, har]
  rcases cut_cases 44 t with ⟨_, e⟩ | ⟨x, A, e1, _, e⟩
  · rw [e]; simp
  · rw [e, e1]; simp; omega
 rw [← hhd, ← har, ← hhs] at HC
 have HX := kH (show nodeOf t = { op := (partsOf hd 4).getD 0 0, w := (partsOf hd 4).getD 1 0, fl := (partsOf hd 4).getD 2 0, imm := (partsOf hd 4).getD 3 0, args := if hs = true then (Lib.split ar [44]).map num else [] } from by unfold nodeOf; rw [hhd, har, hhs])
 have HL := kH (fun X (h : Below W.heap.size W X) => hL.below h)
 have HB1 := kH hb1
 have Hr1 := kH hr1
 have HW1 := kH hW1
 have Hl1 := kH hlen.1
 have Hl2 := kH hlen.2
 clear hL hb1 hr1 hW1 hhd har hhs hlen
 go_enter Tryz.func137, Tryz.ntmps137
 go_upto_region 1 with (fail)
 rw [← HW1.out]
 go_wp2_with fail
 (with_reducible refine HC.out.mono ?_)
 rintro e w2 ⟨rfl, hdr⟩
 have Hb2 := kH (HB1.out.trans (hdr.below _))
 have HN := kH (show Calls Tryz.prog 77 #[.string ⟨hd.toArray⟩, .int .i64 4] w2 fun e w' => ∃ v, e = .returned v ∧ OwnAt w' 3 1 v 4 ((partsOf hd 4).map (Value.int .i64)) ∧ Below w2.heap.size w2 w' ∧ ∀ i, v.ownBlock = some i → w2.heap.size ≤ i from parts_any (t := hd) (n := 4) (by have := Hl1.out; omega) (by omega) (by omega) (HL.out _ Hb2.out))
 have Hr2 := kH (((hdr.below (W.heap.size + 1)).block _ (by omega)).trans Hr1.out)
 clear hdr HC
 go_wp2_with fail
 (with_reducible refine HN.out.mono ?_)
 rintro e w3 ⟨v, rfl, hown, hb3, hnw⟩
 obtain ⟨Av, cv, ev⟩ := hown.form
 subst ev
 obtain ⟨a0, ha0⟩ : ∃ a, a = (partsOf hd 4).getD 0 0 := ⟨_, rfl⟩
 obtain ⟨a1, ha1⟩ : ∃ a, a = (partsOf hd 4).getD 1 0 := ⟨_, rfl⟩
 obtain ⟨a2, ha2⟩ : ∃ a, a = (partsOf hd 4).getD 2 0 := ⟨_, rfl⟩
 obtain ⟨a3, ha3⟩ : ∃ a, a = (partsOf hd 4).getD 3 0 := ⟨_, rfl⟩
 have hpl := partsOf_len (s := hd) (n := 4) (by omega)
 obtain ⟨gv, ov, rfl, k0⟩ := own_cell hown (getD_some (show 0 < _ by omega))
 obtain ⟨_, _, e, k1⟩ := own_cell hown (getD_some (show 1 < _ by omega))
 cases e
 obtain ⟨_, _, e, k2⟩ := own_cell hown (getD_some (show 2 < _ by omega))
 cases e
 obtain ⟨_, _, e, k3⟩ := own_cell hown (getD_some (show 3 < _ by omega))
 cases e
 have ha3r := parts_u hd 4 3
 rw [← ha0] at k0
 rw [← ha1] at k1
 rw [← ha2] at k2
 rw [← ha3] at k3 ha3r
 have Hb3 := kH (Hb2.out.trans (hb3.mono Hb2.out.size))
 have Hr3 := kH ((hb3.block _ (gA Hr2.out).1).trans Hr2.out)
 have hwr : IntKind.u32.wrap a3 = a3 := by rw [IntKind.wrap_u32]; have := ha3r.1; have := ha3r.2; omega
 rw [← ha0, ← ha1, ← ha2, ← ha3] at HX
 have Hu3 := kH ha3r
 simp only [Nat.add_zero] at k0
 clear hown hb3 hnw hpl ha0 ha1 ha2 ha3 HN ha3r
 go_wp2_with fail
 refine wp_region_fr 14 1 (.cells #[.int .i64 0, .int .i64 0, .int .i64 0, .slice none 0 0, .int .u32 0] 62) ?af (by kernel_rfl) (by kernel_rfl) (by kernel_rfl) (by kernel_rfl) ?_ ?_ ?_
 rotate_left
 · intro i h1 h2
   obtain rfl : i = 14 := by omega
   exact ⟨_, rfl, rfl, fun ρ w => by go_simp⟩
 · intro X hX ov
   have c0 := ov.cell ((hX.cell (p := ⟨_, _, none⟩) (cell_below k0)).trans k0)
   have c1 := ov.cell ((hX.cell (p := ⟨_, _, none⟩) (cell_below k1)).trans k1)
   have c2 := ov.cell ((hX.cell (p := ⟨_, _, none⟩) (cell_below k2)).trans k2)
   have c3 := ov.cell ((hX.cell (p := ⟨_, _, none⟩) (cell_below k3)).trans k3)
   simp only [Nat.reduceAdd, List.take_succ_cons, List.take_zero]
   repeat (go_big_quiet_step (fail))
   refine wpQuiet_nil ?_
   rfl
 intro g w5 hb5 hrow hne
 obtain ⟨hg1, r1⟩ := hrow 14 (by omega) (by omega)
 simp only [List.range, List.range.loop, List.foldl_cons, List.foldl_nil, Nat.reduceAdd, Nat.add_zero]
 clear hrow hne
 generalize g 14 = gx at *
 obtain ⟨p0, p1, p2, p3, p4, pf⟩ := cells5f r1
 have pf0 := pf 0
 have pf1 := pf 1
 have pf2 := pf 2
 have pf3 := pf 3
 have pf4 := pf 4
 clear pf g k0 k1 k2 k3
 simp only [Nat.reduceAdd, List.drop_succ_cons, List.drop_zero, Rg.dst, Act.put]
 obtain ⟨w7, hw7⟩ : ∃ w7, w7 = set5 w5 gx (.int .i64 a0) (.int .i64 a1) (.int .i64 a2) (.slice none 0 0) (.int .u32 a3) := ⟨_, rfl⟩
 have Hgx := kH hg1
 have Hrx := kH (show w7.heap[gx]? = some (.cells #[.int .i64 a0, .int .i64 a1, .int .i64 a2, .slice none 0 0, .int .u32 a3] 62 (0, 0)) from by rw [hw7]; exact set5_row _ _ _ _ _ r1)
 have Hb7 := kH (show Below (w3).heap.size (w3) w7 from by rw [hw7]; exact set5_below _ _ _ _ _ hb5 hg1)
 clear hg1 r1 hb5
 unfold set5 at hw7
 go_upto_region 4 with (fail)
 rw [← hw7]
 clear hw7 p0 p1 p2 p3 p4 pf0 pf1 pf2 pf3 pf4
 have Hbx := kH (Hb3.out.trans (Hb7.out.mono Hb3.out.size))
 have Hr7' := kH ((Hb7.out.block _ (gA Hr3.out).1).trans Hr3.out)
 have Hfin := kH (show ∀ (args : List Int) (X : World) (A : Option Addr) (c : Nat), nodeOf t = ⟨a0, a1, a2, args, a3⟩ → X.heap[W.heap.size]? = some (.cells #[.int .i64 0, .int .i64 0, .int .i64 0, .slice none 0 0, .int .u32 0] 62 (0, 0)) → Below W.heap.size W X → OwnAt X 3 1 (.slice A args.length c) args.length (args.map (Value.int .i64)) → (∀ g, (Value.slice A args.length c).ownBlock = some g → W.heap.size + 1 ≤ g) →
  (set5 X W.heap.size (.int .i64 a0) (.int .i64 a1) (.int .i64 a2) (.slice A args.length c) (.int .u32 a3)).heap[W.heap.size]? = some (.cells #[.int .i64 a0, .int .i64 a1, .int .i64 a2, .slice A args.length c, .int .u32 a3] 62 (0, 0)) ∧ NodePost W (nodeOf t) (.returned (.agg #[.int .i64 a0, .int .i64 a1, .int .i64 a2, .slice A args.length c, .int .u32 a3])) (set5 X W.heap.size (.int .i64 a0) (.int .i64 a1) (.int .i64 a2) (.slice A args.length c) (.int .u32 a3)) from fun args X A c e hr hb ho hv => by
  refine ⟨set5_row _ _ _ _ _ hr, ?_⟩
  rw [e]
  refine ⟨A, c, rfl, ⟨A, c, rfl, ?_, Hu3.out.1, Hu3.out.2, fun g hg => by have := hv g hg; omega⟩, set5_below _ _ _ _ _ hb (Nat.le_refl _)⟩
  have key : ∀ k, (Value.slice A args.length c).ownBlock = some k → k ≠ W.heap.size := fun k hk => by have := hv k hk; omega
  unfold set5
  exact ((((ho.setCell (p := ⟨W.heap.size, 0, none⟩) (fun h => key _ h rfl) _).setCell (p := ⟨W.heap.size, 1, none⟩) (fun h => key _ h rfl) _).setCell (p := ⟨W.heap.size, 2, none⟩) (fun h => key _ h rfl) _).setCell (p := ⟨W.heap.size, 3, none⟩) (fun h => key _ h rfl) _).setCell (p := ⟨W.heap.size, 4, none⟩) (fun h => key _ h rfl) _)
 have Hgl7 := kH (gA Hrx.out).1
 have Hgw := kH (show W.heap.size < gx from by have h1 := Hgx.out; have h2 := (gA Hr3.out).1; omega)
 by_cases hhs : hs = true
 rotate_left
 · have q : hs = false := by simpa using hhs
   subst q
   have HX2 := kH (show nodeOf t = ⟨a0, a1, a2, [], a3⟩ from by rw [HX.out]; rfl)
   obtain ⟨p0, p1, p2, p3, p4⟩ := cells5' Hrx.out
   obtain ⟨z0, z1, z2, z3, z4, zf⟩ := cells5f Hr7'.out
   have zf0 := zf 0
   have zf1 := zf 1
   have zf2 := zf 2
   have zf3 := zf 3
   have zf4 := zf 4
   clear zf hhs
   go_wp2_with fail
   obtain ⟨f1, f2⟩ := Hfin.out [] w7 none 0 HX2.out Hr7'.out Hbx.out (OwnAt.nil_ _ _ _) (fun g hg => by simp [Value.ownBlock] at hg)
   (try simp only [Exit.inBlock, Exit.then])
   refine bodyPost_ret (results_cell_row rfl _ _ W.heap.size _ _ (0, 0) _ rfl f1 Tryz.underlying62 rfl (by kernel_rfl)) rfl ?_
   exact f2
 subst hhs
 obtain ⟨ws, hws⟩ : ∃ ws, ws = Lib.split ar [44] := ⟨_, rfl⟩
 have HX2 := kH (show nodeOf t = ⟨a0, a1, a2, ws.map num, a3⟩ from by rw [HX.out, if_pos rfl, hws])
 have HS := kH (Split_row (s := ar) (c := 44) (by have := Hl2.out; omega) (HL.out _ Hbx.out).mlen)
 rw [← hws] at HS
 have Hwl := kH (show ws.length ≤ 900001 from by rw [hws]; have := Hl2.out; have := split_size (c := 44) (s := ar); omega)
 have Hwm := kH (show ∀ x ∈ ws, x.length ≤ 900000 from fun x hx => by rw [hws] at hx; have := Hl2.out; have := splitK_mem _ _ _ _ hx; omega)
 clear hws
 go_wp2_with fail
 (with_reducible refine HS.out.mono ?_)
 rintro e w8 ⟨rfl, hrw, hb8⟩
 have Hrw := kH hrw
 have Hb8 := kH (Hbx.out.trans (hb8.mono Hbx.out.size))
 have Hr8 := kH ((hb8.block _ (gA Hr7'.out).1).trans Hr7'.out)
 have Hx8 := kH ((hb8.block _ Hgl7.out).trans Hrx.out)
 obtain ⟨m, hm⟩ : ∃ m, m = ws.length := ⟨_, rfl⟩
 have Hm := kH hm
 obtain ⟨gw, hgw⟩ : ∃ gw, gw = w7.heap.size := ⟨_, rfl⟩
 have Hgx8 := kH (show gx < gw from by rw [hgw]; exact Hgl7.out)
 have hml : m ≤ 900001 := by rw [hm]; exact Hwl.out
 rw [← hgw] at Hrw ⊢
 rw [← hm]
 obtain ⟨w7', rfl⟩ : ∃ w, w = w7 := ⟨_, rfl⟩
 clear hrw hb8 HS hgw Hb7 Hgl7 Hrx hm
 obtain ⟨w7, hw78⟩ : ∃ w, w = w8 := ⟨_, rfl⟩
 subst hw78
 have Hgl := kH (gA Hx8.out).1
 go_wp2_with fail
 go_loopg [36] (m + 1) (fun gg s36 wr => ∃ (jj : Nat) (va : Value), jj ≤ m ∧ s36 = .int .i64 (jj : Int) ∧ gg + jj = m + 1 ∧ Hid (wr.heap[gx]? = some (.cells #[.int .i64 a0, .int .i64 a1, .int .i64 a2, va, .int .u32 a3] 62 (0, 0))) ∧ Hid (OwnAt wr 3 1 va jj (((ws.take jj).map num).map (Value.int .i64))) ∧ Hid (∀ g, va.ownBlock = some g → w7.heap.size ≤ g) ∧ Hid (Kpm (fun i => i = gx) w7 wr))
 case atStart => exact ⟨0, _, Nat.zero_le _, rfl, by omega, Hx8, kH (OwnAt.nil_ _ _ _), kH (fun g hg => by simp [Value.ownBlock] at hg), kH (Kpm.refl _ _)⟩
 case round =>
  obtain ⟨jj, va, hj, rfl, hgk, Hrow, Ho, Hvo, Hkp⟩ := hrel
  have Hgk := kH hgk
  clear hgk
  obtain ⟨Ax, cx, hv⟩ := Ho.out.form
  subst hv
  have Hsz := kH Hkp.out.size
  have hrw := (Hkp.out.block gw (gA Hrw.out).1 (by have := Hgx8.out; omega)).trans Hrw.out
  have Hbr := kH (show Below W.heap.size W wr from Hb8.out.trans (Hkp.out.below Hb8.out.size (fun i (hi : i = gx) => by have := Hgw.out; omega)))
  by_cases hjm : jj < m
  · have hx := List.getElem?_eq_getElem (show jj < ws.length by have := Hm.out; omega)
    obtain ⟨x, hxe⟩ : ∃ x, x = ws[jj]'(by have := Hm.out; omega) := ⟨_, rfl⟩
    rw [← hxe] at hx
    have hc : wr.cell? ⟨gw, jj, none⟩ = some (.string ⟨x.toArray⟩) := by
     rw [cell_of_row _ _ _ _ _ (0, 0) hrw]
     simp [ss, hx]
    have Hx := kH hx
    have Hxl := kH (Hwm.out x (List.mem_of_getElem? hx))
    have HN := kH (show ∀ Y, Below wr.heap.size wr Y → Calls Tryz.prog 139 #[.string ⟨x.toArray⟩] Y fun e w' => e = .returned (.int .i64 (num x)) ∧ Below Y.heap.size Y w' from fun Y hY => number_any (t := x) (by have := Hxl.out; omega) (HL.out _ (Hbr.out.trans (hY.mono Hbr.out.size))).e5 (HL.out _ (Hbr.out.trans (hY.mono Hbr.out.size))).e6)
    have HS := kH (show ∀ Y, Below w7.heap.size wr Y → Y.cell? ⟨gx, 3, none⟩ = some (.slice Ax jj cx) from fun Y hY => by
     obtain ⟨_, _, _, n3, _⟩ := cells5' ((hY.block gx Hgl.out).trans Hrow.out)
     exact n3)
    have hjb : jj + 1 ≤ 1000000000 := by omega
    clear hrw hx hxe
    go_wp2_with fail
    clear hc
    refine wp_region_split 7 (by kernel_rfl) (by kernel_rfl) ?_
    simp only [List.take_succ_cons, List.take_zero]
    refine wpAny_of_held (S := fun Y => Y.cell? ⟨gx, 3, none⟩ = some (.slice Ax jj cx)) _ _ _ _ ?_
    have hHeld := HS.out wr.drew (Below.refl _ _).drew
    refine tk 0 ?_ hHeld (fun Y hY => ?_) ?_
    rotate_left
    · (go_simp) <;> with_reducible rfl
    try simp only [Act.put, yL]
    refine tk 1 ?_ hHeld (fun Y hY => ?_) ?_
    rotate_left
    · (go_simp) <;> with_reducible rfl
    try simp only [Act.put, yL]
    refine tk 2 ?_ hHeld (fun Y hY => ?_) ?_
    rotate_left
    · (go_simp) <;> with_reducible rfl
    try simp only [Act.put, yL]
    refine rd 3 (fun KK hKK => ?_)
    clear hHeld
    go_simp
    (with_reducible refine (HN.out _ (Below.refl _ _).drew).mono ?_)
    rintro e x1 ⟨rfl, hb1⟩
    have Hx1 := kH (show Below wr.heap.size wr x1 from (Below.refl _ _).drew.trans hb1)
    clear hb1
    refine hKK.out _ _ (HS.out _ (Hx1.out.mono Hsz.out)) (fun hHeld => ?_)
    clear hKK KK
    try simp only [Act.put, yL]
    refine rd 4 (fun KK hKK => ?_)
    clear hHeld
    go_simp
    obtain ⟨x2, hx2⟩ : ∃ x2, x2 = x1.alloc (.cells #[.int .i64 (num x)] 3) := ⟨_, rfl⟩
    first | rw [← hx2] | (simp only [← hx2])
    have Hx2 := kH (show Below wr.heap.size wr x2 from by rw [hx2]; exact Hx1.out.alloc Hx1.out.size _)
    have Hsz2 := kH (show x2.heap.size = x1.heap.size + 1 from by rw [hx2]; simp)
    have Hsrc := kH (show ∀ q u, [Value.int .i64 (num x)][q]? = some u → ∃ ad : Addr, (some (⟨x1.heap.size, 0, none⟩ : Addr)) = some ad ∧ x2.cell? (ad.add q) = some u from by rw [hx2]; exact fun q u hq => ⟨_, rfl, cell_one_new x1 _ _ q u hq⟩)
    clear hx2
    refine hKK.out _ _ (HS.out _ (Hx2.out.mono Hsz.out)) (fun hHeld => ?_)
    clear hKK KK
    try simp only [Act.put, yL]
    refine rd 5 (fun KK hKK => ?_)
    clear hHeld
    refine step_append_src x2 rfl (.tmp 41) (.tmp 44) 60 rfl 3 (.int .i64 0) 1 8 Tryz.underlying60 infoI rfl (by decide) (.slice Ax jj cx) jj _ rfl (Ho.out.below Hx2.out Ho.out.lt) (some ⟨x1.heap.size, 0, none⟩) 1 1 [.int .i64 (num x)] rfl rfl Hsrc.out (by simp; rfl) hjb (by decide) ?_
    intro v6 w6 hown6 hgr6 hat6
    have Hb6 := kH (show Below w7.heap.size wr w6 from (Hx2.out.mono Hsz.out).grown hgr6 (Nat.le_trans Hsz.out Hx2.out.size) Hvo.out)
    refine hKK.out _ _ (HS.out w6 Hb6.out) (fun hHeld => ?_)
    clear hKK KK
    try simp only [Act.put, yL]
    obtain ⟨A6, c6, rfl⟩ := hown6.form
    have Hv6 := kH (show ∀ g, (Value.slice A6 (jj + 1) c6).ownBlock = some g → w7.heap.size ≤ g from fun g hg => by
     rcases hat6 with e | e
     · rw [e] at hg; exact Hvo.out g hg
     · rw [e] at hg
       injection hg with hg
       have h1 := Hsz.out
       have h2 := Hx2.out.size
       omega)
    have hr6 := (Hb6.out.block gx Hgl.out).trans Hrow.out
    obtain ⟨_, _, _, n3, _, nf⟩ := cells5f hr6
    have nf3 := nf 3
    have Hr7 := kH (show (w6.setCell ⟨gx, 3, none⟩ (.slice A6 (jj + 1) c6)).heap[gx]? = some (.cells #[.int .i64 a0, .int .i64 a1, .int .i64 a2, .slice A6 (jj + 1) c6, .int .u32 a3] 62 (0, 0)) from by
     have := heap_setCell_same w6 gx 3 _ _ (.slice A6 (jj + 1) c6) hr6
     rw [this]
     rfl)
    have Hown7 := kH (hown6.setCell (p := ⟨gx, 3, none⟩) (fun e => by have h1 : w7.heap.size ≤ gx := Hv6.out _ e; have h2 := Hgl.out; omega) (.slice A6 (jj + 1) c6))
    have Hk7 := kH (show Kpm (fun i => i = gx) w7 (w6.setCell ⟨gx, 3, none⟩ (.slice A6 (jj + 1) c6)) from (Hkp.out.trans (Kpm.of_belowN Hb6.out) (fun i hi (h : w7.heap.size ≤ i) => by omega)).setCell (p := ⟨gx, 3, none⟩) (fun _ => rfl) _)
    clear hr6 nf hat6 hown6 hgr6
    refine tk 6 ?_ hHeld (fun Y hY => ?_) ?_
    rotate_left
    · (go_simp) <;> with_reducible rfl
    try simp only [Act.put, yL]
    refine wpAnyH_done (by kernel_rfl) ?_ _
    clear hHeld
    go_wp2
    go_roundg (gk - 1)
    case measure => have := Hgk.out; omega
    case rel =>
     have := Hgk.out
     refine ⟨jj + 1, .slice A6 (jj + 1) c6, by omega, by go_num, by omega, Hr7, kH ?_, Hv6, Hk7⟩
     have h := Hown7.out
     rw [List.take_add_one, Hx.out, List.map_append, List.map_append]
     simpa using h
  · obtain rfl : jj = m := by omega
    have hx2 := HX2.out
    have hown : OwnAt wr 3 1 (.slice Ax (ws.map num).length cx) (ws.map num).length ((ws.map num).map (Value.int .i64)) := by
     have h := Ho.out
     rw [List.take_of_length_le (by have := Hm.out; omega)] at h
     rw [List.length_map, ← Hm.out]
     exact h
    have hr9 := (Hkp.out.block W.heap.size (gA Hr8.out).1 (by have := Hgw.out; omega)).trans Hr8.out
    obtain ⟨f1, f2⟩ := Hfin.out (ws.map num) wr Ax cx hx2 hr9 Hbr.out hown (fun g hg => by
     have h1 := Hvo.out g (by rw [List.length_map, ← Hm.out] at hg; exact hg)
     have h2 := (gA Hr8.out).1
     omega)
    rw [List.length_map, ← Hm.out] at f1 f2
    have F1 := kH f1
    have F2 := kH f2
    obtain ⟨p0, p1, p2, p3, p4⟩ := cells5' Hrow.out
    obtain ⟨z0, z1, z2, z3, z4, zf⟩ := cells5f hr9
    have zf0 := zf 0
    have zf1 := zf 1
    have zf2 := zf 2
    have zf3 := zf 3
    have zf4 := zf 4
    clear zf hx2 hown hr9 f1 f2 hrw
    go_wp2_with fail
    (try simp only [Exit.inBlock, Exit.then])
    refine bodyPost_ret (results_cell_row rfl _ _ W.heap.size _ _ (0, 0) _ rfl F1.out Tryz.underlying62 rfl (by kernel_rfl)) rfl ?_
    exact F2.out
end KT
end
section
open Go.ChangeShapes Go.WideShapes Go.ChangeAt Go.RowKit Go.Deep
namespace KT
variable {H : Type} {enc : TypeId × Value → H}
theorem handed_and_shaped {a : Assume} {C : Checked} {os : Os} {f : FuncId} {fn : Func} {s : ChangeSpec} {conds : List PathCond} {apart fresh handsOn again : Bool} {X : World → Array Value → Prop}
 (hX : ∀ (w w' : World) (args : Array Value), w.heap = w'.heap → X w args → X w' args)
 (own : ownKnob C.prog.godebug = none) (started : os.Started) (noInit : C.prog.inits.idxOf? f = none) (hfn : C.prog.funcs[f]? = some fn)
 (witness : ∃ (w : World) (tape : Tape) (i : Input), w.os = os ∧ (w.forCall tape i).Shaped C.prog ∧ i.vars = [] ∧ Input.okWide C.prog (w.forCall tape i) .any w.heap.size f i ∧
  ((s.pre enc C.prog fn conds apart (w.forCall tape i).memory i.args ∧ X (w.forCall tape i).memory i.args) ∧ sizedMet enc C.prog fn (OpenSpec.ofChange s) apart (w.forCall tape i).memory i.args) ∧ a.holds C.prog (lone (Frame.enter C.prog f i.args .normal) [] (w.forCall tape i)))
 (contract : ∀ (W : World) (base : Nat) (args : Array Value) (ds gs : List (DataW H)) (before : List MemPlace),
  (∀ (j : Nat) t v, fn.params[j]? = some t → args[j]? = some v → Value.okWide C.prog W .any base t v) →
  DataW.Whole enc C.prog fn.params.toList s.vars apart W args.toList ds gs before → X W args → W.ShapedOpen C.prog →
  Calls C.prog f args W fun e W' => ∃ v, e = .returned v ∧ s.post enc C.prog fn apart fresh handsOn again W args v W') :
 ReturnsInHanded a C os f .any (fun w args => (s.pre enc C.prog fn conds apart w args ∧ X w args) ∧ sizedMet enc C.prog fn (OpenSpec.ofChange s) apart w args) (s.post enc C.prog fn apart fresh handsOn again) := by
 refine returnsInHanded_of_calls own started noInit witness ?_
 intro w tape i _ hsh _ hok hpre _
 obtain ⟨_, _, _, fn', hfn', _, _, _, _, hval⟩ := hok
 have e : fn' = fn := Option.some.inj (hfn'.symm.trans hfn)
 subst e
 obtain ⟨⟨⟨ds, gs, before, hw, _⟩, hx⟩, _⟩ := hpre
 have hw' := DataW.Whole.of_heap (w' := w.forCall tape i) (by rfl) hw
 refine (contract (w.forCall tape i) w.heap.size i.args ds gs before hval hw' (hX _ _ _ (by rfl) hx) hsh).mono fun e W' ⟨v, he, hp⟩ => ?_
 subst he
 exact ChangeSpec.post_blind hp
theorem gES : Tryz.prog.globalNamed "strconv.ErrSyntax" = some 5 := by kernel_rfl
theorem gESType : (Tryz.prog.globals[5]?).map (·.type) = some 199 := by kernel_rfl
theorem gER : Tryz.prog.globalNamed "strconv.ErrRange" = some 6 := by kernel_rfl
theorem gERType : (Tryz.prog.globals[6]?).map (·.type) = some 199 := by kernel_rfl
theorem cellsEs : Tryz.prog.cellsOf 291 = 1 := by kernel_rfl
theorem cellsStr : Tryz.prog.cellsOf 9 = 1 := by kernel_rfl
theorem rowEs (u : TypeId) (h : Tryz.prog.typeName? 3 u = some "*errors.errorString") : u = 289 :=
 typeName_ptr_named (nm := "errors.errorString") (by rw [show "*" ++ "errors.errorString" = "*errors.errorString" by decide]; kernel_rfl) (by kernel_rfl) (by decide) u (by rw [show "*" ++ "errors.errorString" = "*errors.errorString" by decide]; exact h)
theorem lb_of {W : World} (h : laidMetH Tryz.prog Rows.keepTextsRow.laid W) (hsh : W.ShapedOpen Tryz.prog) : Lb W := by
 have h' : laidMet Tryz.prog (("math/bits.deBruijn32tab", Rows.laid_math_bits_deBruijn32tab) :: ("math/bits.deBruijn64tab", Rows.laid_math_bits_deBruijn64tab) :: ("internal/strconv.uint64pow10", Lib.tabData .u64 Lib.pow10Tab) :: ("unicode/utf8.acceptRanges", Rows.laid_unicode_utf8_acceptRanges) :: ("strconv.ErrRange", Rows.laid_strconv_ErrRange) :: ("strconv.ErrSyntax", Rows.laid_strconv_ErrSyntax) :: [("unicode/utf8.first", Rows.laid_unicode_utf8_first)]) W := h
 have h3 := laidMet_tail (laidMet_tail h')
 have h5 := laidMet_tail (laidMet_tail h3)
 have h6 := laidMet_tail h5
 obtain ⟨a0, s0, hv0, -, -, -⟩ := laid_sentinel h5 gER gERType Tryz.underlying199 rowEs Tryz.underlying289 Tryz.underlying291 rfl rfl Tryz.underlying9 cellsEs cellsStr
 obtain ⟨a1, s1, hv1, -, -, -⟩ := laid_sentinel h6 gES gESType Tryz.underlying199 rowEs Tryz.underlying289 Tryz.underlying291 rfl rfl Tryz.underlying9 cellsEs cellsStr
 refine ⟨Lib.tabIs_of_head g10 g10Type und10 undU64 cellsU64 cells10 h3, ?_, ⟨_, by have h0 := World.var?_cell gES hv1 0; simpa using h0, .inr ⟨_, _, rfl⟩⟩, ⟨_, by have h0 := World.var?_cell gER hv0 0; simpa using h0, .inr ⟨_, _, rfl⟩⟩⟩
 exact cell_of_shapedOpen_int (t := 3) (zero := #[.int .i64 0]) hsh (of_decide_eq_true (by kernel_rfl)) (by kernel_rfl) rfl (by kernel_rfl) (by kernel_rfl) Tryz.underlying3
theorem slice_le {P : Program} {w : World} {r : Reach} {b : Nat} {t e : TypeId} {A : Option Addr} {n c : Nat} (ht : P.underlying t = some (.slice e)) (h : Value.okWide P w r b t (.slice A n c)) : n ≤ c := by
 have h1 : Cell.okWide P w r b t (.slice A n c) := by unfold Value.okWide at h; rw [ht] at h; exact h
 have h2 : Cell.ok P w r b t (.slice A n c) := by unfold Cell.okWide at h1; rw [ht] at h1; exact h1
 unfold Cell.ok at h2
 rw [ht] at h2
 cases A with
 | none => rcases n with _ | n <;> rcases c with _ | c <;> simp at h2 ⊢
 | some a => exact h2.1
theorem readsRule {W : World} {fs : Array Field} (hfs : fs.size = 3) (hty : ∀ (j : Nat) (f : Field), fs[j]? = some f → f.type = (#[22, 22, 31]).getD j 0) : ReadsSt enc Tryz.prog W fs RlR := by
 intro n us hl hu
 have get : ∀ j, j < 3 → ∃ u y, us[j]? = some u ∧ DataW.trod enc Tryz.prog W 0 (fun _ => true) true n ((#[22, 22, 31]).getD j 0) [u] = some y := fun j hj => by
  have hj' : j < fs.size := by omega
  obtain ⟨u, y, h1, h2⟩ := hu j fs[j] (Array.getElem?_eq_getElem hj')
  rw [hty j _ (Array.getElem?_eq_getElem hj')] at h2
  exact ⟨u, y, h1, h2⟩
 obtain ⟨u0, y0, g0, h0⟩ := get 0 (by omega)
 obtain ⟨u1, y1, g1, h1⟩ := get 1 (by omega)
 obtain ⟨u2, y2, g2, h2⟩ := get 2 (by omega)
 obtain ⟨AL, nl, cl, xl, e0, sl, fl⟩ := cells_nodes h0
 obtain ⟨AR, nr, cr, xr, e1, sr, fr⟩ := cells_nodes h1
 obtain ⟨AP, np, cp, xp, e2, sp⟩ := stAt_of_cells (R := CdR) Tryz.underlying31 Tryz.underlying88 (by kernel_rfl) cellsCond (by decide) (readsCond rfl (fun j f h => by rcases j with _ | _ | _ | j <;> simp at h <;> (subst h; rfl))) h2
 rw [hfs] at hl
 refine ⟨⟨xl, xr, xp⟩, nl, cl, nr, cr, np, cp, AL, AR, AP, ?_, sl, sr, sp, fl, fr⟩
 match us, hl, g0, g1, g2 with
 | [v0, v1, v2], _, g0, g1, g2 =>
  simp at g0 g1 g2
  subst g0 g1 g2
  rw [e0, e1, e2]
instance : Inhabited R.Rl := ⟨⟨[], [], []⟩⟩
theorem open_rules {W : World} {r : Reach} {b0 : Nat} {v : Value} {d : DataW H} {ps : List MemPlace} (hval : Value.okWide Tryz.prog W r b0 40 v) (h : DataW.Trod enc Tryz.prog W 0 (fun _ => true) true 40 v d ps) :
 ∃ A m c rs, v = .slice A m c ∧ m ≤ c ∧ StAt 3 RlR W A m rs := by
 obtain ⟨A, m, c, xs, rfl, hs⟩ := open_st (R := RlR) Tryz.underlying40 Tryz.underlying33 (by kernel_rfl) cellsRule (by decide) (readsRule rfl (fun j f h => by rcases j with _ | _ | _ | j <;> simp at h <;> (subst h; rfl))) hval h
 exact ⟨A, m, c, xs, rfl, slice_le Tryz.underlying40 hval, hs⟩
theorem bytes_ex (s : ByteArray) : ∃ l : List UInt8, s = ⟨l.toArray⟩ ∧ l.length = s.size := ⟨s.data.toList, by cases s; simp, by cases s; simp [ByteArray.size]⟩
abbrev synS : ByteArray := { data := #[105, 110, 118, 97, 108, 105, 100, 32, 115, 121, 110, 116, 97, 120] }
abbrev rngS : ByteArray := { data := #[118, 97, 108, 117, 101, 32, 111, 117, 116, 32, 111, 102, 32, 114, 97, 110, 103, 101] }
def pairOf : DataW Unit → List Value
 | .agg l => l.flatMap tabOf
 | _ => []
noncomputable def low : Nat := (World.holding Tryz.prog default ⟨#[], #[], []⟩).heap.size
noncomputable def laidWorld7 (os : Os) : World :=
 let f := fun (x : List Value) (o : Obj) => match o with
  | .cells _ t frozen => Obj.cells x.toArray t frozen
  | o => o
 let w0 := World.holding Tryz.prog os ⟨#[.cells #[.string synS] 291, .cells #[.string rngS] 291], #[], []⟩
 { w0 with heap := ((((((w0.heap.modify 0 (f (tabOf Rows.laid_math_bits_deBruijn32tab))).modify 7 (f (tabOf Rows.laid_math_bits_deBruijn64tab))).modify 1 (f (tabOf Rows.laid_internal_strconv_uint64pow10))).modify 4 (f (pairOf Rows.laid_unicode_utf8_acceptRanges))).modify 3 (f (tabOf Rows.laid_unicode_utf8_first))).modify 5 (f [.iface 289 (.pointer (some ⟨low, 0, none⟩))])).modify 6 (f [.iface 289 (.pointer (some ⟨low + 1, 0, none⟩))]) }
theorem laid_met7 (os : Os) (args : Array Value) : laidMetH Tryz.prog Rows.keepTextsRow.laid ((laidWorld7 os).forCall (fun _ _ => 0) ⟨#[], args, []⟩).memory :=
 laidMet_of_run' 8 (by kernel_rfl) (by kernel_rfl)
end KT
end
section
namespace KT
theorem and_mk {a b : Bool} (ha : a = true) (hb : b = true) : (a && b) = true := by rw [ha, hb]; rfl
theorem sk1 : (laidOutB Tryz.prog) = true := by kernel_rfl
theorem sk2 : (mapsRowed Tryz.prog) = true := by kernel_rfl
theorem sk6 : ((Tryz.prog.stops == [])) = true := by kernel_rfl
theorem sk8 : ((Tryz.prog.stopKnobs == [])) = true := by kernel_rfl
theorem sk22 : ((Rows.keepTextsRow.plainKeys == Tryz.prog.plainKeys)) = true := by kernel_rfl
theorem sk24 : (Tryz.prog.stopsHeard) = true := by kernel_rfl
theorem sk25 : (Tryz.prog.mayEnter) = true := by kernel_rfl
theorem sk26 : ((Rows.keepTextsRow.lifted == Tryz.prog.liftsFinal)) = true := by kernel_rfl
theorem sk27 : ((Tryz.prog.make == some Rows.keepTextsRow.make)) = true := by kernel_rfl
end KT
end
end Go.Proofs.YtbiopedpceddeaaGreatDoor
