/- Merged: RPK9, RRF1a. -/
import Derived.Test.YtbiopedpceddeaaGreatDoorL42
import Derived.Test.YtbiopedpceddeaaGreatDoorL34
import Derived.Test.YtbiopedpceddeaaGreatDoorL35
import Derived.Test.YtbiopedpceddeaaGreatDoorL30
set_option linter.unusedVariables false
set_option linter.unusedSimpArgs false
section
namespace Go.Proofs.YtbiopedpceddeaaGreatDoor
set_option linter.unusedVariables false
set_option linter.unusedSimpArgs false
namespace KT
/-- the new number of a number; -1 if it is not met -/
def ix (s : List Int) (i : Int) : Int := if i ∈ s then ((s.idxOf i : Nat) : Int) else -1
theorem ix_in {s : List Int} {i : Int} (h : i ∈ s) : ix s i = ((s.idxOf i : Nat) : Int) := by unfold ix; rw [if_pos h]
theorem ix_out {s : List Int} {i : Int} (h : i ∉ s) : ix s i = -1 := by unfold ix; rw [if_neg h]
theorem ix_lt {s : List Int} {i : Int} : ix s i < 0 ↔ i ∉ s := by
  unfold ix
  split
  · rename_i h; exact ⟨fun h2 => by omega, fun h2 => absurd h h2⟩
  · rename_i h; exact ⟨fun _ => h, fun _ => by omega⟩
theorem ix_meet_same {s : List Int} {n : Int} (h : n ∉ s) : ix (meet s n) n = (s.length : Int) := by
  unfold meet
  rw [if_neg h, ix_in (by simp), List.idxOf_append, if_neg h]
  simp
theorem ix_meet_other {s : List Int} {n i : Int} (h : n ∉ s) (hi : i ≠ n) : ix (meet s n) i = ix s i := by
  unfold meet
  rw [if_neg h]
  by_cases hs : i ∈ s
  · rw [ix_in (by simp [hs]), ix_in hs, List.idxOf_append, if_pos hs]
  · rw [ix_out (by simp [hs, hi]), ix_out hs]
theorem meet_in {s : List Int} {n : Int} (h : n ∈ s) : meet s n = s := by unfold meet; rw [if_pos h]
theorem meet_len {s : List Int} {n : Int} (h : n ∉ s) : (meet s n).length = s.length + 1 := by unfold meet; rw [if_neg h]; simp
/-- the form of a rule, as a rule -/
def frm (L Q : List T.Nd) (ps : List R.Cd) : R.Rl :=
  ⟨L.map (ren (seen 33 [] L) (seen 34 [] L)), Q.map (ren (seen 33 [] L) (seen 34 [] L)), ps.map fun c => { c with hole := (((seen 34 [] L).idxOf c.hole : Nat) : Int) }⟩
/-- each one is in the other list -/
def wi (a b : List R.Cd) : Bool := a.all fun c => decide (c ∈ b)
theorem wi_iff {a b : List R.Cd} : wi a b = true ↔ ∀ c ∈ a, c ∈ b := by
  unfold wi
  rw [List.all_eq_true]
  exact ⟨fun h c hc => of_decide_eq_true (h c hc), fun h c hc => decide_eq_true (h c hc)⟩
def smF (a b : R.Rl) : Bool := decide (a.left = b.left) && (decide (a.right = b.right) && (wi a.pre b.pre && wi b.pre a.pre))
def cdI (c : R.Cd) : List Int := [c.kind, c.hole, c.imm]
theorem cdI_inj {a b : R.Cd} (h : cdI a = cdI b) : a = b := by
  obtain ⟨a1, a2, a3⟩ := a
  obtain ⟨b1, b2, b3⟩ := b
  simp [cdI] at h
  obtain ⟨rfl, rfl, rfl⟩ := h
  rfl
theorem frm_pre (L Q : List T.Nd) (ps : List R.Cd) : (form L Q ps).pre = (frm L Q ps).pre.map cdI := by
  unfold form frm
  simp only [List.map_map]
  rfl
theorem sub_map {a b : List R.Cd} : (∀ p ∈ a.map cdI, p ∈ b.map cdI) ↔ ∀ c ∈ a, c ∈ b := by
  constructor
  · intro h c hc
    obtain ⟨d, hd, e⟩ := List.mem_map.1 (h (cdI c) (List.mem_map.2 ⟨c, hc, rfl⟩))
    rw [← cdI_inj e]
    exact hd
  · intro h p hp
    obtain ⟨c, hc, rfl⟩ := List.mem_map.1 hp
    exact List.mem_map.2 ⟨c, h c hc, rfl⟩
theorem sm_frm {r q : R.Rl} {L Q L' Q' : List T.Nd} (h : Sides r L Q) (h' : Sides q L' Q') : sm r q = smF (frm L Q r.pre) (frm L' Q' q.pre) := by
  rw [Bool.eq_iff_iff, sm_iff, formR_eq h, formR_eq h']
  unfold smF Form.same
  rw [Bool.and_eq_true, Bool.and_eq_true, Bool.and_eq_true, wi_iff, wi_iff, decide_eq_true_iff, decide_eq_true_iff, frm_pre, frm_pre, sub_map, sub_map]
  exact ⟨fun ⟨a, b, c, d⟩ => ⟨a, b, c, d⟩, fun ⟨a, b, c, d⟩ => ⟨a, b, c, d⟩⟩
end KT
end Go.Proofs.YtbiopedpceddeaaGreatDoor
end
section
namespace Go.Proofs.YtbiopedpceddeaaGreatDoor
open Go.RowKit
set_option linter.unusedVariables false
set_option linter.unusedSimpArgs false
namespace RF
/-- one number of a node of an own list may be put anew -/
theorem ownR_imm {B n c k : Nat} {A : Option Addr} {w : World} {nds : List T.Nd} (h : OwnR (NdF B) B w (.slice A n c) nds) (hn : nds.length = n) (hk : k < n) :
    ∃ x g off cur A2 c2, nds[k]? = some x ∧ A = some ⟨g, off, none⟩ ∧ B ≤ g ∧ w.heap[g]? = some (.cells cur 62 (0, 0)) ∧ (∀ (i : Nat) u, (ndC x A2 c2)[i]? = some u → cur[off + k * 5 + i]? = some u) ∧ (0 ≤ x.imm ∧ x.imm < 4294967296) ∧
      ∀ m : Int, 0 ≤ m → m < 4294967296 → OwnR (NdF B) B (w.setCell ⟨g, off + k * 5 + 4, none⟩ (.int .u32 m)) (.slice A n c) (nds.set k { x with imm := m }) := by
  subst hn
  have hh := h
  obtain ⟨cells, h1, h2, h3⟩ := h
  rcases h1.2 with ⟨e, h0⟩ | ⟨g, off, cap, cur, e, hg, q1, q2, q3, q4⟩
  · omega
  cases e
  have hx : nds[k]? = some nds[k] := List.getElem?_eq_getElem hk
  obtain ⟨A2, c2, e1, r1, i0, i1, r2⟩ := h2 k _ hx
  have hc : ∀ (i : Nat) u, (ndC nds[k] A2 c2)[i]? = some u → cur[off + k * 5 + i]? = some u := fun i u hu => by
    rw [← e1, List.getElem?_take] at hu
    split at hu
    · rw [List.getElem?_drop] at hu
      have := q4 _ u hu
      rwa [← Nat.add_assoc] at this
    · cases hu
  refine ⟨nds[k], g, off, cur, A2, c2, hx, rfl, h3 g rfl, hg, hc, ⟨i0, i1⟩, fun m m0 m1 => ?_⟩
  have hgr := setCell_grown w g (off + k * 5 + 4) (.int .u32 m)
  have hoth : ∀ g' cur' T fr, some g = some g' → w.heap[g']? = some (.cells cur' T fr) → T = 62 := fun g' cur' T fr e hcc => by
    injection e with e
    subst e
    rw [hg] at hcc
    injection hcc with hcc
    injection hcc with _ hcc _
    exact hcc.symm
  have hf' := NdF.other' (show NdF B w (ndC nds[k] A2 c2) nds[k] from ⟨A2, c2, rfl, r1, i0, i1, r2⟩) hgr hoth
  have hlt : off + k * 5 + 4 < cur.size := (Array.getElem?_eq_some_iff.1 (hc 4 _ rfl)).1
  exact OwnR.put (y := { nds[k] with imm := m }) (A2 := A2) (c2 := c2) hh rfl hk hg hgr (heap_setCell_same w g (off + k * 5 + 4) _ _ (.int .u32 m) hg) (by simp) (fun i hi => by
    rw [Array.getElem?_setIfInBounds, if_neg (by omega)]) (fun i u hu => by
    rw [Array.getElem?_setIfInBounds]
    rcases i with _ | _ | _ | _ | _ | i
    · rw [if_neg (by omega)]; exact hc 0 u hu
    · rw [if_neg (by omega)]; exact hc 1 u hu
    · rw [if_neg (by omega)]; exact hc 2 u hu
    · rw [if_neg (by omega)]; exact hc 3 u hu
    · rw [if_pos (by omega), if_pos (by omega)]; exact hu
    · simp [ndC] at hu) (by
    obtain ⟨A3, c3, e1, e2, _, _, e3⟩ := hf'
    simp only [ndC, List.cons.injEq, Value.slice.injEq] at e1
    obtain ⟨_, _, _, ⟨e4, _, e5⟩, _⟩ := e1
    subst e4 e5
    exact ⟨A2, c2, rfl, e2, m0, m1, e3⟩)

/-- another block of nodes turns -/
theorem ownR_otherN {B g : Nat} {w w' : World} {v : Value} {l : List T.Nd} {cur : Array Value} {fr : Nat × Nat} (h : OwnR (NdF B) B w v l) (hg : w.grownBy w' (some g)) (hr : w.heap[g]? = some (.cells cur 62 fr)) (hne : v.ownBlock ≠ some g) : OwnR (NdF B) B w' v l := by
  obtain ⟨cells, h1, h2, h3⟩ := h
  refine ⟨cells, h1.same fun g' hg' => ?_, fun k x hx => (h2 k x hx).other' hg (fun g2 cur2 T fr2 e hc => ?_), h3⟩
  · rcases h1.2 with ⟨rfl, _⟩ | ⟨g2, off, cap, cur', rfl, hcur, _⟩
    · simp [Value.ownBlock] at hg'
    · refine hg.block _ ?_ (fun e => hne (by injection e with e; rw [hg', e]))
      simp [Value.ownBlock] at hg'
      subst hg'
      exact (Array.getElem?_eq_some_iff.1 hcur).1
  · injection e with e
    subst e
    rw [hr] at hc
    injection hc with hc
    injection hc with _ hc _
    exact hc.symm

/-- a form in memory of the call's own -/
structure FSt (B gb : Nat) (v1 v2 v3 : Value) (L Q : List T.Nd) (P : List R.Cd) (w : World) : Prop where
  lo : B ≤ gb
  row : w.heap[gb]? = some (.cells #[v1, v2, v3] 101 (0, 0))
  o1 : OwnR (NdF B) B w v1 L
  o2 : OwnR (NdF B) B w v2 Q
  o3 : OwnC B w v3 P
  ne : ∀ g, v1.ownBlock = some g → v2.ownBlock ≠ some g
theorem FSt.lt {B gb : Nat} {v1 v2 v3 : Value} {L Q : List T.Nd} {P : List R.Cd} {w : World} (h : FSt B gb v1 v2 v3 L Q P w) : gb < w.heap.size := (Array.getElem?_eq_some_iff.1 h.row).1
theorem FSt.below {B gb : Nat} {v1 v2 v3 : Value} {L Q : List T.Nd} {P : List R.Cd} {w w' : World} (h : FSt B gb v1 v2 v3 L Q P w) (hb : Below w.heap.size w w') : FSt B gb v1 v2 v3 L Q P w' :=
  ⟨h.lo, (hb.block _ h.lt).trans h.row, h.o1.below (ndF_rel _) hb, h.o2.below (ndF_rel _) hb, h.o3.below hb, h.ne⟩
/-- the list that is turned: the left one first -/
def lst (s : Nat) (v1 v2 : Value) : Value := if s = 0 then v1 else v2
/-- a form of which one list is turned -/
def Fs (s B gb : Nat) (v1 v2 v3 : Value) (L Q l : List T.Nd) (w : World) : Prop := if s = 0 then FSt B gb v1 v2 v3 l Q [] w else FSt B gb v1 v2 v3 L l [] w
theorem Fs.own {s B gb : Nat} {v1 v2 v3 : Value} {L Q l : List T.Nd} {w : World} (h : Fs s B gb v1 v2 v3 L Q l w) : OwnR (NdF B) B w (lst s v1 v2) l := by
  unfold Fs at h
  unfold lst
  split <;> rename_i e
  · rw [if_pos e] at h; exact h.o1
  · rw [if_neg e] at h; exact h.o2
theorem Fs.row {s B gb : Nat} {v1 v2 v3 : Value} {L Q l : List T.Nd} {w : World} (h : Fs s B gb v1 v2 v3 L Q l w) : w.heap[gb]? = some (.cells #[v1, v2, v3] 101 (0, 0)) := by
  unfold Fs at h
  split at h
  · exact h.row
  · exact h.row
theorem Fs.below {s B gb : Nat} {v1 v2 v3 : Value} {L Q l : List T.Nd} {w w' : World} (h : Fs s B gb v1 v2 v3 L Q l w) (hb : Below w.heap.size w w') : Fs s B gb v1 v2 v3 L Q l w' := by
  unfold Fs at h ⊢
  split <;> rename_i e
  · rw [if_pos e] at h; exact h.below hb
  · rw [if_neg e] at h; exact h.below hb
theorem ownC_nodes {B g : Nat} {w w' : World} {v : Value} {P : List R.Cd} {cur : Array Value} {fr : Nat × Nat} (h : OwnC B w v P) (hg : w.grownBy w' (some g)) (hr : w.heap[g]? = some (.cells cur 62 fr)) : OwnC B w' v P :=
  h.other hg fun g2 cur2 T fr2 e hc => by
    injection e with e
    subst e
    rw [hr] at hc
    injection hc with hc
    injection hc with _ hc _
    rw [← hc]
    decide
theorem row_ne {w : World} {a b : Nat} {c1 c2 : Array Value} {T1 T2 : TypeId} {f1 f2 : Nat × Nat} (h1 : w.heap[a]? = some (.cells c1 T1 f1)) (h2 : w.heap[b]? = some (.cells c2 T2 f2)) (hT : T1 ≠ T2) : a ≠ b := fun e => by
  subst e
  rw [h1] at h2
  injection h2 with h2
  injection h2 with _ h2 _
  exact hT h2
/-- one number of the list that is turned is put -/
theorem Fs.put {s B gb : Nat} {v1 v2 v3 : Value} {L Q l : List T.Nd} {w : World} {n c k : Nat} {A : Option Addr} (h : Fs s B gb v1 v2 v3 L Q l w) (hv : lst s v1 v2 = .slice A n c) (hn : l.length = n) (hk : k < n) :
    ∃ x g off cur A2 c2, l[k]? = some x ∧ A = some ⟨g, off, none⟩ ∧ B ≤ g ∧ w.heap[g]? = some (.cells cur 62 (0, 0)) ∧ (∀ (i : Nat) u, (ndC x A2 c2)[i]? = some u → cur[off + k * 5 + i]? = some u) ∧ (0 ≤ x.imm ∧ x.imm < 4294967296) ∧
      ∀ m : Int, 0 ≤ m → m < 4294967296 → Fs s B gb v1 v2 v3 L Q (l.set k { x with imm := m }) (w.setCell ⟨g, off + k * 5 + 4, none⟩ (.int .u32 m)) := by
  have ho := h.own
  rw [hv] at ho
  obtain ⟨x, g, off, cur, A2, c2, hx, hA, hB, hg, hc, hi, hp⟩ := ownR_imm ho hn hk
  refine ⟨x, g, off, cur, A2, c2, hx, hA, hB, hg, hc, hi, fun m m0 m1 => ?_⟩
  have hq := hp m m0 m1
  have hgr := setCell_grown w g (off + k * 5 + 4) (.int .u32 m)
  have hob : (lst s v1 v2).ownBlock = some g := by rw [hv, hA]; rfl
  have hrow := (hgr.block _ (Array.getElem?_eq_some_iff.1 h.row).1 (fun e => row_ne h.row hg (by decide) (by injection e with e))).trans h.row
  unfold Fs at h ⊢
  unfold lst at hob hv
  split <;> rename_i e
  · rw [if_pos e] at h hob hv
    rw [hv] at h ⊢
    rw [hv] at hob
    rw [hv] at hrow
    exact ⟨h.lo, hrow, hq, ownR_otherN h.o2 hgr hg (h.ne g hob), ownC_nodes h.o3 hgr hg, h.ne⟩
  · rw [if_neg e] at h hob hv
    rw [hv] at h ⊢
    rw [hv] at hob
    rw [hv] at hrow
    exact ⟨h.lo, hrow, ownR_otherN h.o1 hgr hg (fun e => h.ne g e hob), hq, ownC_nodes h.o3 hgr hg, h.ne⟩

theorem form_ne {w : World} {gb g : Nat} {c1 cur : Array Value} {T : TypeId} {fr : Nat × Nat} (e : some gb = some g) (h : w.heap[gb]? = some (.cells c1 101 (0, 0))) (hc : w.heap[g]? = some (.cells cur T fr)) : T ≠ 3 ∧ T ≠ 62 := by
  injection e with e
  subst e
  rw [h] at hc
  injection hc with hc
  injection hc with _ hc _
  subst hc
  exact ⟨by decide, by decide⟩
theorem cells5 {w : World} {g : Nat} {T : TypeId} {a0 a1 a2 a3 a4 : Value} (h : w.heap[g]? = some (.cells #[a0, a1, a2, a3, a4] T (0, 0))) : w.cell? ⟨g, 0, none⟩ = some a0 ∧ w.cell? ⟨g, 1, none⟩ = some a1 ∧ w.cell? ⟨g, 2, none⟩ = some a2 ∧ w.cell? ⟨g, 3, none⟩ = some a3 ∧ w.cell? ⟨g, 4, none⟩ = some a4 := by
  refine ⟨?_, ?_, ?_, ?_, ?_⟩ <;> rw [cell_of_row _ _ _ _ _ (0, 0) h] <;> rfl
theorem set_block {w : World} {g i b : Nat} {u : Value} (h : b ≠ g) (hb : b < w.heap.size) : (w.setCell ⟨g, i, none⟩ u).heap[b]? = w.heap[b]? :=
  (setCell_grown w g i u).block _ hb (fun e => h (by injection e with e))
theorem form_nc {w : World} {gb g : Nat} {c1 cur : Array Value} {T : TypeId} {fr : Nat × Nat} (e : some gb = some g) (h : w.heap[gb]? = some (.cells c1 101 (0, 0))) (hc : w.heap[g]? = some (.cells cur T fr)) : T ≠ 88 := by
  injection e with e
  subst e
  rw [h] at hc
  injection hc with hc
  injection hc with _ hc _
  subst hc
  decide
theorem infoCd : (Tryz.prog.info? 88).map (fun i => (i.zero, i.size, i.bytes)) = some (some (.agg #[.int .i64 0, .int .i64 0, .int .u32 0]), 3, 24) := by kernel_rfl
/-! the tables -/
/-- a table of new numbers -/
def Tab (w : World) (g : Nat) (s : List Int) : Prop := w.heap[g]? = some (.cells #[.int .i64 (KT.ix s 0), .int .i64 (KT.ix s 1)] 3 (0, 0))
theorem Tab.keep {w w' : World} {g : Nat} {s : List Int} (h : Tab w g s) (hk : w'.heap[g]? = w.heap[g]?) : Tab w' g s := hk.trans h
theorem Tab.lt {w : World} {g : Nat} {s : List Int} (h : Tab w g s) : g < w.heap.size := (Array.getElem?_eq_some_iff.1 h).1
theorem Tab.cell {w : World} {g : Nat} {s : List Int} (h : Tab w g s) {i : Int} (h0 : 0 ≤ i) (h2 : i < 2) : w.cell? ⟨g, i.toNat, none⟩ = some (.int .i64 (KT.ix s i)) := by
  rw [cell_of_row _ _ _ _ _ (0, 0) h]
  obtain rfl | rfl : i = 0 ∨ i = 1 := by omega
  · rfl
  · rfl
theorem Tab.meet {w : World} {g : Nat} {s : List Int} (h : Tab w g s) {i : Int} (h0 : 0 ≤ i) (h2 : i < 2) (hn : i ∉ s) : Tab (w.setCell ⟨g, i.toNat, none⟩ (.int .i64 (s.length : Int))) g (KT.meet s i) := by
  have := heap_setCell_same w g i.toNat _ _ (.int .i64 (s.length : Int)) h
  unfold Tab
  rw [this]
  obtain rfl | rfl : i = 0 ∨ i = 1 := by omega
  · rw [KT.ix_meet_same hn, KT.ix_meet_other hn (by decide)]
    rfl
  · rw [KT.ix_meet_same hn, KT.ix_meet_other hn (by decide)]
    rfl
/-- one number of the list that is turned is put, in any world above -/
theorem Fs.put2 {s B gb : Nat} {v1 v2 v3 : Value} {L Q l : List T.Nd} {w : World} {n c k : Nat} {A : Option Addr} (h : Fs s B gb v1 v2 v3 L Q l w) (hv : lst s v1 v2 = .slice A n c) (hn : l.length = n) (hk : k < n) :
    ∃ x g off cur A2 c2, l[k]? = some x ∧ A = some ⟨g, off, none⟩ ∧ B ≤ g ∧ w.heap[g]? = some (.cells cur 62 (0, 0)) ∧ (∀ (i : Nat) u, (ndC x A2 c2)[i]? = some u → cur[off + k * 5 + i]? = some u) ∧ (0 ≤ x.imm ∧ x.imm < 4294967296) ∧
      ∀ w', Below w.heap.size w w' → ∀ m : Int, 0 ≤ m → m < 4294967296 → Fs s B gb v1 v2 v3 L Q (l.set k { x with imm := m }) (w'.setCell ⟨g, off + k * 5 + 4, none⟩ (.int .u32 m)) := by
  obtain ⟨x, g, off, cur, A2, c2, hx, hA, hB, hg, hc, hi, _⟩ := h.put hv hn hk
  refine ⟨x, g, off, cur, A2, c2, hx, hA, hB, hg, hc, hi, fun w' hb m m0 m1 => ?_⟩
  obtain ⟨x', g', off', cur', A2', c2', hx', hA', _, _, _, _, hp⟩ := (h.below hb).put hv hn hk
  rw [hx] at hx'
  injection hx' with hx'
  subst hx'
  rw [hA] at hA'
  injection hA' with hA'
  injection hA' with h1 h2
  subst h1 h2
  exact hp m m0 m1
/-- what stays while the lists are turned -/
structure En (ga gh gl : Nat) (V U : List Int) (v1 v2 : Value) (w : World) : Prop where
  a : Tab w ga V
  h : Tab w gh U
  l : w.heap[gl]? = some (.cells #[v1, v2] 22 (0, 0))
theorem En.below {ga gh gl : Nat} {V U : List Int} {v1 v2 : Value} {w w' : World} (e : En ga gh gl V U v1 v2 w) (hb : Below w.heap.size w w') : En ga gh gl V U v1 v2 w' :=
  ⟨e.a.keep (hb.block _ e.a.lt), e.h.keep (hb.block _ e.h.lt), (hb.block _ (Array.getElem?_eq_some_iff.1 e.l).1).trans e.l⟩
theorem En.set {ga gh gl g i : Nat} {V U : List Int} {v1 v2 u : Value} {w : World} {cur : Array Value} {fr : Nat × Nat} (e : En ga gh gl V U v1 v2 w) (hg : w.heap[g]? = some (.cells cur 62 fr)) : En ga gh gl V U v1 v2 (w.setCell ⟨g, i, none⟩ u) :=
  ⟨e.a.keep (set_block (row_ne e.a hg (by decide)) e.a.lt), e.h.keep (set_block (row_ne e.h hg (by decide)) e.h.lt), (set_block (row_ne e.l hg (by decide)) (Array.getElem?_eq_some_iff.1 e.l).1).trans e.l⟩
theorem En.cell {ga gh gl s : Nat} {V U : List Int} {v1 v2 : Value} {w : World} (e : En ga gh gl V U v1 v2 w) (hs : s < 2) : w.cell? ⟨gl, s, none⟩ = some (lst s v1 v2) := by
  rw [cell_of_row _ _ _ _ _ (0, 0) e.l]
  unfold lst
  obtain rfl | rfl : s = 0 ∨ s = 1 := by omega
  · rfl
  · rfl
theorem set_next {l : List T.Nd} {f : T.Nd → T.Nd} {k : Nat} {x y : T.Nd} (hx : l[k]? = some x) (hy : f x = y) : ((l.take k).map f ++ l.drop k).set k y = (l.take (k + 1)).map f ++ l.drop (k + 1) := by
  have hk := (List.getElem?_eq_some_iff.1 hx).1
  have hm : min k l.length = k := by omega
  rw [List.set_append_right _ _ (by rw [List.length_map, List.length_take]; omega), List.length_map, List.length_take, hm, Nat.sub_self, List.drop_eq_getElem_cons hk, List.set_cons_zero, List.take_add_one, hx, List.map_append, List.append_assoc, ← hy]
  rfl
theorem next_same {l : List T.Nd} {f : T.Nd → T.Nd} {k : Nat} {x : T.Nd} (hx : l[k]? = some x) (hy : f x = x) : (l.take k).map f ++ l.drop k = (l.take (k + 1)).map f ++ l.drop (k + 1) := by
  have hk := (List.getElem?_eq_some_iff.1 hx)
  obtain ⟨hk, e⟩ := hk
  rw [List.drop_eq_getElem_cons hk, e, List.take_add_one, hx, List.map_append, List.append_assoc]
  simp [hy]
theorem map_get {l : List T.Nd} {f : T.Nd → T.Nd} {k : Nat} (hk : k < l.length) : ((l.take k).map f ++ l.drop k)[k]? = l[k]? := by
  have hm : min k l.length = k := by omega
  rw [List.getElem?_append_right (by rw [List.length_map, List.length_take]; omega), List.length_map, List.length_take, hm, Nat.sub_self, List.getElem?_drop, Nat.add_zero]
theorem ownC_snoc {B : Nat} {w' : World} {v' : Value} {cs : List R.Cd} {us : List Value} {y : R.Cd} (hl : us.length = cs.length * 3) (h2 : ∀ (k : Nat) (x : R.Cd), cs[k]? = some x → CdR w' ((us.drop (k * 3)).take 3) x) (hown : OwnAt w' 88 3 v' (cs.length + 1) (us ++ cdC y)) (hy : 0 ≤ y.imm ∧ y.imm < 4294967296) (hB : ∀ g, v'.ownBlock = some g → B ≤ g) : OwnC B w' v' (cs ++ [y]) := by
  refine ⟨us ++ cdC y, by rw [List.length_append]; exact hown, fun k x hx => ?_, hB⟩
  have hk := (List.getElem?_eq_some_iff.1 hx).1
  rw [List.length_append] at hk
  simp only [List.length_cons, List.length_nil] at hk
  by_cases e : k < cs.length
  · rw [List.getElem?_append_left e] at hx
    rw [List.drop_append_of_le_length (by omega), List.take_append_of_le_length (by rw [List.length_drop]; omega)]
    exact h2 k x hx
  · obtain rfl : k = cs.length := by omega
    rw [List.getElem?_append_right (Nat.le_refl _), Nat.sub_self] at hx
    simp only [List.getElem?_cons_zero, Option.some.injEq] at hx
    subst hx
    rw [← hl, List.drop_left]
    exact ⟨rfl, hy.1, hy.2⟩
theorem ownC_ty {B g : Nat} {w : World} {v : Value} {cs : List R.Cd} (h : OwnC B w v cs) (hg : v.ownBlock = some g) : ∃ cur, w.heap[g]? = some (.cells cur 88 (0, 0)) := by
  obtain ⟨us, h1, _⟩ := h
  rcases h1.2 with ⟨rfl, _⟩ | ⟨g', off, cap, cur, rfl, hcur, _⟩
  · simp [Value.ownBlock] at hg
  · simp [Value.ownBlock] at hg
    subst hg
    exact ⟨cur, hcur⟩
/-- a condition is told behind the others -/
theorem FSt.app {B gb : Nat} {v1 v2 v3 v' : Value} {L Q : List T.Nd} {P : List R.Cd} {w wa w' : World} {us : List Value} {y : R.Cd} (h : FSt B gb v1 v2 v3 L Q P w) (hB : B ≤ w.heap.size) (hl : us.length = P.length * 3) (h2 : ∀ (k : Nat) (x : R.Cd), P[k]? = some x → CdR w' ((us.drop (k * 3)).take 3) x)
    (hb : Below w.heap.size w wa) (hgr : wa.grownBy w' v3.ownBlock) (hat : v'.ownBlock = v3.ownBlock ∨ ∃ n, v'.ownBlock = some n ∧ B ≤ n) (hown : OwnAt w' 88 3 v' (P.length + 1) (us ++ cdC y)) (hy : 0 ≤ y.imm ∧ y.imm < 4294967296) :
    w'.heap[gb]? = some (.cells #[v1, v2, v3] 101 (0, 0)) ∧ FSt B gb v1 v2 v' L Q (P ++ [y]) (w'.setCell ⟨gb, 2, none⟩ v') ∧ (∀ g s, Tab w g s → Tab (w'.setCell ⟨gb, 2, none⟩ v') g s) ∧ ∀ W1, Below B W1 w → Below B W1 (w'.setCell ⟨gb, 2, none⟩ v') := by
  have ha := h.below hb
  have hne : ∀ (g : Nat) (cur : Array Value) (T : TypeId) (fr : Nat × Nat), v3.ownBlock = some g → wa.heap[g]? = some (.cells cur T fr) → T = 88 := fun g cur T fr e hc => by
    obtain ⟨cur', hc'⟩ := ownC_ty ha.o3 e
    rw [hc'] at hc
    injection hc with hc
    injection hc with _ hc _
    exact hc.symm
  have hne2 : ∀ (g : Nat) (cur : Array Value) (T : TypeId) (fr : Nat × Nat), v3.ownBlock = some g → wa.heap[g]? = some (.cells cur T fr) → T ≠ 3 ∧ T ≠ 62 := fun g cur T fr e hc => by
    rw [hne g cur T fr e hc]
    exact ⟨by decide, by decide⟩
  have stay : ∀ (g : Nat) (cur : Array Value) (T : TypeId) (fr : Nat × Nat), T ≠ 88 → wa.heap[g]? = some (.cells cur T fr) → w'.heap[g]? = some (.cells cur T fr) := fun g cur T fr hT hc => (hgr.block _ (Array.getElem?_eq_some_iff.1 hc).1 (fun e => hT (hne g cur T fr e.symm hc))).trans hc
  have hrow := stay gb _ _ _ (by decide) ha.row
  have hs := setCell_grown w' gb 2 v'
  have hform : ∀ (g : Nat) (cur : Array Value) (T : TypeId) (fr : Nat × Nat), some gb = some g → w'.heap[g]? = some (.cells cur T fr) → T = 101 := fun g cur T fr e hc => by
    injection e with e
    subst e
    rw [hrow] at hc
    injection hc with hc
    injection hc with _ hc _
    exact hc.symm
  have hB' : ∀ g, v'.ownBlock = some g → B ≤ g := fun g hg => by
    rcases hat with e | ⟨n, e, hn⟩
    · rw [e] at hg
      obtain ⟨_, _, _, h3⟩ := h.o3
      exact h3 g hg
    · rw [e] at hg
      injection hg with hg
      omega
  refine ⟨hrow, ⟨h.lo, ?_, (ha.o1.other hgr hne2).other hs (fun g cur T fr e hc => form_ne e hrow hc), (ha.o2.other hgr hne2).other hs (fun g cur T fr e hc => form_ne e hrow hc), (ownC_snoc hl h2 hown hy hB').other hs (fun g cur T fr e hc => by rw [hform g cur T fr e hc]; decide), h.ne⟩, fun g s ht => ?_, fun W1 hW => ?_⟩
  · have := heap_setCell_same w' gb 2 _ _ v' hrow
    rw [this]
    rfl
  · have hta := ht.keep (hb.block _ ht.lt)
    have htb : Tab w' g s := stay g _ _ _ (by decide) hta
    exact htb.keep (set_block (row_ne htb hrow (by decide)) htb.lt)
  · have h3 : ∀ g, v3.ownBlock = some g → B ≤ g := by
      obtain ⟨_, _, _, h3⟩ := h.o3
      exact h3
    have hwa : Below B W1 wa := hW.trans (hb.mono hB)
    exact (hwa.grown hgr (Nat.le_trans hB hb.size) h3).setCell (p := ⟨gb, 2, none⟩) h.lo _
end RF
end Go.Proofs.YtbiopedpceddeaaGreatDoor
end
