/- Walks of the program: the book of clauses. -/
import Derived.Test.YtceelipcclfdmaaW21
import Derived.Test.YtceelipcclfdmaaW12
import Derived.Deep.RegionLaw
namespace Go.Proofs.Ytceelipcclfdmaa
set_option linter.unusedVariables false
open Go.RowKit Go.Maps

theorem Try.infoIntS : (Try.prog.info? 3).map (fun i => (i.zero, i.size, i.bytes)) = some (some (.int .i64 0), 1, 8) := by kernel_rfl

def gl (lw : List (Int × List Int)) (x : Int) : List Int := (AL.get lw x).getD []
theorem gl_put_same (lw : List (Int × List Int)) (x : Int) (v : List Int) : gl (AL.put lw x v) x = v := by simp [gl, AL.get_put_same]
theorem gl_put_other (lw : List (Int × List Int)) {x y : Int} (v : List Int) (h : y ≠ x) : gl (AL.put lw x v) y = gl lw y := by simp [gl, AL.get_put_other _ _ h]

/-- an element of the book's map: a row of numbers in a block of its own -/
def WithR (blk : Int → Option Nat) (w : World) (k : Int) (u : Value) (a : List Int) : Prop := u.ownBlock = blk k ∧ OwnAt w 3 1 u a.length (a.map (Value.int .i64))

structure BkAt (w w0 : World) (B0 Bk Mw : Nat) (cv : Value) (us : List Value) (cs : List (List Int)) (lw : List (Int × List Int)) (blk : Int → Option Nat) (N : Nat) : Prop where
  st : w.heap[Bk]? = some (.cells #[cv, .map (some Mw)] 83 (0, 0))
  own : OwnAt w 23 1 cv cs.length us
  rows : Elems (SlR (IntR .i64)) w0 us cs
  map_ : MapAt Try.prog 3 (Value.int .i64) (WithR blk) w Mw lw
  inj : ∀ k k' g, blk k = some g → blk k' = some g → k = k'
  bk : B0 ≤ Bk
  bm : B0 ≤ Mw
  bc : ∀ g, cv.ownBlock = some g → B0 ≤ g
  bb : ∀ k g, blk k = some g → B0 ≤ g ∧ g < w.heap.size
  small : ∀ x, (gl lw x).length ≤ N

/-- the map names each clause at each of its literals; k literals of the clause c, the next one, are named -/
def IdxTo (cs : List (List Int)) (c : List Int) (k : Nat) (lw : List (Int × List Int)) : Prop :=
  (∀ (x : Int) (i : Nat) (d : List Int), cs[i]? = some d → x ∈ d → (i : Int) ∈ gl lw x) ∧ (∀ x ∈ c.take k, (cs.length : Int) ∈ gl lw x) ∧ ∀ x i, i ∈ gl lw x → 0 ≤ i ∧ (i < cs.length ∨ (i = cs.length ∧ 0 < k))

theorem IdxTo.step {cs : List (List Int)} {c : List Int} {k : Nat} {lw : List (Int × List Int)} (h : IdxTo cs c k lw) {x : Int} (hx : c[k]? = some x) : IdxTo cs c (k + 1) (AL.put lw x (gl lw x ++ [(cs.length : Int)])) := by
  obtain ⟨h1, h2, h3⟩ := h
  refine ⟨fun y i d hd hy => ?_, fun y hy => ?_, fun y i hi => ?_⟩
  · by_cases e : y = x
    · subst e; rw [gl_put_same]; exact List.mem_append_left _ (h1 y i d hd hy)
    · rw [gl_put_other _ _ e]; exact h1 y i d hd hy
  · rw [take_succ_of hx] at hy
    by_cases e : y = x
    · subst e; rw [gl_put_same]; simp
    · rw [gl_put_other _ _ e]
      rcases List.mem_append.1 hy with hy | hy
      · exact h2 y hy
      · exact absurd (List.mem_singleton.1 hy) e
  · by_cases e : y = x
    · subst e
      rw [gl_put_same] at hi
      rcases List.mem_append.1 hi with hi | hi
      · have := h3 y i hi; omega
      · have := List.mem_singleton.1 hi; omega
    · rw [gl_put_other _ _ e] at hi
      have := h3 y i hi; omega
/-- the map names each clause at each of its literals -/
def Idx (cs : List (List Int)) (lw : List (Int × List Int)) : Prop :=
  (∀ (x : Int) (i : Nat) (d : List Int), cs[i]? = some d → x ∈ d → (i : Int) ∈ gl lw x) ∧ ∀ x i, i ∈ gl lw x → 0 ≤ i ∧ i < cs.length
theorem Idx.to {cs : List (List Int)} {lw : List (Int × List Int)} (h : Idx cs lw) (c : List Int) : IdxTo cs c 0 lw :=
  ⟨h.1, fun x hx => by simp at hx, fun x i hi => by have := h.2 x i hi; omega⟩
theorem IdxTo.done {cs : List (List Int)} {c : List Int} {k : Nat} {lw : List (Int × List Int)} (h : IdxTo cs c k lw) (hk : c.length ≤ k) : Idx (cs ++ [c]) lw := by
  obtain ⟨h1, h2, h3⟩ := h
  refine ⟨fun x i d hd hx => ?_, fun x i hi => ?_⟩
  · by_cases hi : i < cs.length
    · rw [List.getElem?_append_left hi] at hd; exact h1 x i d hd hx
    · have hlt := (List.getElem?_eq_some_iff.1 hd).1
      simp at hlt
      obtain rfl : i = cs.length := by omega
      simp at hd
      subst hd
      exact h2 x (by rw [List.take_of_length_le hk]; exact hx)
  · have := h3 x i hi
    simp; omega

section
variable {w w' w0 : World} {B0 Bk Mw : Nat} {cv : Value} {us : List Value} {cs : List (List Int)} {lw : List (Int × List Int)} {blk : Int → Option Nat} {N : Nat}
theorem BkAt.c0 (h : BkAt w w0 B0 Bk Mw cv us cs lw blk N) : w.cell? ⟨Bk, 0, none⟩ = some cv := by rw [cell_of_row w Bk 0 _ _ _ h.st]; rfl
theorem BkAt.c1 (h : BkAt w w0 B0 Bk Mw cv us cs lw blk N) : w.cell? ⟨Bk, 1, none⟩ = some (.map (some Mw)) := by rw [cell_of_row w Bk 1 _ _ _ h.st]; rfl
theorem BkAt.f0 (h : BkAt w w0 B0 Bk Mw cv us cs lw blk N) : w.frozen? ⟨Bk, 0, none⟩ = false := by simp [World.frozen?, h.st]
theorem BkAt.lt (h : BkAt w w0 B0 Bk Mw cv us cs lw blk N) : Bk < w.heap.size := (Array.getElem?_eq_some_iff.1 h.st).1
/-- the book stays as it is while other blocks are written -/
theorem BkAt.below (h : BkAt w w0 B0 Bk Mw cv us cs lw blk N) (hb : Below w.heap.size w w') : BkAt w' w0 B0 Bk Mw cv us cs lw blk N :=
  ⟨(hb.block _ h.lt).trans h.st, h.own.below hb h.own.lt, h.rows, h.map_.keep (hb.block _ h.map_.lt) (fun k u a hu => ⟨hu.1, hu.2.below hb hu.2.lt⟩), h.inj, h.bk, h.bm, h.bc, fun k g hg => ⟨(h.bb k g hg).1, Nat.lt_of_lt_of_le (h.bb k g hg).2 hb.size⟩, h.small⟩
theorem BkAt.dr (h : BkAt w w0 B0 Bk Mw cv us cs lw blk N) (hb : Dr w w') : BkAt w' w0 B0 Bk Mw cv us cs lw blk N := h.below (hb.below _)

/-- what 'm[x]' gives in a book -/
theorem BkAt.look (h : BkAt w w0 B0 Bk Mw cv us cs lw blk N) {x : Int} (hx : -4000 ≤ x ∧ x ≤ 4000) :
    ∃ u, (∀ W : World, W.heap[Mw]? = w.heap[Mw]? → (Instr.lookup 81 (.map (some Mw)) (.int .i64 x) false).run Try.prog W = .ok u W) ∧
      OwnAt w 3 1 u (gl lw x).length ((gl lw x).map (Value.int .i64)) ∧ (u.ownBlock = none ∨ u.ownBlock = blk x) := by
  obtain ⟨u, h1, h2⟩ := h.map_.lookup_all (int_keyed Try.underlying3) (ek_int_inj .i64) Try.underlying81 (z := .slice none 0 0) (fun _ => by kernel_rfl) (keyOf_int_mk (a := x) Try.underlying3 (WalkArith.wf_i64 (by omega)))
  refine ⟨u, h1, ?_⟩
  rcases h2 with ⟨h2, rfl⟩ | ⟨a, h2, h3⟩
  · unfold gl
    rw [h2]
    exact ⟨OwnAt.nil_ _ _ _, .inl rfl⟩
  · unfold gl
    rw [h2]
    exact ⟨h3.2, .inr h3.1⟩
end

theorem write_step {wr w0 W w1 : World} {B0 Bk Mw : Nat} {cv : Value} {us : List Value} {cs : List (List Int)} {lw : List (Int × List Int)} {blk : Int → Option Nat} {N : Nat} {x i : Int} {u v' : Value}
    (h : BkAt wr w0 B0 Bk Mw cv us cs lw blk N) (hx : -4000 ≤ x ∧ x ≤ 4000) (hou : OwnAt wr 3 1 u (gl lw x).length ((gl lw x).map (Value.int .i64))) (hblk : u.ownBlock = none ∨ u.ownBlock = blk x) (hW : Below wr.heap.size wr W) (hWs : W.heap.size = wr.heap.size + 1)
    (hown : OwnAt w1 3 1 v' ((gl lw x).length + 1) ((gl lw x).map (Value.int .i64) ++ [.int .i64 i])) (hgr : W.grownBy w1 u.ownBlock) (hat : v'.ownBlock = u.ownBlock ∨ v'.ownBlock = some W.heap.size) :
    w1.cell? ⟨Bk, 1, none⟩ = some (.map (some Mw)) ∧ ∃ w2, (Instr.mapUpdate 81 (.map (some Mw)) (.int .i64 x) v').run Try.prog w1 = .ok () w2 ∧
      (∃ blk2, BkAt w2 w0 B0 Bk Mw cv us cs (AL.put lw x (gl lw x ++ [i])) blk2 (N + 1)) ∧ Below B0 wr w2 := by
  have hu : ∀ g, u.ownBlock = some g → g < wr.heap.size ∧ B0 ≤ g := fun g hg => by
    rcases hblk with h0 | h0
    · rw [h0] at hg; cases hg
    · have := h.bb x g (by rw [← h0]; exact hg); exact ⟨this.2, this.1⟩
  have same1 : ∀ g, g < wr.heap.size → u.ownBlock ≠ some g → w1.heap[g]? = wr.heap[g]? := fun g hg hne => (hgr.block g (by omega) (Ne.symm hne)).trans (hW.block g hg)
  have hMlt := h.map_.lt
  have hBlt := h.lt
  have huM : u.ownBlock ≠ some Mw := own_map_ne h.map_ hou
  have huB : u.ownBlock ≠ some Bk := own_block_ne hou h.st (by decide)
  have hB1 : w1.heap[Bk]? = some (.cells #[cv, .map (some Mw)] 83 (0, 0)) := (same1 Bk hBlt huB).trans h.st
  refine ⟨by rw [cell_of_row w1 Bk 1 _ _ _ hB1]; rfl, ?_⟩
  have hmap1 : MapAt Try.prog 3 (Value.int .i64) (fun w k u a => k = x ∨ WithR blk w k u a) w1 Mw lw := by
    refine h.map_.keep (same1 Mw hMlt huM) fun k u2 a hr => ?_
    by_cases e : k = x
    · exact .inl e
    · refine .inr ⟨hr.1, hr.2.same fun g hg => same1 g (hr.2.lt g hg) fun e2 => ?_⟩
      rcases hblk with h0 | h0
      · rw [h0] at e2; cases e2
      · exact e (h.inj k x g (by rw [← hr.1]; exact hg) (by rw [← h0]; exact e2))
  obtain ⟨w2, hup, hgr2, hsz2, hmap2⟩ := hmap1.update (int_keyed Try.underlying3) (ek_int_inj .i64) Try.underlying81 (k := x) (keyOf_int_mk (a := x) Try.underlying3 (WalkArith.wf_i64 (by omega))) v'
  have hs1 : wr.heap.size + 1 ≤ w1.heap.size := by have := hgr.size; omega
  have same2 : ∀ g, g < w1.heap.size → g ≠ Mw → w2.heap[g]? = w1.heap[g]? := fun g hg hne => hgr2.block g hg (fun e => hne (Option.some.inj e))
  have hvlt := hown.lt
  have hvM : v'.ownBlock ≠ some Mw := own_map_ne hmap1 hown
  have hbelow : Below B0 wr w2 := by
    have h1 : Below B0 wr w1 := (hW.mono (Nat.le_of_lt (Nat.lt_of_le_of_lt h.bk hBlt))).grown hgr (by have := h.bk; omega) (fun k hk => (hu k hk).2)
    exact h1.grown hgr2 (by have := h.bk; omega) (fun k hk => by cases hk; exact h.bm)
  refine ⟨w2, hup, ⟨fun k => if k = x then v'.ownBlock else blk k, ?_⟩, hbelow⟩
  have hvb : ∀ g, v'.ownBlock = some g → B0 ≤ g := fun g hg => by
    rcases hat with h0 | h0
    · exact (hu g (by rw [← h0]; exact hg)).2
    · rw [h0] at hg; cases hg; have := h.bk; omega
  refine ⟨(same2 Bk (by omega) (fun e => map_block h.map_ (by rw [← e]; exact h.st))).trans hB1, ?_, h.rows, ?_, ?_, h.bk, h.bm, h.bc, ?_, ?_⟩
  · refine h.own.same fun g hg => ?_
    have hlt := h.own.lt g hg
    have hgM : g ≠ Mw := fun e => own_map_ne h.map_ h.own (by rw [← e]; exact hg)
    have hgu : u.ownBlock ≠ some g := by
      rcases ownAt_ne hou h.own (by decide) with h0 | h0
      · rw [h0]; simp
      · rw [← hg]; exact h0
    exact (same2 g (by omega) hgM).trans (same1 g hlt hgu)
  · refine hmap2 _ _ (fun k u2 a hne hr => ?_) ?_
    · have hr2 := hr.resolve_left hne
      refine ⟨by show _ = (if k = x then _ else _); rw [if_neg hne]; exact hr2.1, hr2.2.same fun g hg => same2 g (hr2.2.lt g hg) fun e => own_map_ne hmap1 hr2.2 (by rw [← e]; exact hg)⟩
    · refine ⟨by show _ = (if x = x then _ else _); rw [if_pos rfl], ?_⟩
      have h3 : OwnAt w2 3 1 v' ((gl lw x).length + 1) ((gl lw x).map (Value.int .i64) ++ [.int .i64 i]) := hown.same fun g hg => same2 g (hvlt g hg) fun e => hvM (by rw [← e]; exact hg)
      simpa using h3
  · have key : ∀ k' g, k' ≠ x → blk k' = some g → v'.ownBlock ≠ some g := fun k' g hne hk' e => by
      rcases hat with h0 | h0
      · rcases hblk with h1 | h1
        · rw [h0, h1] at e; cases e
        · exact hne (h.inj k' x g hk' (by rw [← h1, ← h0]; exact e))
      · rw [h0] at e; cases e
        have := (h.bb k' _ hk').2; omega
    intro k k' g h1 h2
    by_cases e : k = x <;> by_cases e' : k' = x
    · rw [e, e']
    · rw [if_pos e] at h1; rw [if_neg e'] at h2; exact absurd h1 (key k' g e' h2)
    · rw [if_neg e] at h1; rw [if_pos e'] at h2; exact absurd h2 (key k g e h1)
    · rw [if_neg e] at h1; rw [if_neg e'] at h2; exact h.inj k k' g h1 h2
  · intro k g hg
    by_cases e : k = x
    · rw [if_pos e] at hg; exact ⟨hvb g hg, by rw [hsz2]; exact hvlt g hg⟩
    · rw [if_neg e] at hg; have := h.bb k g hg; exact ⟨this.1, by rw [hsz2]; omega⟩
  · intro y
    by_cases e : y = x
    · subst e; rw [gl_put_same]; have := h.small y; simp; omega
    · rw [gl_put_other _ _ e]; have := h.small y; omega

theorem write_last {wr w0 w1 : World} {B0 Bk Mw : Nat} {cv v' : Value} {us : List Value} {cs : List (List Int)} {lw : List (Int × List Int)} {blk : Int → Option Nat} {N : Nat} {u : Value} {c : List Int} {E : TypeId}
    (h : BkAt wr w0 B0 Bk Mw cv us cs lw blk N) (hrow : SlR (IntR .i64) w0 u c) (hown : OwnAt w1 23 1 v' (cs.length + 1) (us ++ [u])) (hgr : (wr.alloc (.cells #[u] E)).grownBy w1 cv.ownBlock) (hat : v'.ownBlock = cv.ownBlock ∨ v'.ownBlock = some (wr.heap.size + 1)) :
    w1.frozen? ⟨Bk, 0, none⟩ = false ∧ w1.cell? ⟨Bk, 0, none⟩ = some cv ∧ BkAt (w1.setCell ⟨Bk, 0, none⟩ v') w0 B0 Bk Mw v' (us ++ [u]) (cs ++ [c]) lw blk N ∧ Below B0 wr (w1.setCell ⟨Bk, 0, none⟩ v') := by
  have same1 : ∀ g, g < wr.heap.size → cv.ownBlock ≠ some g → w1.heap[g]? = wr.heap[g]? := fun g hg hne => (hgr.block g (by simp; omega) (Ne.symm hne)).trans (Below.heap_alloc wr _ g hg)
  have hBlt := h.lt
  have hMlt := h.map_.lt
  have hcM : cv.ownBlock ≠ some Mw := own_map_ne h.map_ h.own
  have hcB : cv.ownBlock ≠ some Bk := own_block_ne h.own h.st (by decide)
  have hB1 : w1.heap[Bk]? = some (.cells #[cv, .map (some Mw)] 83 (0, 0)) := (same1 Bk hBlt hcB).trans h.st
  have hBM : Bk ≠ Mw := fun e => map_block h.map_ (by rw [← e]; exact h.st)
  have hs1 : wr.heap.size + 1 ≤ w1.heap.size := by have := hgr.size; simpa using this
  have hbb := below_append (w0 := wr) (B := B0) (Below.refl _ _) (by have := h.bk; omega) h.bc hgr hat
  refine ⟨by simp [World.frozen?, hB1], by rw [cell_of_row w1 Bk 0 _ _ _ hB1]; rfl, ?_, hbb.1.setCell (by exact h.bk) _⟩
  have same2 : ∀ g, g ≠ Bk → (w1.setCell ⟨Bk, 0, none⟩ v').heap[g]? = w1.heap[g]? := fun g hne => Below.heap_setCell w1 _ _ g hne
  have hvB : v'.ownBlock ≠ some Bk := own_block_ne hown hB1 (by decide)
  refine ⟨by rw [heap_setCell_same w1 Bk 0 _ _ _ hB1]; rfl, ?_, h.rows.snoc hrow, ?_, h.inj, h.bk, h.bm, hbb.2, ?_, h.small⟩
  · have h3 := hown.setCell (p := ⟨Bk, 0, none⟩) hvB v'
    simpa using h3
  · refine h.map_.keep ((same2 Mw hBM.symm).trans (same1 Mw hMlt hcM)) fun k u2 a hr => ⟨hr.1, hr.2.same fun g hg => ?_⟩
    have hgB : g ≠ Bk := fun e => own_block_ne hr.2 h.st (by decide) (by rw [← e]; exact hg)
    refine (same2 g hgB).trans (same1 g (hr.2.lt g hg) ?_)
    rcases ownAt_ne hr.2 h.own (by decide) with h0 | h0
    · rw [h0] at hg; cases hg
    · rw [← hg]; exact Ne.symm h0
  · intro k g hg
    have := h.bb k g hg
    exact ⟨this.1, by simp [World.setCell]; omega⟩

def SomeBk (w w0 : World) (B0 Bk Mw : Nat) (us : List Value) (cs : List (List Int)) (N : Nat) (c : List Int) (u : Value) (e : Ending) (w' : World) : Prop :=
  ∃ cv' lw' blk', e = .returned (.tuple #[]) ∧ BkAt w' w0 B0 Bk Mw cv' (us ++ [u]) (cs ++ [c]) lw' blk' (N + c.length) ∧ Idx (cs ++ [c]) lw' ∧ Below B0 w w'

set_option maxRecDepth 100000 in
set_option maxHeartbeats 6000000 in
theorem write_any (w0 : World) (B0 Bk Mw : Nat) (cv : Value) (us : List Value) (cs : List (List Int)) (lw : List (Int × List Int)) (blk : Int → Option Nat) (N n : Nat) (A : Option Addr) (m d : Nat) (c : List Int) (w : World)
    (h : BkAt w w0 B0 Bk Mw cv us cs lw blk N) (hidx : Idx cs lw) (hA : SlAt (IntR .i64) w A m c) (hA0 : SlAt (IntR .i64) w0 A m c) (hAB : w0.heap.size ≤ B0) (hc : S.isClause n c = true) (hn : n ≤ 4000) (hN : N + c.length ≤ 100000000) (hcs : cs.length ≤ 100000) :
    Calls Try.prog 54 #[.pointer (some ⟨Bk, 0, none⟩), .slice A m d] w (SomeBk w w0 B0 Bk Mw us cs N c (.slice A m d)) := by
  have hl := hA.le
  have hmc := hA.len
  have HA := Lib.hid hA; clear hA
  have HA0 := Lib.hid hA0; clear hA0
  have H := Lib.hid h; clear h
  have HC := Lib.hid hc; clear hc
  have HI := Lib.hid hidx; clear hidx
  have HAB := Lib.hid hAB; clear hAB
  have Hmc := Lib.hid hmc; clear hmc
  go_enter Try.func54, Try.ntmps54
  go_wp2
  go_loopg [8] (m + 1) (fun g i wr => ∃ (k : Nat) (lw1 : List (Int × List Int)) (blk1 : Int → Option Nat), k ≤ m ∧ i = .int .i64 (k : Int) ∧ g + k = m + 1 ∧ BkAt wr w0 B0 Bk Mw cv us cs lw1 blk1 (N + k) ∧ IdxTo cs c k lw1 ∧ Below B0 w wr)
  case atStart => exact ⟨0, lw, blk, Nat.zero_le _, rfl, rfl, H.out, HI.out.to c, Below.refl _ _⟩
  case round =>
    obtain ⟨k, lw1, blk1, hk, rfl, hgk, hbk, hidx, hbw⟩ := hrel
    have Hgk := Lib.hid hgk; clear hgk
    have Hbk := Lib.hid hbk; clear hbk
    have HI1 := Lib.hid hidx; clear hidx
    by_cases hlt : k < m
    · have hslr : SlAt (IntR .i64) wr A m c := by
        refine ⟨HA.out.1, HA.out.2.1, fun j y hy => ?_⟩
        obtain ⟨b, off, u, e1, e2, e3, e4⟩ := HA.out.2.2 j y hy
        have hb : b < B0 := by
          obtain ⟨b2, off2, u2, f1, f2, _⟩ := HA0.out.2.2 j y hy
          rw [e1] at f1; cases f1
          have := HAB.out; omega
        exact ⟨b, off, u, e1, Nat.lt_of_lt_of_le e2 hbw.size, (hbw.cell (p := ⟨b, off + j, none⟩) hb).trans e3, e4⟩
      obtain ⟨x, b, off, u, hx, rfl, hbsz, h1, rfl⟩ := hslr.at_ hlt
      clear hslr
      obtain ⟨hx1, hx2, hx3⟩ := isLit_wf ⟨by omega, by omega⟩ (lit_at HC.out hx)
      have Hx := Lib.hid hx; clear hx hx3
      obtain ⟨u, hlook, hown, hblk⟩ := Hbk.out.look (x := x) (by omega)
      have hc0 := Hbk.out.c0
      have hc1 := Hbk.out.c1
      obtain ⟨AC, cc, hcv⟩ := Hbk.out.own.form
      have hlenN := Hbk.out.small x
      have hlk1 := hlook wr.drew rfl
      have hlk2 := hlook ((wr.alloc (.cells #[.int .i64 (cs.length : Int)] 3)).drew) (Below.heap_alloc wr _ Mw Hbk.out.map_.lt)
      obtain ⟨AU, cu, hu⟩ := hown.form
      obtain ⟨L, hL⟩ : ∃ L, L = (gl lw1 x).length := ⟨_, rfl⟩
      rw [← hL] at hown hu hlenN
      subst hu
      subst hcv
      have Hlook := Lib.hid hlook; clear hlook
      have Hown := Lib.hid hown; clear hown
      have Hblk := Lib.hid hblk; clear hblk
      have HL := Lib.hid hL; clear hL
      have hW : Below wr.heap.size wr ((wr.alloc (.cells #[.int .i64 (cs.length : Int)] 3)).drew) := ((Below.refl _ _).alloc (Nat.le_refl _) _).drew
      have HW := Lib.hid hW; clear hW
      have hL1 : L + 1 ≤ 1000000000 := by have := Hmc.out; omega
      have hc0' : (wr.alloc (.cells #[.int .i64 (cs.length : Int)] 3)).cell? ⟨Bk, 0, none⟩ = _ := (HW.out.cell (p := ⟨Bk, 0, none⟩) Hbk.out.lt).trans hc0
      have hc1' : (wr.alloc (.cells #[.int .i64 (cs.length : Int)] 3)).cell? ⟨Bk, 1, none⟩ = _ := (HW.out.cell (p := ⟨Bk, 1, none⟩) Hbk.out.lt).trans hc1
      go_wp2_with fail
      go_region_law (first
        | (refine step_append_src _ rfl (.tmp 22) (.tmp 28) 23 rfl 3 (.int .i64 0) 1 8 Try.underlying23 Try.infoInt rfl (by omega) (.slice AU L cu) L _ rfl (Hown.out.same (fun g hg => (HW.out.block g (Hown.out.lt g hg)))) (some ⟨wr.heap.size, 0, none⟩) 1 1 [.int .i64 (cs.length : Int)] rfl rfl (fun j v hv => ⟨_, rfl, cell_one_new wr _ _ j v hv⟩) (by simp [Value.oneCell']) hL1 (by omega) ?_
           intro v' w1 hown1 hgr hat
           have hst := write_step Hbk.out ⟨hx1, hx2⟩ (by rw [← HL.out]; exact Hown.out) Hblk.out HW.out (by simp) (by rw [← HL.out]; exact hown1) hgr hat
           obtain ⟨hc11, w2, hup, hbk2, hbw2⟩ := hst
           have Hbk2 := Lib.hid hbk2
           have Hbw2 := Lib.hid hbw2
           clear hbk2 hbw2 hown1 hgr hat hlk1 hlk2 hc0 hc1 hc0' hc1'))
      all_goals
        clear hc11 hup
        go_wp2
        go_roundg (gk - 1)
        case measure => have := Hgk.out; omega
        case rel =>
          have := Hgk.out
          obtain ⟨blk2, h2⟩ := Hbk2.out
          exact ⟨k + 1, _, blk2, by omega, by go_num, by omega, h2, HI1.out.step Hx.out, hbw.trans Hbw2.out⟩
    · obtain rfl : k = m := by omega
      have hc0 := Hbk.out.c0
      have hf0 := Hbk.out.f0
      obtain ⟨AC, cc, hcv⟩ := Hbk.out.own.form
      subst hcv
      have hrow : SlR (IntR .i64) w0 (.slice A k d) c := SlR.mk_ HA0.out
      have Hrow := Lib.hid hrow; clear hrow
      go_wp2_with (at_builtin; refine wpList_append_one _ rfl (.tmp 35) (.tmp 37) 22 rfl 23 (.slice none 0 0) 24 Try.underlying22 Try.infoSl rfl _ cs.length _ rfl Hbk.out.own (.slice A k d) rfl 23 rfl (by omega) (by omega) ?_; intro v' w1 hown1 hgr hat; obtain ⟨A2, c2, rfl⟩ := hown1.form; have Hst := Lib.hid (write_last Hbk.out Hrow.out hown1 hgr hat); clear hown1 hgr hat; have hf1 := Hst.out.1; have hcl1 := Hst.out.2.1)
      refine bodyPost_end (results_none rfl _ _ _) rfl ?_
      refine ⟨.slice A2 (cs.length + 1) c2, lw1, blk1, rfl, ?_, HI1.out.done (by rw [Hmc.out]; exact Nat.le_refl _), hbw.trans Hst.out.2.2.2⟩
      rw [Hmc.out]
      exact Hst.out.2.2.1
end Go.Proofs.Ytceelipcclfdmaa
