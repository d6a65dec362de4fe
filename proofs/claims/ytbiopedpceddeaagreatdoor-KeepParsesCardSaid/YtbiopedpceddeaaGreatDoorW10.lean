/- Merged: C4V3. -/
import Derived.Test.YtbiopedpceddeaaGreatDoorW09
set_option linter.unusedVariables false
set_option linter.unusedSimpArgs false
namespace Go.Proofs.YtbiopedpceddeaaGreatDoor
open Go.RowKit Go.MapKept Go.Maps Go.WideMaps
set_option linter.unusedVariables false
set_option linter.unusedSimpArgs false

theorem infoInt1 : (Tryz.prog.info? 3).map (·.size) = some 1 := by kernel_rfl

/-- the operands of a node, padded -/
theorem copy_args {x : T.Nd} (hx : NWf x) {A : Option Addr} {c : Nat} {w : World} {g : Nat} (hA : SlAt (IntR .i64) w A x.args.length x.args)
    (hg : w.heap[g]? = some (.cells #[.int .i64 x.op, .int .i64 x.w, .int .i64 x.fl, .int .u32 x.imm, .int .i64 (-1), .int .i64 (-1), .int .i64 (-1)] 213 (0, 0))) (o : TypeId) :
    ∃ w', (Builtin.copy_ #[60, 60] o #[.slice (some ⟨g, 4, none⟩) 3 3, .slice A x.args.length c]).run Tryz.prog w = .ok (.int .i64 (x.args.length : Int)) w' ∧
      w.grownBy w' (some g) ∧ w'.heap.size = w.heap.size ∧ w'.heap[g]? = some (.cells #[.int .i64 x.op, .int .i64 x.w, .int .i64 x.fl, .int .u32 x.imm, .int .i64 (kyOf x).a0, .int .i64 (kyOf x).a1, .int .i64 (kyOf x).a2] 213 (0, 0)) := by
  have hlen := hx.len
  cases A with
  | none =>
    have hn : x.args = [] := by
      cases h : x.args with
      | nil => rfl
      | cons a l =>
        obtain ⟨b, off, u, e, _⟩ := hA.2.2 0 a (by rw [h]; rfl)
        cases e
    refine ⟨w, ?_, ⟨rfl, rfl, rfl, Nat.le_refl _, fun _ _ _ => rfl⟩, rfl, ?_⟩
    · rw [hn]
      simp [Builtin.copy_, run_underlying Tryz.underlying60, Builtin.lenOf, Builtin.firstCells, storeCells]
      rfl
    · rw [hg]; simp [kyOf, hn]
  | some a =>
    obtain ⟨us, hul, husrc, hur⟩ := hA.cells
    have huc : ∀ j v, us[j]? = some v → w.cell? (a.add j) = some v := fun j v hv => by
      obtain ⟨ad, e, hc⟩ := husrc j v hv
      cases e
      exact hc
    have hus : us = x.args.map (Value.int .i64) := by
      apply List.ext_getElem?
      intro i
      rw [List.getElem?_map]
      cases h : us[i]? with
      | none =>
        rw [List.getElem?_eq_none_iff] at h
        rw [List.getElem?_eq_none (by omega)]; rfl
      | some u =>
        have hi : i < x.args.length := by rw [← hul]; exact (List.getElem?_eq_some_iff.1 h).1
        rw [List.getElem?_eq_getElem hi]
        exact congrArg some (hur i _ u (List.getElem?_eq_getElem hi) h)
    have hrun := run_copy_row (P := Tryz.prog) w 60 60 o 3 g 4 3 3 a x.args.length c _ _ us Tryz.underlying60 infoInt1 hg (by rw [hul]; exact (Nat.min_eq_left hlen).symm) huc (by simp; omega) (by
      rw [hus]; intro u hu; obtain ⟨n, _, rfl⟩ := List.mem_map.1 hu; rfl)
    rw [hul] at hrun
    refine ⟨_, hrun, ⟨rfl, rfl, rfl, by simp, fun k _ hk => setRow_other w g k _ (fun e => hk (by rw [e]))⟩, by simp, ?_⟩
    rw [setRow_heap w g _ _ _ _ hg, hus]
    rcases x with ⟨op, wd, fl, args, imm⟩
    simp only at *
    rcases args with _ | ⟨a0, _ | ⟨a1, _ | ⟨a2, _ | ⟨a3, l⟩⟩⟩⟩
    · rfl
    · rfl
    · rfl
    · rfl
    · simp at hlen

theorem look_found {w : World} {out : List T.Nd} {fm : Option Nat} {M : Nat → Prop} (hfm : (fm = none ∧ out = []) ∨ ∃ fb, fm = some fb ∧ M fb ∧ MapAt Tryz.prog 213 kyV IntE w fb (ents out)) {x : T.Nd} (hx : NWf x) (ho : ∀ y ∈ out, NWf y)
    (w' : World) (hw : ∀ fb, fm = some fb → w'.heap[fb]? = w.heap[fb]?) :
    (Instr.lookup 146 (.map fm) (kyV (kyOf x)) true).run Tryz.prog w' = .ok (.tuple #[.int .i64 (if x ∈ out then ((out.idxOf x : Nat) : Int) else 0), .bool (decide (x ∈ out))]) w' := by
  obtain ⟨kl, hkl⟩ := keyOf_ky hx.ky
  have hz : ∀ w, (zeroValue 3).run Tryz.prog w = .ok (.int .i64 0) w := fun w => by go_simp
  rcases hfm with ⟨rfl, rfl⟩ | ⟨fb, rfl, _, hM⟩
  · have hf : (Instr.findKey 213 (kyV (kyOf x)) []).run Tryz.prog w' = .ok none w' := by
      rcases keyKeyed.find w' hkl [] (fun e he => by simp at he) with ⟨h1, _⟩ | ⟨j, e, _, h2, _⟩
      · exact h1
      · simp at h2
    have hc := keyKeyed.check w' true hkl
    simp [Instr.lookup, run_underlying Tryz.underlying146, hc, hz, Result.andThen, hf]
  · obtain ⟨u, _, h2, h3⟩ := (hM.keep (R' := IntE) (hw fb rfl) (fun _ _ _ h => h)).lookup keyKeyed kyV_inj Tryz.underlying146 (hz w') hkl
    rw [ents_get hx ho] at h2 h3
    rw [h2]
    by_cases hm : x ∈ out
    · rw [if_pos hm] at h2 h3 ⊢
      rcases h3 with ⟨h3, _⟩ | ⟨a, h3, h4⟩
      · cases h3
      · cases h3
        rw [show u = _ from h4]
        simp [hm]
    · rw [if_neg hm] at h2 h3 ⊢
      rcases h3 with ⟨_, h3⟩ | ⟨a, h3, h4⟩
      · rw [h3]; simp [hm]
      · cases h3

theorem map_nil_equalIn (m : Option Nat) (w : World) (d : Nat) : (Op.equalIn (d + 1) 146 (Value.map m) (Value.map none)).run Tryz.prog w = .ok m.isNone w := by
  cases m <;> simp [Op.equalIn, run_underlying Tryz.underlying146]
theorem map_nil_eq (m : Option Nat) (w : World) : (binOp BinOp.eql 146 (Value.map m) (Value.map none)).run Tryz.prog w = .ok (.bool m.isNone) w := by
  have h := map_nil_equalIn m w 9999
  simp only [binOp]
  simp [Op.equal, show (Op.equalIn Op.maxDepth 146 (Value.map m) (Value.map none)).run Tryz.prog w = _ from h]

theorem run_makeMap_any {P : Program} {t k e : TypeId} (ht : P.underlying t = some (.map k e)) (w : World) : (Instr.makeMap t none).run P w = .ok (.map (some w.heap.size)) (w.alloc (.map #[] 0)) := by
  simp [Instr.makeMap]

/-- what lies in memory when a new node is about to be added -/
structure AddSt (W : World) (bb : Nat) (out : List T.Nd) (M : Nat → Prop) (x : T.Nd) (A : Option Addr) (c : Nat) (Av : Option Addr) (cv fb : Nat) (w : World) : Prop where
  kp : Kpm M W w
  row : w.heap[bb]? = some (.cells #[.slice Av out.length cv, .map (some fb)] 148 (0, 0))
  map_ : MapAt Tryz.prog 213 kyV IntE w fb (ents out)
  fb : M fb ∨ W.heap.size ≤ fb
  own : OwnM M w (.slice Av out.length cv) out
  nd : w.heap[W.heap.size]? = some (.cells #[.int .i64 x.op, .int .i64 x.w, .int .i64 x.fl, .slice A x.args.length c, .int .u32 x.imm] 62 (0, 0))
  key : w.heap[W.heap.size + 1]? = some (.cells #[.int .i64 x.op, .int .i64 x.w, .int .i64 x.fl, .int .u32 x.imm, .int .i64 (kyOf x).a0, .int .i64 (kyOf x).a1, .int .i64 (kyOf x).a2] 213 (0, 0))

theorem key_cells {w : World} {g : Nat} {T : TypeId} {a0 a1 a2 a3 a4 a5 a6 : Value} (h : w.heap[g]? = some (.cells #[a0, a1, a2, a3, a4, a5, a6] T (0, 0))) :
    w.cell? ⟨g, 0, none⟩ = some a0 ∧ w.cell? ⟨g, 1, none⟩ = some a1 ∧ w.cell? ⟨g, 2, none⟩ = some a2 ∧ w.cell? ⟨g, 3, none⟩ = some a3 ∧ w.cell? ⟨g, 4, none⟩ = some a4 ∧ w.cell? ⟨g, 5, none⟩ = some a5 ∧ w.cell? ⟨g, 6, none⟩ = some a6 := by
  refine ⟨?_, ?_, ?_, ?_, ?_, ?_, ?_⟩
  all_goals rw [cell_of_row _ _ _ _ _ (0, 0) h]; rfl

theorem AddSt.drew {W : World} {bb : Nat} {out : List T.Nd} {M : Nat → Prop} {x : T.Nd} {A : Option Addr} {c : Nat} {Av : Option Addr} {cv fb : Nat} {w : World} (h : AddSt W bb out M x A c Av cv fb w) : AddSt W bb out M x A c Av cv fb w.drew :=
  ⟨h.kp.drew, h.row, h.map_.keep rfl (fun _ _ _ h => h), h.fb, h.own.same (fun _ _ => rfl), h.nd, h.key⟩

/-- the key is there; the node is not yet -/
structure PutSt (W : World) (bb : Nat) (out : List T.Nd) (M : Nat → Prop) (x : T.Nd) (A : Option Addr) (c : Nat) (Av : Option Addr) (cv fb : Nat) (w : World) : Prop where
  kp : Kpm M W w
  row : w.heap[bb]? = some (.cells #[.slice Av out.length cv, .map (some fb)] 148 (0, 0))
  map_ : MapAt Tryz.prog 213 kyV IntE w fb (ents (out ++ [x]))
  fb : M fb ∨ W.heap.size ≤ fb
  own : OwnM M w (.slice Av out.length cv) out
  nd : w.heap[W.heap.size]? = some (.cells #[.int .i64 x.op, .int .i64 x.w, .int .i64 x.fl, .slice A x.args.length c, .int .u32 x.imm] 62 (0, 0))

theorem AddSt.put {W : World} {B bb : Nat} {out : List T.Nd} {M : Nat → Prop} {x : T.Nd} {A : Option Addr} {c : Nat} {Av : Option Addr} {cv fb : Nat} {w : World} (h : AddSt W bb out M x A c Av cv fb w) (hb : BuAt W B bb out M) (hx : NWf x) (hn : x ∉ out) :
    ∃ w', (Instr.mapUpdate 146 (.map (some fb)) (.agg #[.int .i64 x.op, .int .i64 x.w, .int .i64 x.fl, .int .u32 x.imm, .int .i64 (kyOf x).a0, .int .i64 (kyOf x).a1, .int .i64 (kyOf x).a2]) (.int .i64 (out.length : Int))).run Tryz.prog w = .ok () w' ∧ PutSt W bb out M x A c Av cv fb w' := by
  obtain ⟨kl, hkl⟩ := keyOf_ky hx.ky
  obtain ⟨w', h1, h2, h3, h4⟩ := h.map_.update keyKeyed kyV_inj Tryz.underlying146 hkl (.int .i64 (out.length : Int))
  have hmap : ∀ cur T fr, w.heap[fb]? ≠ some (.cells cur T fr) := by
    obtain ⟨es, clock, he, _⟩ := h.map_
    intro cur T fr hc
    rw [he] at hc
    cases hc
  have hlt : ∀ {g : Nat} {o : Obj}, w.heap[g]? = some o → g < w.heap.size := fun hg => (Array.getElem?_eq_some_iff.1 hg).1
  refine ⟨w', h1, ?_, ?_, ?_, h.fb, ?_, ?_⟩
  · refine ⟨h2.os.trans h.kp.os, h2.tape.trans h.kp.tape, h2.output.trans h.kp.output, Nat.le_trans h.kp.size h2.size, fun i hi hm => ?_⟩
    refine (h2.block i (Nat.lt_of_lt_of_le hi h.kp.size) (fun e => ?_)).trans (h.kp.block i hi hm)
    injection e with e
    rcases h.fb with hf | hf
    · exact hm (e ▸ hf)
    · omega
  · exact (h2.block bb (hlt h.row) (fun e => by cases e; exact hmap _ _ _ h.row)).trans h.row
  · have := h4 IntE (out.length : Int) (fun _ _ _ _ h => h) rfl
    rwa [ents_put hx hb.wf hn] at this
  · exact h.own.grown h2 fun g cur T fr e hc => by cases e; exact absurd hc (hmap _ _ _)
  · exact (h2.block _ (hlt h.nd) (fun e => by cases e; exact hmap _ _ _ h.nd)).trans h.nd

theorem PutSt.below {W : World} {bb : Nat} {out : List T.Nd} {M : Nat → Prop} {x : T.Nd} {A : Option Addr} {c : Nat} {Av : Option Addr} {cv fb : Nat} {w w' : World} (h : PutSt W bb out M x A c Av cv fb w) (hk : Below w.heap.size w w') : PutSt W bb out M x A c Av cv fb w' := by
  have hlt : ∀ {g : Nat} {o : Obj}, w.heap[g]? = some o → g < w.heap.size := fun hg => (Array.getElem?_eq_some_iff.1 hg).1
  refine ⟨h.kp.trans (Kpm.of_below hk (fun _ => False)) (fun _ _ h => h.elim), (hk.block _ (hlt h.row)).trans h.row, h.map_.keep (hk.block _ h.map_.lt) (fun _ _ _ h => h), h.fb, ?_, (hk.block _ (hlt h.nd)).trans h.nd⟩
  obtain ⟨cells, h1, h2, h3⟩ := h.own
  refine ⟨cells, h1.below hk h1.lt, fun k y hy => ?_, h3⟩
  obtain ⟨A', c', e1, e2, e3, e4, e5⟩ := h2 k y hy
  refine ⟨A', c', e1, e2.below (monoInt _) hk, e3, e4, fun hn b off hA => ?_⟩
  obtain ⟨hm, cur, fr, hc⟩ := e5 hn b off hA
  exact ⟨hm, cur, fr, (hk.block _ (hlt hc)).trans hc⟩

/-- the memory behind a new node -/
def NewM (W : World) (M : Nat → Prop) (A : Option Addr) (l : List Int) (w : World) (i : Nat) : Prop := M i ∨ (W.heap.size ≤ i ∧ i < w.heap.size) ∨ InA A l i

theorem PutSt.fin {W : World} {B bb : Nat} {out : List T.Nd} {M : Nat → Prop} {x : T.Nd} {A : Option Addr} {c : Nat} {Av : Option Addr} {cv fb : Nat} {w w7 : World} {cells : List Value} {v' : Value} (h : PutSt W bb out M x A c Av cv fb w) (hb : BuAt W B bb out M) (hB : B ≤ W.heap.size) (hA : ArgAt B M W A x.args) (hx : NWf x) (hn : x ∉ out)
    (h1 : OwnAt w 62 5 (.slice Av out.length cv) out.length cells) (h2 : ∀ (k : Nat) (x : T.Nd), out[k]? = some x → NdM M w ((cells.drop (k * 5)).take 5) x) (h3 : ∀ g, (Value.slice Av out.length cv).ownBlock = some g → M g)
    (hown : OwnAt w7 62 5 v' (out.length + 1) (cells ++ ndC x A c)) (hgr : w.grownBy w7 (Value.slice Av out.length cv).ownBlock) (hat : v'.ownBlock = (Value.slice Av out.length cv).ownBlock ∨ v'.ownBlock = some w.heap.size) :
    w7.heap[bb]? = some (.cells #[.slice Av out.length cv, .map (some fb)] 148 (0, 0)) ∧
    BuAt (w7.setCell ⟨bb, 0, none⟩ v') B bb (out ++ [x]) (NewM W M A x.args w7) ∧ Kpm M W (w7.setCell ⟨bb, 0, none⟩ v') := by
  have hlt : ∀ {g : Nat} {o : Obj}, w.heap[g]? = some o → g < w.heap.size := fun hg => (Array.getElem?_eq_some_iff.1 hg).1
  have hrow : ∀ g, (Value.slice Av out.length cv).ownBlock = some g → ∃ cur fr, w.heap[g]? = some (.cells cur 62 fr) := OwnM.row ⟨cells, h1, h2, h3⟩
  have hrb : w7.heap[bb]? = some (.cells #[.slice Av out.length cv, .map (some fb)] 148 (0, 0)) := by
    refine (hgr.block bb (hlt h.row) fun e => ?_).trans h.row
    obtain ⟨cur, fr, hc⟩ := hrow bb e.symm
    rw [h.row] at hc
    injection hc with hc
    injection hc with _ hc _
    exact absurd hc (by decide)
  have hkp : Kpm M W w7 := ⟨hgr.os.trans h.kp.os, hgr.tape.trans h.kp.tape, hgr.output.trans h.kp.output, Nat.le_trans h.kp.size hgr.size, fun i hi hm =>
    (hgr.block i (Nat.lt_of_lt_of_le hi h.kp.size) (fun e => hm (h3 i e.symm))).trans (h.kp.block i hi hm)⟩
  have hkp2 : Kpm M W (w7.setCell ⟨bb, 0, none⟩ v') := hkp.setCell (fun _ => hb.self) _
  refine ⟨hrb, ⟨?_, .inl hb.self, ?_, v', some fb, heap_setCell_same _ bb 0 _ _ v' hrb, ⟨cells ++ ndC x A c, ?_, ?_, ?_⟩, .inr ⟨fb, rfl, ?_, ?_⟩⟩, hkp2⟩
  · rintro i (hi | ⟨h1, h2⟩ | ⟨hne, off, rfl⟩)
    · have := hb.in_ i hi
      have := hkp2.size
      exact ⟨by omega, by omega⟩
    · exact ⟨by omega, by simpa using h2⟩
    · obtain ⟨hge, _, cur, fr, hc⟩ := hA.2 hne i off rfl
      have := (Array.getElem?_eq_some_iff.1 hc).1
      have := hkp2.size
      exact ⟨hge, by omega⟩
  · intro y hy
    rcases List.mem_append.1 hy with hy | hy
    · exact hb.wf y hy
    · simp at hy; subst hy; exact hx
  · have hl : (out ++ [x]).length = out.length + 1 := by simp
    rw [hl]
    refine hown.setCell (fun e => ?_) _
    rcases hat with e' | e'
    · rw [e'] at e
      obtain ⟨cur, fr, hc⟩ := hrow _ e
      rw [h.row] at hc
      injection hc with hc
      injection hc with _ hc _
      exact absurd hc (by decide)
    · rw [e'] at e
      injection e with e
      have := hlt h.row
      simp at e
      omega
  · -- the nodes
    have keep : ∀ (us : List Value) (y : T.Nd), NdM M w us y → NdM (NewM W M A x.args w7) (w7.setCell ⟨bb, 0, none⟩ v') us y := by
      intro us y hy
      have g1 := hy.grown hgr (fun g cur fr e hc => by
        obtain ⟨cur', fr', hc'⟩ := hrow g e
        rw [hc] at hc'
        injection hc' with hc'
        injection hc' with _ hc' _
        exact absurd hc' (by decide))
      have g2 := g1.grown (w' := w7.setCell ⟨bb, 0, none⟩ v') (row := some bb) ⟨rfl, rfl, rfl, by simp, fun i _ hi => Below.heap_setCell _ _ _ i (fun e => hi (by rw [e]))⟩ (fun g cur fr e hc => by
        cases e
        rw [hrb] at hc
        injection hc with hc
        injection hc with _ hc _
        exact absurd hc (by decide))
      exact g2.weak fun i hi => .inl hi
    intro k y hy
    have hcl : cells.length = out.length * 5 := h1.1
    rcases Nat.lt_or_ge k out.length with hk | hk
    · rw [List.getElem?_append_left hk] at hy
      have e : ((cells ++ ndC x A c).drop (k * 5)).take 5 = (cells.drop (k * 5)).take 5 := by
        rw [List.drop_append_of_le_length (by omega), List.take_append_of_le_length (by rw [List.length_drop]; omega)]
      rw [e]
      exact keep _ y (h2 k y hy)
    · rw [List.getElem?_append_right hk] at hy
      have hk0 : k = out.length := by
        rcases Nat.eq_zero_or_pos (k - out.length) with e | e
        · omega
        · rw [List.getElem?_eq_none (by simp; omega)] at hy; cases hy
      subst hk0
      simp at hy
      subst hy
      have e : ((cells ++ ndC x A c).drop (out.length * 5)).take 5 = ndC x A c := by
        rw [← hcl, List.drop_left, List.take_of_length_le (by rw [ndC_len]; exact Nat.le_refl _)]
      rw [e]
      -- the operands: no block of the builder's nodes, nor the builder
      have hkA : SlAt (IntR .i64) (w7.setCell ⟨bb, 0, none⟩ v') A x.args.length x.args ∧ (x.args ≠ [] → ∀ b off, A = some ⟨b, off, none⟩ → ∃ cur fr, (w7.setCell ⟨bb, 0, none⟩ v').heap[b]? = some (.cells cur 3 fr)) := by
        refine ⟨hA.1.kpm hkp2 fun hne b off e => (hA.2 hne b off e).2.1, fun hne b off e => ?_⟩
        obtain ⟨_, hm, cur, fr, hc⟩ := hA.2 hne b off e
        exact ⟨cur, fr, (hkp2.block b (Array.getElem?_eq_some_iff.1 hc).1 hm).trans hc⟩
      exact ⟨A, c, rfl, hkA.1, hx.imm.1, hx.imm.2, fun hne b off hb => ⟨.inr (.inr ⟨hne, off, hb⟩), hkA.2 hne b off hb⟩⟩
  · intro g hg
    rcases hat with e' | e'
    · rw [e'] at hg
      exact .inl (h3 g hg)
    · rw [e'] at hg
      injection hg with hg
      subst hg
      refine .inr (.inl ⟨h.kp.size, ?_⟩)
      have := hown.lt _ e'
      exact this
  · rcases h.fb with hf | hf
    · exact .inl hf
    · have := h.map_.lt
      have := hgr.size
      exact .inr (.inl ⟨hf, by omega⟩)
  · obtain ⟨es, clock, he, _⟩ := h.map_
    have hne : fb ≠ bb := by
      rintro rfl
      rw [h.row] at he; cases he
    refine h.map_.keep ?_ (fun _ _ _ h => h)
    rw [heap_setCell_other _ _ _ _ hne]
    refine hgr.block fb h.map_.lt fun e => ?_
    obtain ⟨cur, fr, hc⟩ := hrow fb e.symm
    rw [he] at hc; cases hc

theorem nd5_cells {w : World} {g : Nat} {T : TypeId} {a0 a1 a2 a3 a4 : Value} (h : w.heap[g]? = some (.cells #[a0, a1, a2, a3, a4] T (0, 0))) :
    w.cell? ⟨g, 0, none⟩ = some a0 ∧ w.cell? ⟨g, 1, none⟩ = some a1 ∧ w.cell? ⟨g, 2, none⟩ = some a2 ∧ w.cell? ⟨g, 3, none⟩ = some a3 ∧ w.cell? ⟨g, 4, none⟩ = some a4 := by
  refine ⟨?_, ?_, ?_, ?_, ?_⟩
  all_goals rw [cell_of_row _ _ _ _ _ (0, 0) h]; rfl

def AddPost (W : World) (B bb : Nat) (out : List T.Nd) (M : Nat → Prop) (x : T.Nd) (A : Option Addr) (e : Ending) (W' : World) : Prop :=
  e = .returned (.int .i64 (T.addN out x).2) ∧ ∃ M', BuAt W' B bb (T.addN out x).1 M' ∧ Kpm M W W' ∧ (∀ i, M i → M' i) ∧ ∀ i, M' i → M i ∨ W.heap.size ≤ i ∨ InA A x.args i

theorem addPost_new {W W9 w7 : World} {B bb : Nat} {out : List T.Nd} {M : Nat → Prop} {x : T.Nd} {A : Option Addr} (hn : x ∉ out) (h : BuAt W9 B bb (out ++ [x]) (NewM W M A x.args w7)) (hk : Kpm M W W9) : AddPost W B bb out M x A (.returned (.int .i64 (out.length : Int))) W9 := by
  have e : T.addN out x = (out ++ [x], (out.length : Int)) := by
    unfold T.addN
    rw [if_neg hn, List.idxOf_eq_length hn]
  unfold AddPost
  rw [e]
  refine ⟨rfl, _, h, hk, fun i hi => .inl hi, ?_⟩
  rintro i (hi | ⟨hi, _⟩ | hi)
  · exact .inl hi
  · exact .inr (.inl hi)
  · exact .inr (.inr hi)

set_option maxRecDepth 100000 in
set_option maxHeartbeats 4000000 in
theorem gadd_any (B bb : Nat) (out : List T.Nd) (M : Nat → Prop) (x : T.Nd) (A : Option Addr) (c : Nat) (W : World) (hb : BuAt W B bb out M) (hB : B ≤ W.heap.size) (hA : ArgAt B M W A x.args) (hx : NWf x) (hn : out.length ≤ 900000) :
    Calls Tryz.prog 94 #[.pointer (some ⟨bb, 0, none⟩), ndV x A c] W (AddPost W B bb out M x A) := by
  obtain ⟨v, fm, hrow, hown, hfm⟩ := hb.cells
  obtain ⟨Av, cv, rfl⟩ := hown.form
  obtain ⟨W2, hW2⟩ : ∃ W2, W2 = (W.alloc (.cells #[.int .i64 x.op, .int .i64 x.w, .int .i64 x.fl, .slice A x.args.length c, .int .u32 x.imm] 62)).alloc (.cells #[.int .i64 x.op, .int .i64 x.w, .int .i64 x.fl, .int .u32 x.imm, .int .i64 (-1), .int .i64 (-1), .int .i64 (-1)] 213) := ⟨_, rfl⟩
  have hb2 : Below W.heap.size W W2 := by rw [hW2]; exact ((Below.refl _ _).alloc (Nat.le_refl _) _).alloc (by simp) _
  have hr0 : W2.heap[W.heap.size]? = some (.cells #[.int .i64 x.op, .int .i64 x.w, .int .i64 x.fl, .slice A x.args.length c, .int .u32 x.imm] 62 (0, 0)) := by rw [hW2]; exact row_alloc (heap_alloc_new W _) _
  have hr1 : W2.heap[W.heap.size + 1]? = some (.cells #[.int .i64 x.op, .int .i64 x.w, .int .i64 x.fl, .int .u32 x.imm, .int .i64 (-1), .int .i64 (-1), .int .i64 (-1)] 213 (0, 0)) := by rw [hW2]; exact new_two W _ _
  have hs2 : W2.heap.size = W.heap.size + 2 := by rw [hW2]; simp
  have Hb := Lib.hid hb
  have HB := Lib.hid hB
  have HA := Lib.hid hA
  have Hx := Lib.hid hx
  have Hrow := Lib.hid hrow
  have Hown := Lib.hid hown
  have Hb2 := Lib.hid hb2
  have Hr0 := Lib.hid hr0
  have Hr1 := Lib.hid hr1
  have hc3 : W2.cell? ⟨W.heap.size, 3, none⟩ = some (.slice A x.args.length c) := by rw [cell_of_row _ _ _ _ _ (0, 0) hr0]; rfl
  unfold ndV
  clear hb hB hA hx hrow hown hb2 hr0 hr1
  go_enter Tryz.func94, Tryz.ntmps94
  go_wp2_with fail
  rw [← hW2]
  clear hW2
  obtain ⟨w3, hcopy, hgr, hsz, hkrow⟩ := copy_args Hx.out (c := c) (HA.out.1.below (monoInt _) (Hb2.out.drew)) (show W2.drew.heap[_]? = _ from Hr1.out) 3
  have Hgr := Lib.hid hgr
  have Hsz := Lib.hid hsz
  have Hkrow := Lib.hid hkrow
  clear hgr hsz hkrow
  go_region
  clear hcopy hc3
  have hfound := look_found hfm Hx.out Hb.out.wf
  have Hfm := Lib.hid hfm
  clear hfm
  have hb3 : Below W.heap.size W w3 := (Hb2.out.drew).grown Hgr.out Hb2.out.size (fun g hg => by cases hg; omega)
  have Hb3 := Lib.hid hb3
  have Hgrb := Lib.hid (show Below (W.heap.size + 1) W2 w3 from ((Below.refl _ _).drew).grown Hgr.out (by show W.heap.size + 1 ≤ W2.heap.size; omega) (fun g hg => by cases hg; exact Nat.le_refl _))
  have Hr0b := Lib.hid (show w3.heap[W.heap.size]? = _ from (Hgrb.out.block W.heap.size (by omega)).trans Hr0.out)
  have Hs3 := Lib.hid (show w3.heap.size = W.heap.size + 2 from by rw [Hsz.out]; exact hs2)
  have hbs : bb < W.heap.size := (Hb.out.in_ bb Hb.out.self).2
  have hrow3 : w3.heap[bb]? = _ := (hb3.block bb hbs).trans Hrow.out
  have k0 : w3.cell? ⟨bb, 0, none⟩ = some (.slice Av out.length cv) := by rw [cell_of_row _ _ _ _ _ (0, 0) hrow3]; rfl
  have k1 : w3.cell? ⟨bb, 1, none⟩ = some (.map fm) := by rw [cell_of_row _ _ _ _ _ (0, 0) hrow3]; rfl
  have Hkey := Lib.hid (show ∀ X, Below w3.heap.size w3 X → X.cell? ⟨W.heap.size + 1, 0, none⟩ = some (.int .i64 x.op) ∧ X.cell? ⟨W.heap.size + 1, 1, none⟩ = some (.int .i64 x.w) ∧ X.cell? ⟨W.heap.size + 1, 2, none⟩ = some (.int .i64 x.fl) ∧ X.cell? ⟨W.heap.size + 1, 3, none⟩ = some (.int .u32 x.imm) ∧ X.cell? ⟨W.heap.size + 1, 4, none⟩ = some (.int .i64 (kyOf x).a0) ∧ X.cell? ⟨W.heap.size + 1, 5, none⟩ = some (.int .i64 (kyOf x).a1) ∧ X.cell? ⟨W.heap.size + 1, 6, none⟩ = some (.int .i64 (kyOf x).a2) from fun X hX => by
    have hr := row_step (Lib.hid hX) Hkrow.out
    refine ⟨?_, ?_, ?_, ?_, ?_, ?_, ?_⟩
    all_goals rw [cell_of_row _ _ _ _ _ (0, 0) hr]; rfl)
  obtain ⟨y0, y1, y2, y3, y4, y5, y6⟩ := Hkey.out w3 (Below.refl _ _)
  clear hrow3 hb3
  go_wp2
  obtain ⟨ov⟩ := ov_ex w3
  have k1o := ov.cell k1
  have z0 := ov.cell y0
  have z1 := ov.cell y1
  have z2 := ov.cell y2
  have z3 := ov.cell y3
  have z4 := ov.cell y4
  have z5 := ov.cell y5
  have z6 := ov.cell y6
  have hlk : ∀ u, (Instr.lookup 146 (.map fm) (.agg #[.int .i64 x.op, .int .i64 x.w, .int .i64 x.fl, .int .u32 x.imm, .int .i64 (kyOf x).a0, .int .i64 (kyOf x).a1, .int .i64 (kyOf x).a2]) true).run Tryz.prog (ov.f u) = _ := fun u => hfound (ov.f u) (fun fb e => by
    have hlt : fb < W.heap.size := by
      rcases Hfm.out with ⟨e', _⟩ | ⟨fb', e', hm, _⟩
      · rw [e'] at e; cases e
      · rw [e'] at e; cases e; exact (Hb.out.in_ fb hm).2
    exact ((ov.below u).block fb (by have := Hb3.out.size; omega)).trans (Hb3.out.block fb hlt))
  clear hfound k1 y0 y1 y2 y3 y4 y5 y6
  obtain ⟨fnd, hfnd⟩ : ∃ b, decide (x ∈ out) = b := ⟨_, rfl⟩
  obtain ⟨ix, hix⟩ : ∃ i : Int, (if x ∈ out then ((out.idxOf x : Nat) : Int) else 0) = i := ⟨_, rfl⟩
  rw [hfnd, hix] at hlk
  have Hfnd := Lib.hid hfnd
  have Hix := Lib.hid hix
  clear hfnd hix
  refine wp_region_ovq ov (by kernel_rfl) (by kernel_rfl) ?_
  repeat (go_big_quiet_step (fail))
  refine wpQuiet_nil ?_
  rintro _ ⟨u, rfl⟩
  have Hbo := Lib.hid (ov.below u)
  clear hlk k1o z0 z1 z2 z3 z4 z5 z6
  generalize ov.f u = w4 at *
  have Hb4 := Lib.hid (Hb3.out.trans (Hbo.out.mono Hb3.out.size))
  cases fnd
  · have hnm : x ∉ out := of_decide_eq_false Hfnd.out
    have Hnm := Lib.hid hnm
    clear hnm Hfnd Hix
    have hrow4 : w4.heap[bb]? = some (.cells #[.slice Av out.length cv, .map fm] 148 (0, 0)) := (Hb4.out.block bb hbs).trans Hrow.out
    have Hrow4 := Lib.hid hrow4
    have q0 := map_nil_eq fm w4
    rcases Hfm.out with ⟨e1, e2⟩ | ⟨fb, e1, hmfb, hM⟩
    · subst e1
      have he : ents out = [] := by rw [e2]; rfl
      have ma : (w4.alloc (.map #[] 0)).cell? ⟨bb, 1, none⟩ = some (.map none) := by rw [cell_of_row _ _ _ _ _ (0, 0) (row_alloc hrow4 _)]; rfl
      have mb : (w4.alloc (.map #[] 0)).frozen? ⟨bb, 1, none⟩ = false := frozen_row (row_alloc hrow4 _) _
      have m1 : w4.cell? ⟨bb, 1, none⟩ = some (.map none) := by rw [cell_of_row _ _ _ _ _ (0, 0) hrow4]; rfl
      have m2 : w4.frozen? ⟨bb, 1, none⟩ = false := frozen_row hrow4 _
      have q1 : (none : Option Nat).isNone = true := rfl
      rw [q1] at q0
      have hmk := fun W => run_makeMap_any (P := Tryz.prog) Tryz.underlying146 W
      have hS : ∃ fb, AddSt W bb out M x A c Av cv fb ((w4.alloc (.map #[] 0)).setCell ⟨bb, 1, none⟩ (.map (some w4.heap.size))) := by
        have hsz4 := Hb4.out.size
        have hsz2 := Hs3.out
        have hlt : bb < w4.heap.size := by omega
        refine ⟨w4.heap.size, ((Kpm.of_below Hb4.out M).alloc _).setCell (p := ⟨bb, 1, none⟩) (fun _ => Hb.out.self) _, ?_, ?_, .inr hsz4, ?_, ?_, ?_⟩
        · exact heap_setCell_same _ bb 1 _ _ (.map (some w4.heap.size)) (row_alloc hrow4 (.map #[] 0))
        · rw [he]
          refine (MapAt.made (R := IntE) w4).keep ?_ (fun _ _ _ h => h)
          exact heap_setCell_other _ _ _ _ (by simp; omega)
        · refine OwnM.grown (row := some bb) (w := w4.alloc (.map #[] 0)) ?_ ?_ ?_
          · exact Hown.out.same fun i hi => (Below.heap_alloc w4 _ i (by have := (Hb.out.in_ i hi).2; omega)).trans (Hb4.out.block i (Hb.out.in_ i hi).2)
          · exact ⟨rfl, rfl, rfl, by simp, fun i _ hi => Below.heap_setCell _ _ _ i (fun e => hi (by rw [e]))⟩
          · intro g cur T fr e hc
            cases e
            rw [row_alloc hrow4 (.map #[] 0)] at hc
            cases hc
            decide
        · refine (heap_setCell_other _ _ _ _ (by simp; omega)).trans (row_alloc (row_step Hbo Hr0b.out) _)
        · exact (heap_setCell_other _ _ _ _ (by simp; omega)).trans (row_alloc (row_step Hbo Hkrow.out) _)
      clear hrow4 k0 q1
      go_wp2
      obtain ⟨fb, hS⟩ := hS
      have HS := Lib.hid hS
      clear hS q0 m1 ma mb m2 e2 he
      generalize ((w4.alloc (.map #[] 0)).setCell ⟨bb, 1, none⟩ (.map (some w4.heap.size))) = w5 at *
      have hr5 := HS.out.row
      have k0 : w5.cell? ⟨bb, 0, none⟩ = some (.slice Av out.length cv) := by rw [cell_of_row _ _ _ _ _ (0, 0) hr5]; rfl
      have k1 : w5.cell? ⟨bb, 1, none⟩ = some (.map (some fb)) := by rw [cell_of_row _ _ _ _ _ (0, 0) hr5]; rfl
      obtain ⟨y0, y1, y2, y3, y4, y5, y6⟩ := key_cells HS.out.key
      obtain ⟨w6, hupd, h6⟩ := AddSt.put (HS.out.drew) Hb.out Hx.out Hnm.out
      have H6 := Lib.hid h6
      clear h6 hr5
      go_region
      clear hupd k0 k1 y0 y1 y2 y3 y4 y5 y6
      have hr6 := H6.out.row
      have k0 : w6.cell? ⟨bb, 0, none⟩ = some (.slice Av out.length cv) := by rw [cell_of_row _ _ _ _ _ (0, 0) hr6]; rfl
      have kf : w6.frozen? ⟨bb, 0, none⟩ = false := frozen_row hr6 _
      go_wp2
      clear k0
      obtain ⟨cells, hc1, hc2, hc3⟩ := H6.out.own
      have HW := Lib.hid (show Below w6.heap.size w6 ((w6.alloc (.cells (ndC x A c).toArray 62)).drew) from ((Below.refl _ _).alloc (Nat.le_refl _) _).drew)
      obtain ⟨n0, n1, n2, n3, n4⟩ := nd5_cells H6.out.nd
      have Hc1 := Lib.hid hc1
      have Hc2 := Lib.hid hc2
      have Hc3 := Lib.hid hc3
      clear hc1 hc2 hc3 hr6
      have k0 : w6.cell? ⟨bb, 0, none⟩ = some (.slice Av out.length cv) := by rw [cell_of_row _ _ _ _ _ (0, 0) H6.out.row]; rfl
      have k0' : (w6.alloc (.cells #[.int .i64 x.op, .int .i64 x.w, .int .i64 x.fl, .slice A x.args.length c, .int .u32 x.imm] 62)).cell? ⟨bb, 0, none⟩ = some (.slice Av out.length cv) := by rw [cell_of_row _ _ _ _ _ (0, 0) (row_alloc H6.out.row _)]; rfl
      have hn1 : out.length + 1 ≤ 1000000000 := by omega
      go_region_law (first
        | (refine step_append_src _ rfl (.tmp 57) (.tmp 59) 22 rfl 62 (.agg #[.int .i64 0, .int .i64 0, .int .i64 0, .slice none 0 0, .int .u32 0]) 5 56 Tryz.underlying22 infoNode rfl (by decide) (.slice Av out.length cv) out.length cells rfl (Hc1.out.same (fun g hg => HW.out.block g (Hc1.out.lt g hg))) (some ⟨w6.heap.size, 0, none⟩) 1 1 (ndC x A c) rfl rfl (src_new w6 (ndC x A c) 62) (ndC_one x A c) hn1 (by decide) ?_
           intro v' w7 hown7 hgr7 hat7
           obtain ⟨A7, c7, rfl⟩ := hown7.form
           have hfin := PutSt.fin (H6.out.below HW.out) Hb.out HB.out HA.out Hx.out Hnm.out (Hc1.out.same (fun g hg => HW.out.block g (Hc1.out.lt g hg))) (fun k y hy => (Hc2.out k y hy).below HW.out) Hc3.out hown7 hgr7 hat7
           have kc := cell_of_row w7 bb 0 _ _ (0, 0) hfin.1
           have kfr := frozen_row hfin.1 0
           have Hfin := Lib.hid hfin
           clear hfin hown7 hgr7 hat7
           simp only [List.getElem?_toArray, List.getElem?_cons_zero] at kc))
      all_goals
        clear k0 k0' n0 n1 n2 n3 n4 kc kfr kf
        have hlen1 : (out.length : Int) + 1 - 1 = (out.length : Int) := by omega
        obtain ⟨W9, hW9⟩ : ∃ W9, W9 = w7.setCell ⟨bb, 0, none⟩ (.slice A7 (out.length + 1) c7) := ⟨_, rfl⟩
        rw [← hW9]
        have k9 : W9.cell? ⟨bb, 0, none⟩ = some (.slice A7 (out.length + 1) c7) := by rw [hW9, cell_of_row _ _ _ _ _ (0, 0) (heap_setCell_same _ bb 0 _ _ _ Hfin.out.1)]; rfl
        have HF := Lib.hid (show BuAt W9 B bb (out ++ [x]) (NewM W M A x.args w7) ∧ Kpm M W W9 from by rw [hW9]; exact Hfin.out.2)
        clear hW9 Hfin
        go_wp2
        go_ret
        exact addPost_new Hnm.out HF.out.1 HF.out.2
    · subst e1
      have m1 : w4.cell? ⟨bb, 1, none⟩ = some (.map (some fb)) := by rw [cell_of_row _ _ _ _ _ (0, 0) hrow4]; rfl
      have q1 : (some fb).isNone = false := rfl
      rw [q1] at q0
      have hS : AddSt W bb out M x A c Av cv fb w4 := by
        refine ⟨Kpm.of_below Hb4.out M, hrow4, hM.keep (Hb4.out.block fb (Hb.out.in_ fb hmfb).2) (fun _ _ _ h => h), .inl hmfb, ?_, ?_, ?_⟩
        · exact Hown.out.same fun i hi => Hb4.out.block i (Hb.out.in_ i hi).2
        · exact row_step Hbo Hr0b.out
        · exact row_step Hbo Hkrow.out
      have HS := Lib.hid hS
      clear hS hrow4 k0 q1 hM
      go_wp2
      clear q0 m1
      generalize w4 = w5 at *
      have hr5 := HS.out.row
      have k0 : w5.cell? ⟨bb, 0, none⟩ = some (.slice Av out.length cv) := by rw [cell_of_row _ _ _ _ _ (0, 0) hr5]; rfl
      have k1 : w5.cell? ⟨bb, 1, none⟩ = some (.map (some fb)) := by rw [cell_of_row _ _ _ _ _ (0, 0) hr5]; rfl
      obtain ⟨y0, y1, y2, y3, y4, y5, y6⟩ := key_cells HS.out.key
      obtain ⟨w6, hupd, h6⟩ := AddSt.put (HS.out.drew) Hb.out Hx.out Hnm.out
      have H6 := Lib.hid h6
      clear h6 hr5
      go_region
      clear hupd k0 k1 y0 y1 y2 y3 y4 y5 y6
      have hr6 := H6.out.row
      have k0 : w6.cell? ⟨bb, 0, none⟩ = some (.slice Av out.length cv) := by rw [cell_of_row _ _ _ _ _ (0, 0) hr6]; rfl
      have kf : w6.frozen? ⟨bb, 0, none⟩ = false := frozen_row hr6 _
      go_wp2
      clear k0
      obtain ⟨cells, hc1, hc2, hc3⟩ := H6.out.own
      have HW := Lib.hid (show Below w6.heap.size w6 ((w6.alloc (.cells (ndC x A c).toArray 62)).drew) from ((Below.refl _ _).alloc (Nat.le_refl _) _).drew)
      obtain ⟨n0, n1, n2, n3, n4⟩ := nd5_cells H6.out.nd
      have Hc1 := Lib.hid hc1
      have Hc2 := Lib.hid hc2
      have Hc3 := Lib.hid hc3
      clear hc1 hc2 hc3 hr6
      have k0 : w6.cell? ⟨bb, 0, none⟩ = some (.slice Av out.length cv) := by rw [cell_of_row _ _ _ _ _ (0, 0) H6.out.row]; rfl
      have k0' : (w6.alloc (.cells #[.int .i64 x.op, .int .i64 x.w, .int .i64 x.fl, .slice A x.args.length c, .int .u32 x.imm] 62)).cell? ⟨bb, 0, none⟩ = some (.slice Av out.length cv) := by rw [cell_of_row _ _ _ _ _ (0, 0) (row_alloc H6.out.row _)]; rfl
      have hn1 : out.length + 1 ≤ 1000000000 := by omega
      go_region_law (first
        | (refine step_append_src _ rfl (.tmp 57) (.tmp 59) 22 rfl 62 (.agg #[.int .i64 0, .int .i64 0, .int .i64 0, .slice none 0 0, .int .u32 0]) 5 56 Tryz.underlying22 infoNode rfl (by decide) (.slice Av out.length cv) out.length cells rfl (Hc1.out.same (fun g hg => HW.out.block g (Hc1.out.lt g hg))) (some ⟨w6.heap.size, 0, none⟩) 1 1 (ndC x A c) rfl rfl (src_new w6 (ndC x A c) 62) (ndC_one x A c) hn1 (by decide) ?_
           intro v' w7 hown7 hgr7 hat7
           obtain ⟨A7, c7, rfl⟩ := hown7.form
           have hfin := PutSt.fin (H6.out.below HW.out) Hb.out HB.out HA.out Hx.out Hnm.out (Hc1.out.same (fun g hg => HW.out.block g (Hc1.out.lt g hg))) (fun k y hy => (Hc2.out k y hy).below HW.out) Hc3.out hown7 hgr7 hat7
           have kc := cell_of_row w7 bb 0 _ _ (0, 0) hfin.1
           have kfr := frozen_row hfin.1 0
           have Hfin := Lib.hid hfin
           clear hfin hown7 hgr7 hat7
           simp only [List.getElem?_toArray, List.getElem?_cons_zero] at kc))
      all_goals
        clear k0 k0' n0 n1 n2 n3 n4 kc kfr kf
        have hlen1 : (out.length : Int) + 1 - 1 = (out.length : Int) := by omega
        obtain ⟨W9, hW9⟩ : ∃ W9, W9 = w7.setCell ⟨bb, 0, none⟩ (.slice A7 (out.length + 1) c7) := ⟨_, rfl⟩
        rw [← hW9]
        have k9 : W9.cell? ⟨bb, 0, none⟩ = some (.slice A7 (out.length + 1) c7) := by rw [hW9, cell_of_row _ _ _ _ _ (0, 0) (heap_setCell_same _ bb 0 _ _ _ Hfin.out.1)]; rfl
        have HF := Lib.hid (show BuAt W9 B bb (out ++ [x]) (NewM W M A x.args w7) ∧ Kpm M W W9 from by rw [hW9]; exact Hfin.out.2)
        clear hW9 Hfin
        go_wp2
        go_ret
        exact addPost_new Hnm.out HF.out.1 HF.out.2
  · have hm : x ∈ out := of_decide_eq_true Hfnd.out
    have He := Lib.hid (show T.addN out x = (out, ix) from by unfold T.addN; rw [if_pos hm, ← Hix.out, if_pos hm])
    clear hm k0
    go_wp2
    go_ret
    refine ⟨ret_int (by rw [He.out]), M, ?_, Kpm.of_below Hb4.out M, fun i h => h, fun i h => .inl h⟩
    rw [He.out]
    exact Hb.out.below Hb4.out
end Go.Proofs.YtbiopedpceddeaaGreatDoor
