/- Rules: whether a node of a pattern fits a node of a term (the program's fits). -/
import Derived.Test.YtbiopedpceddeaaGreatDoorL24
import Derived.Deep.DeepCutAuto
set_option linter.unusedVariables false
set_option linter.unusedSimpArgs false
namespace Go.Proofs.YtbiopedpceddeaaGreatDoor
open Go.RowKit
set_option linter.unusedVariables false
set_option linter.unusedSimpArgs false

namespace R
theorem bind_some {α : Type} (o : Option α) : o.bind (fun s => some s) = o := by cases o <;> rfl
theorem fit_one (w po pw pf pi yo yw yf yi : Int) (kx ky : T.F) (s : St) :
    fit w (.cons po pw pf pi kx .nil) (.cons yo yw yf yi ky .nil) s =
      if yw ≠ (if pw = 0 then w else pw) then none
      else if po = 33 then bindV s pi (.cons yo yw yf yi ky .nil)
      else if po = 34 then (if yo = 0 then bindH s pi yi else none)
      else if yo ≠ po ∨ yi ≠ immAt po (if pw = 0 then w else pw) pi ∨ yf ≠ pf ∨ kx.len ≠ ky.len then none
      else fit w kx ky s := by
  have e : fit w .nil .nil = fun s => some s := by funext s; rfl
  simp only [fit, e, bind_some]
theorem ite_bind {α β : Type} {c : Prop} [Decidable c] (a b : Option α) (f : α → Option β) : (if c then a else b).bind f = if c then a.bind f else b.bind f := by split <;> rfl
theorem fit_step {w : Int} {fc fd rc rd : T.F} {p t : List T.Nd} {c d : Int} (hc : T.Rep p [c] fc) (hd : T.Rep t [d] fd) (s : St) : fit w (fc.app rc) (fd.app rd) s = (fit w fc fd s).bind (fit w rc rd) := by
  cases hc with
  | cons _ _ _ h1 =>
    cases h1
    cases hd with
    | cons _ _ _ h2 =>
      cases h2
      have e : fit w .nil .nil = fun s => some s := by funext s; rfl
      simp only [T.F.app, fit, e, bind_some, ite_bind, Option.bind_none]
theorem one_rep {t : List T.Nd} {a : Int} {f : T.F} (h : T.Rep t [a] f) : T.One f := by
  cases h with
  | cons _ _ _ hr => cases hr; exact ⟨_, _, _, _, _, rfl⟩
theorem one_inj {f g : T.F} (hf : T.One f) (hg : T.One g) (h : T.canon f = T.canon g) : f = g := by
  obtain ⟨o1, w1, f1, i1, k1, rfl⟩ := hf
  obtain ⟨o2, w2, f2, i2, k2, rfl⟩ := hg
  exact T.canon_inj h
theorem one_pos {f : T.F} (hf : T.One f) : 1 ≤ (T.canon f).length := by
  obtain ⟨o1, w1, f1, i1, k1, rfl⟩ := hf
  exact (T.cnn_last o1 w1 f1 i1 k1).2
theorem pnode_par {p : List T.Nd} {k : Nat} {x : T.Nd} (h : pnode p false k x = true) (h1 : x.op ≠ 33) (h2 : x.op ≠ 34) : (x.args.length : Int) = T.ar x.op := by
  have hl := pnode_len h
  have ho : x.op ≠ 35 := by
    intro e
    unfold pnode at h
    simp only [Bool.and_eq_true, decide_eq_true_eq] at h
    obtain ⟨_, h⟩ := h
    unfold pimmOk at h
    rw [if_neg (by omega), if_neg (by omega), if_pos e] at h
    simp at h
  unfold par at hl
  rw [if_neg h2, if_neg ho] at hl
  split at hl
  · omega
  · exact hl.1
theorem pnode_w {p : List T.Nd} {right : Bool} {k : Nat} {x : T.Nd} (h : pnode p right k x = true) : 0 ≤ x.w ∧ x.w ≤ 32 := by
  unfold pnode at h
  simp only [Bool.and_eq_true, decide_eq_true_eq] at h
  exact ⟨h.1.1.1.1.2, h.1.1.1.2⟩
theorem pnode_var {p : List T.Nd} {right : Bool} {k : Nat} {x : T.Nd} (h : pnode p right k x = true) (ho : x.op = 33) : x.imm < 2 := pnode_imm h (.inl ho)
end R

theorem stAt_some {t : List T.Nd} {n : Nat} {A : Option Addr} {W : World} (h : StAt 5 NdR W A n t) (hn : 0 < n) : ∃ a, A = some a := by
  obtain ⟨_, b, off, _, _, _, rfl, _⟩ := nd_cells h hn
  exact ⟨_, rfl⟩
theorem R.bindV_none {s : R.St} {i : Int} {f : T.F} (h : s.v i = none) : R.bindV s i f = some (s.setV i f) := by unfold R.bindV; rw [h]
theorem R.bindV_some {s : R.St} {i : Int} {f g : T.F} (h : s.v i = some g) : R.bindV s i f = if g = f then some s else none := by unfold R.bindV; rw [h]
theorem R.setV_same {s : R.St} {i : Int} {f : T.F} : (s.setV i f).v i = some f := if_pos rfl
theorem R.setV_other {s : R.St} {i j : Int} {f : T.F} (h : j ≠ i) : (s.setV i f).v j = s.v j := if_neg h
theorem Kpm.cell {gb : Nat} {a b : World} (h : Kpm (fun i => i = gb) a b) {p : Addr} (h1 : p.block < a.heap.size) (h2 : p.block ≠ gb) : b.cell? p = a.cell? p := by
  unfold World.cell?
  rw [h.block p.block h1 h2]

def FitPost (X : World) (gb : Nat) (w : Int) (L Tm : Value) (fp ft : T.F) (s : R.St) (e : Ending) (X' : World) : Prop :=
  e = .returned (.bool (R.fit w fp ft s).isSome) ∧ Kpm (fun i => i = gb) X X' ∧ ∀ s', R.fit w fp ft s = some s' → BdAt X' gb w L Tm s'

theorem fitPost_none {X X' : World} {gb : Nat} {w : Int} {L Tm : Value} {fp ft : T.F} {s : R.St} (h : R.fit w fp ft s = none) (hk : Kpm (fun i => i = gb) X X') : FitPost X gb w L Tm fp ft s (.returned (.bool false)) X' := by
  refine ⟨by rw [h]; rfl, hk, fun s' h' => ?_⟩
  rw [h] at h'; cases h'
theorem fitPost_some {X X' : World} {gb : Nat} {w : Int} {L Tm : Value} {fp ft : T.F} {s s' : R.St} (h : R.fit w fp ft s = some s') (hk : Kpm (fun i => i = gb) X X') (hb : BdAt X' gb w L Tm s') : FitPost X gb w L Tm fp ft s (.returned (.bool true)) X' := by
  refine ⟨by rw [h]; rfl, hk, fun s'' h' => ?_⟩
  rw [h] at h'; cases h'; exact hb

/-- the two sides of a match -/
structure Sides2 (p t : List T.Nd) (w : Int) (np nt : Nat) (Ap At : Option Addr) (W0 : World) : Prop where
  hP : StAt 5 NdR W0 Ap np p
  hT : StAt 5 NdR W0 At nt t
  op : T.Ord p
  ot : T.Ord t
  pn : ∀ k x, p[k]? = some x → R.pnode p false k x = true
  tw : TWf t
  ar : ∀ x ∈ t, (x.args.length : Int) = T.ar x.op
  nt : nt ≤ 900000
  isw : B.isWd w = true

set_option maxRecDepth 100000 in
set_option maxHeartbeats 16000000 in
theorem gfits_any {p t : List T.Nd} {w : Int} {np nt cp ct : Nat} {Ap At : Option Addr} {W0 : World} (hS : Sides2 p t w np nt Ap At W0) :
    ∀ (a : Nat), a < np → ∀ (k : Nat), k < nt → ∀ (X : World) (gb : Nat) (s : R.St), Below W0.heap.size W0 X → W0.heap.size ≤ gb → BdAt X gb w (.slice Ap np cp) (.slice At nt ct) s → ∀ (fp ft : T.F), T.Rep p [(a : Int)] fp → T.Rep t [(k : Int)] ft →
      Calls Tryz.prog 149 #[.pointer (some ⟨gb, 0, none⟩), .int .i64 (a : Int), .int .i64 (k : Int)] X (FitPost X gb w (.slice Ap np cp) (.slice At nt ct) fp ft s) := by
  intro a
  induction a using Nat.strongRecOn with
  | ind a ih =>
    intro ha k hk X gb s hX hgb hbd fp ft hfp hft
    have HS := Lib.hid hS
    have Hih := Lib.hid ih
    have HX := Lib.hid hX
    have Hbd := Lib.hid hbd
    have Hgb := Lib.hid hgb
    obtain ⟨x, b, off, Ax, cx, ex, rfl, hb, h0, h1, h2, h3, h4, hs, i0, i1⟩ := nd_cells hS.hP ha
    obtain ⟨y, b', off', Ay, cy, ey, rfl, hb', h0', h1', h2', h3', h4', hs', i0', i1'⟩ := nd_cells hS.hT hk
    replace h0 := (hX.cell (p := ⟨b, off + a * 5, none⟩) hb).trans h0
    replace h1 := (hX.cell (p := ⟨b, off + a * 5 + 1, none⟩) hb).trans h1
    replace h2 := (hX.cell (p := ⟨b, off + a * 5 + 2, none⟩) hb).trans h2
    replace h3 := (hX.cell (p := ⟨b, off + a * 5 + 3, none⟩) hb).trans h3
    replace h4 := (hX.cell (p := ⟨b, off + a * 5 + 4, none⟩) hb).trans h4
    replace h0' := (hX.cell (p := ⟨b', off' + k * 5, none⟩) hb').trans h0'
    replace h1' := (hX.cell (p := ⟨b', off' + k * 5 + 1, none⟩) hb').trans h1'
    replace h2' := (hX.cell (p := ⟨b', off' + k * 5 + 2, none⟩) hb').trans h2'
    replace h3' := (hX.cell (p := ⟨b', off' + k * 5 + 3, none⟩) hb').trans h3'
    replace h4' := (hX.cell (p := ⟨b', off' + k * 5 + 4, none⟩) hb').trans h4'
    obtain ⟨kx, hkx⟩ := T.Rep.ex hS.op np (by rw [← hS.hP.len]; exact Nat.le_refl _) x.args (fun c hc => by have := hS.op a x ex c hc; omega)
    obtain ⟨ky, hky⟩ := T.Rep.ex hS.ot nt (by rw [← hS.hT.len]; exact Nat.le_refl _) y.args (fun c hc => by have := hS.ot k y ey c hc; omega)
    have efp : fp = .cons x.op x.w x.fl x.imm kx .nil := hfp.det (T.Rep.cons (by omega) (by rw [Int.toNat_natCast]; exact ex) hkx .nil)
    have eft : ft = .cons y.op y.w y.fl y.imm ky .nil := hft.det (T.Rep.cons (by omega) (by rw [Int.toNat_natCast]; exact ey) hky .nil)
    have Hlx := Lib.hid hkx.len
    have Hly := Lib.hid hky.len
    have Hfit := Lib.hid (R.fit_one w x.op x.w x.fl x.imm y.op y.w y.fl y.imm kx ky s)
    rw [← efp, ← eft] at Hfit
    have Hpn := Lib.hid (hS.pn a x ex)
    have Hpa := Lib.hid (R.pnode_par (hS.pn a x ex))
    have Hya := Lib.hid (hS.ar y (List.mem_of_getElem? ey))
    have Hx := Lib.hid ex
    have Hy := Lib.hid ey
    have Hs := Lib.hid hs
    have Hs' := Lib.hid hs'
    have Hkx := Lib.hid hkx
    have Hky := Lib.hid hky
    have Hft := Lib.hid hft
    have Hi := Lib.hid (show (0 ≤ x.imm ∧ x.imm < 4294967296) ∧ 0 ≤ y.imm ∧ y.imm < 4294967296 from ⟨⟨i0, i1⟩, i0', i1'⟩)
    obtain ⟨v0, v1, z0, z1, f0, f1, hrow, r0, r1, r2, r3⟩ := hbd
    obtain ⟨c0, c1, c2, c3, c4, c7, c8, c9, c10, cf⟩ := bd_cells hrow
    have hgx : gb < X.heap.size := Hbd.out.lt
    clear ih hS hX hgb hfp hft efp eft ex ey hs hs' hkx hky hb hb' i0 i1 i0' i1' hrow r0 r1 r2 r3 c3 c4 c7 c8 c9 c10 cf
    obtain ⟨po, pw, pf, pa, pi⟩ := x
    obtain ⟨yo, yw, yf, ya, yi⟩ := y
    dsimp only at *
    go_enter Tryz.func149, Tryz.ntmps149
    have bu : Below X.heap.size X (X.alloc (.cells #[.int .i64 0, .int .i64 0, .int .i64 0, .slice none 0 0, .int .u32 0] 62)) := ((Below.refl _ _).alloc (Nat.le_refl _) _)
    have u1g := (bu.cell (p := ⟨gb, 1, none⟩) hgx).trans c1
    have u2g := (bu.cell (p := ⟨gb, 2, none⟩) hgx).trans c2
    have u0p := (bu.cell (p := ⟨b, off + a * 5, none⟩) (cell_below h0)).trans h0
    have u1p := (bu.cell (p := ⟨b, off + a * 5 + 1, none⟩) (cell_below h1)).trans h1
    have u2p := (bu.cell (p := ⟨b, off + a * 5 + 2, none⟩) (cell_below h2)).trans h2
    have u3p := (bu.cell (p := ⟨b, off + a * 5 + 3, none⟩) (cell_below h3)).trans h3
    have u4p := (bu.cell (p := ⟨b, off + a * 5 + 4, none⟩) (cell_below h4)).trans h4
    have u0q := (bu.cell (p := ⟨b', off' + k * 5, none⟩) (cell_below h0')).trans h0'
    have u1q := (bu.cell (p := ⟨b', off' + k * 5 + 1, none⟩) (cell_below h1')).trans h1'
    have u2q := (bu.cell (p := ⟨b', off' + k * 5 + 2, none⟩) (cell_below h2')).trans h2'
    have u3q := (bu.cell (p := ⟨b', off' + k * 5 + 3, none⟩) (cell_below h3')).trans h3'
    have u4q := (bu.cell (p := ⟨b', off' + k * 5 + 4, none⟩) (cell_below h4')).trans h4'
    have bv : Below X.heap.size X ((X.alloc (.cells #[.int .i64 0, .int .i64 0, .int .i64 0, .slice none 0 0, .int .u32 0] 62)).alloc (.cells #[.int .i64 0, .int .i64 0, .int .i64 0, .slice none 0 0, .int .u32 0] 62)) := (((Below.refl _ _).alloc (Nat.le_refl _) _).alloc (by simp) _)
    have v1g := (bv.cell (p := ⟨gb, 1, none⟩) hgx).trans c1
    have v2g := (bv.cell (p := ⟨gb, 2, none⟩) hgx).trans c2
    have v0p := (bv.cell (p := ⟨b, off + a * 5, none⟩) (cell_below h0)).trans h0
    have v1p := (bv.cell (p := ⟨b, off + a * 5 + 1, none⟩) (cell_below h1)).trans h1
    have v2p := (bv.cell (p := ⟨b, off + a * 5 + 2, none⟩) (cell_below h2)).trans h2
    have v3p := (bv.cell (p := ⟨b, off + a * 5 + 3, none⟩) (cell_below h3)).trans h3
    have v4p := (bv.cell (p := ⟨b, off + a * 5 + 4, none⟩) (cell_below h4)).trans h4
    have v0q := (bv.cell (p := ⟨b', off' + k * 5, none⟩) (cell_below h0')).trans h0'
    have v1q := (bv.cell (p := ⟨b', off' + k * 5 + 1, none⟩) (cell_below h1')).trans h1'
    have v2q := (bv.cell (p := ⟨b', off' + k * 5 + 2, none⟩) (cell_below h2')).trans h2'
    have v3q := (bv.cell (p := ⟨b', off' + k * 5 + 3, none⟩) (cell_below h3')).trans h3'
    have v4q := (bv.cell (p := ⟨b', off' + k * 5 + 4, none⟩) (cell_below h4')).trans h4'
    have bs : Below X.heap.size X ((X.alloc (.cells #[.int .i64 0, .int .i64 0, .int .i64 0, .slice none 0 0, .int .u32 0] 62)).alloc (.cells #[.int .i64 po, .int .i64 pw, .int .i64 pf, .slice Ax pa.length cx, .int .u32 pi] 62)) := (((Below.refl _ _).alloc (Nat.le_refl _) _).alloc (by simp) _)
    have s1g := (bs.cell (p := ⟨gb, 1, none⟩) hgx).trans c1
    have s2g := (bs.cell (p := ⟨gb, 2, none⟩) hgx).trans c2
    have s0p := (bs.cell (p := ⟨b, off + a * 5, none⟩) (cell_below h0)).trans h0
    have s1p := (bs.cell (p := ⟨b, off + a * 5 + 1, none⟩) (cell_below h1)).trans h1
    have s2p := (bs.cell (p := ⟨b, off + a * 5 + 2, none⟩) (cell_below h2)).trans h2
    have s3p := (bs.cell (p := ⟨b, off + a * 5 + 3, none⟩) (cell_below h3)).trans h3
    have s4p := (bs.cell (p := ⟨b, off + a * 5 + 4, none⟩) (cell_below h4)).trans h4
    have s0q := (bs.cell (p := ⟨b', off' + k * 5, none⟩) (cell_below h0')).trans h0'
    have s1q := (bs.cell (p := ⟨b', off' + k * 5 + 1, none⟩) (cell_below h1')).trans h1'
    have s2q := (bs.cell (p := ⟨b', off' + k * 5 + 2, none⟩) (cell_below h2')).trans h2'
    have s3q := (bs.cell (p := ⟨b', off' + k * 5 + 3, none⟩) (cell_below h3')).trans h3'
    have s4q := (bs.cell (p := ⟨b', off' + k * 5 + 4, none⟩) (cell_below h4')).trans h4'
    have bt : Below X.heap.size X ((X.alloc (.cells #[.int .i64 po, .int .i64 pw, .int .i64 pf, .slice Ax pa.length cx, .int .u32 pi] 62)).alloc (.cells #[.int .i64 0, .int .i64 0, .int .i64 0, .slice none 0 0, .int .u32 0] 62)) := (((Below.refl _ _).alloc (Nat.le_refl _) _).alloc (by simp) _)
    have t1g := (bt.cell (p := ⟨gb, 1, none⟩) hgx).trans c1
    have t2g := (bt.cell (p := ⟨gb, 2, none⟩) hgx).trans c2
    have t0p := (bt.cell (p := ⟨b, off + a * 5, none⟩) (cell_below h0)).trans h0
    have t1p := (bt.cell (p := ⟨b, off + a * 5 + 1, none⟩) (cell_below h1)).trans h1
    have t2p := (bt.cell (p := ⟨b, off + a * 5 + 2, none⟩) (cell_below h2)).trans h2
    have t3p := (bt.cell (p := ⟨b, off + a * 5 + 3, none⟩) (cell_below h3)).trans h3
    have t4p := (bt.cell (p := ⟨b, off + a * 5 + 4, none⟩) (cell_below h4)).trans h4
    have t0q := (bt.cell (p := ⟨b', off' + k * 5, none⟩) (cell_below h0')).trans h0'
    have t1q := (bt.cell (p := ⟨b', off' + k * 5 + 1, none⟩) (cell_below h1')).trans h1'
    have t2q := (bt.cell (p := ⟨b', off' + k * 5 + 2, none⟩) (cell_below h2')).trans h2'
    have t3q := (bt.cell (p := ⟨b', off' + k * 5 + 3, none⟩) (cell_below h3')).trans h3'
    have t4q := (bt.cell (p := ⟨b', off' + k * 5 + 4, none⟩) (cell_below h4')).trans h4'
    go_upto_region 1 with fail
    go_cut [7, 8] (fun s7 s8 wx => ∃ gx gy : Nat, s7 = .pointer (some ⟨gx, 0, none⟩) ∧ s8 = .pointer (some ⟨gy, 0, none⟩) ∧ Hid (X.heap.size ≤ gx ∧ X.heap.size ≤ gy) ∧ Hid (Below X.heap.size X wx) ∧ Hid (wx.heap[gx]? = some (.cells #[.int .i64 po, .int .i64 pw, .int .i64 pf, .slice Ax pa.length cx, .int .u32 pi] 62 (0, 0))) ∧ Hid (wx.heap[gy]? = some (.cells #[.int .i64 yo, .int .i64 yw, .int .i64 yf, .slice Ay ya.length cy, .int .u32 yi] 62 (0, 0))))
    case first =>
      go_region
      · go_wp2_with fail
        have hb1 : Below X.heap.size X ((X.alloc (.cells #[.int .i64 po, .int .i64 pw, .int .i64 pf, .slice Ax pa.length cx, .int .u32 pi] 62)).alloc (.cells #[.int .i64 yo, .int .i64 yw, .int .i64 yf, .slice Ay ya.length cy, .int .u32 yi] 62)).drew := (((Below.refl _ _).alloc (Nat.le_refl _) _).alloc (by simp) _).drew
        have hra : ((X.alloc (.cells #[.int .i64 po, .int .i64 pw, .int .i64 pf, .slice Ax pa.length cx, .int .u32 pi] 62)).alloc (.cells #[.int .i64 yo, .int .i64 yw, .int .i64 yf, .slice Ay ya.length cy, .int .u32 yi] 62)).drew.heap[X.heap.size]? = some (.cells #[.int .i64 po, .int .i64 pw, .int .i64 pf, .slice Ax pa.length cx, .int .u32 pi] 62 (0, 0)) := row_alloc (heap_alloc_new X _) _
        have hrb : ((X.alloc (.cells #[.int .i64 po, .int .i64 pw, .int .i64 pf, .slice Ax pa.length cx, .int .u32 pi] 62)).alloc (.cells #[.int .i64 yo, .int .i64 yw, .int .i64 yf, .slice Ay ya.length cy, .int .u32 yi] 62)).drew.heap[X.heap.size + 1]? = some (.cells #[.int .i64 yo, .int .i64 yw, .int .i64 yf, .slice Ay ya.length cy, .int .u32 yi] 62 (0, 0)) := new_two X _ _
        go_meet
        exact ⟨X.heap.size, X.heap.size + 1, rfl, rfl, Lib.hid ⟨by omega, by omega⟩, Lib.hid hb1, Lib.hid hra, Lib.hid hrb⟩
      · go_wp2_with fail
        have hb1 : Below X.heap.size X ((X.alloc (.cells #[.int .i64 yo, .int .i64 yw, .int .i64 yf, .slice Ay ya.length cy, .int .u32 yi] 62)).alloc (.cells #[.int .i64 po, .int .i64 pw, .int .i64 pf, .slice Ax pa.length cx, .int .u32 pi] 62)).drew := (((Below.refl _ _).alloc (Nat.le_refl _) _).alloc (by simp) _).drew
        have hra : ((X.alloc (.cells #[.int .i64 yo, .int .i64 yw, .int .i64 yf, .slice Ay ya.length cy, .int .u32 yi] 62)).alloc (.cells #[.int .i64 po, .int .i64 pw, .int .i64 pf, .slice Ax pa.length cx, .int .u32 pi] 62)).drew.heap[X.heap.size]? = some (.cells #[.int .i64 yo, .int .i64 yw, .int .i64 yf, .slice Ay ya.length cy, .int .u32 yi] 62 (0, 0)) := row_alloc (heap_alloc_new X _) _
        have hrb : ((X.alloc (.cells #[.int .i64 yo, .int .i64 yw, .int .i64 yf, .slice Ay ya.length cy, .int .u32 yi] 62)).alloc (.cells #[.int .i64 po, .int .i64 pw, .int .i64 pf, .slice Ax pa.length cx, .int .u32 pi] 62)).drew.heap[X.heap.size + 1]? = some (.cells #[.int .i64 po, .int .i64 pw, .int .i64 pf, .slice Ax pa.length cx, .int .u32 pi] 62 (0, 0)) := new_two X _ _
        go_meet
        exact ⟨X.heap.size + 1, X.heap.size, rfl, rfl, Lib.hid ⟨by omega, by omega⟩, Lib.hid hb1, Lib.hid hrb, Lib.hid hra⟩
    case rest =>
    clear bu u1g u2g u0p u1p u2p u3p u4p u0q u1q u2q u3q u4q bv v1g v2g v0p v1p v2p v3p v4p v0q v1q v2q v3q v4q bs s1g s2g s0p s1p s2p s3p s4p s0q s1q s2q s3q s4q bt t1g t2g t0p t1p t2p t3p t4p t0q t1q t2q t3q t4q h0 h1 h2 h3 h4 h0' h1' h2' h3' h4' c0 c1 c2
    obtain ⟨gx, gy, rfl, rfl, Hgxy, Hb1, HRx, HRy⟩ := hcut
    obtain ⟨W1, hW1⟩ : ∃ W1, W1 = wc := ⟨_, rfl⟩
    rw [← hW1] at Hb1 HRx HRy ⊢
    clear hW1
    have Hk1 := Lib.hid (Kpm.of_below Hb1.out (fun i => i = gb))
    have Hbd1 := Lib.hid (Hbd.out.below Hb1.out)
    have HX1 := Lib.hid (HX.out.trans (Hb1.out.mono HX.out.size))
    have Hgs := Lib.hid (show gb < W1.heap.size ∧ gx < W1.heap.size ∧ gy < W1.heap.size from ⟨Hbd1.out.lt, (Array.getElem?_eq_some_iff.1 HRx.out).1, (Array.getElem?_eq_some_iff.1 HRy.out).1⟩)
    have Hgne := Lib.hid (show gb ≠ gx ∧ gb ≠ gy from by have := Hgxy.out; have := Hbd.out.lt; omega)
    obtain ⟨x0, x1, x2, x3, x4⟩ := nd5_cells HRx.out
    obtain ⟨y0, y1, y2, y3, y4⟩ := nd5_cells HRy.out
    obtain ⟨v0, v1, z0, z1, f0, f1, hrow, r0, r1, r2, r3⟩ := id Hbd1.out
    obtain ⟨c0, c1, c2, c3, c4, c7, c8, c9, c10, cf⟩ := bd_cells hrow
    have Hrow := Lib.hid hrow
    have Hv0 := Lib.hid r0
    have Hv1 := Lib.hid r1
    have Hh := Lib.hid (show HolAt z0 f0 (s.h 0) ∧ HolAt z1 f1 (s.h 1) from ⟨r2, r3⟩)
    clear hrow r0 r1 r2 r3 c7 c8 c9 c10 c1 c3 c4
    have Hcf := Lib.hid cf
    clear cf
    obtain ⟨ww, hww⟩ : ∃ ww, (if pw = 0 then w else pw) = ww := ⟨_, rfl⟩
    rw [hww] at Hfit
    have Hwd := Lib.hid (show B.isWd ww = true from by
      rw [← hww]
      split
      · exact HS.out.isw
      · exact B.isWd_iff.2 (by have := R.pnode_w Hpn.out; dsimp only at this; omega))
    have Hww := Lib.hid hww
    clear hww
    go_upto_if 32 with (fail)
    go_cut [9] (fun s9 wx => s9 = .int .i64 ww ∧ W1 = wx)
    case first =>
      by_cases hpw : pw = 0
      · have q : (pw == 0) = true := by simpa using hpw
        have e := Hww.out
        rw [if_pos hpw] at e
        subst e
        clear hpw
        go_wp2
        go_meet
        exact ⟨rfl, rfl⟩
      · have q : (pw == 0) = false := by simpa using hpw
        have e := Hww.out
        rw [if_neg hpw] at e
        subst e
        clear hpw
        go_wp2
        go_meet
        exact ⟨rfl, rfl⟩
    case rest =>
    obtain ⟨rfl, rfl⟩ := hcut
    by_cases hyw : yw = ww
    rotate_left
    · have q : (yw != ww) = true := by simpa using hyw
      have He := Lib.hid (show R.fit w fp ft s = none from by rw [Hfit.out, if_pos hyw])
      clear hyw
      go_wp2
      go_ret
      exact fitPost_none He.out Hk1.out
    have Hf2 := Lib.hid (Hfit.out.trans (if_neg (by simpa using hyw)))
    have qyw : (yw != ww) = false := by simpa using hyw
    clear hyw
    by_cases hp33 : po = 33
    · subst hp33
      have Hf3 := Lib.hid (Hf2.out.trans (if_pos rfl))
      have hpi : pi < 2 := R.pnode_var Hpn.out rfl
      rcases (show pi = 0 ∨ pi = 1 by have := Hi.out.1; omega) with rfl | rfl
      · have Hone := Lib.hid (R.one_rep Hft.out)
        have Hpos := Lib.hid (R.one_pos Hone.out)
        have Hpart := Lib.hid (gpart_any (ct := ct) (HS.out.hT.below monoNd HX1.out) HS.out.tw HS.out.nt k hk ft Hft.out)
        clear y0 y2 y3 y4 x1 x2 x3 c0
        go_wp2_with fail
        (with_reducible refine Hpart.out.mono ?_)
        rintro e w3 ⟨A', c', rfl, hst3, hb3, hper3⟩
        obtain ⟨A2, rfl⟩ : ∃ A2, A' = some A2 := stAt_some hst3 (by have := Hpos.out; omega)
        obtain ⟨nc, hnc⟩ : ∃ nc, (T.canon ft).length = nc := ⟨_, rfl⟩
        rw [hnc] at hst3 hper3 ⊢
        have Hb3 := Lib.hid (Hb1.out.trans (hb3.mono Hb1.out.size))
        have Hk3 := Lib.hid (Kpm.of_below Hb3.out (fun i => i = gb))
        have Hst3 := Lib.hid hst3
        have Hper3 := Lib.hid hper3
        have Hbd3 := Lib.hid (Hbd1.out.below hb3)
        have Hrow3 := Lib.hid ((hb3.block gb Hgs.out.1).trans Hrow.out)
        have k4 := (hb3.cell (p := ⟨gx, 4, none⟩) (cell_below x4)).trans x4
        have Hk4 := Lib.hid k4
        have HW13 := Lib.hid (show W1.heap.size ≤ w3.heap.size ∧ gb < W1.heap.size from ⟨hb3.size, Hgs.out.1⟩)
        have Hv3 := Lib.hid (Hv0.out.kpm (Kpm.of_below hb3 (fun i => i = gb)))
        have Hvo := Lib.hid (Hv1.out.kpm (Kpm.of_below hb3 (fun i => i = gb)))
        obtain ⟨d0, d1, d2, d3, d4, d7, d8, d9, d10, df⟩ := bd_cells Hrow3.out
        clear hst3 hper3 hb3 x0 x4 y1 c2 d0 d1 d2 d4 d7 d8 d9 d10 df hnc
        cases hsv : s.v 0 with
        | none =>
          have e := Hv3.out
          rw [hsv] at e
          have e : v0 = .slice none 0 0 := e
          subst e
          have Hf4 := Lib.hid (Hf3.out.trans (R.bindV_none hsv))
          have hq := slice_nil_eq (P := Tryz.prog) Tryz.underlying22 none 0 0 w3.drew
          clear hsv
          go_wp2
          go_region
          have Hb4 := Lib.hid (show Below w3.heap.size w3 w3.drew from (Below.refl _ _).drew)
          clear k4 d3 hq
          generalize w3.drew = w4 at *
          have Hrow4 := Lib.hid ((Hb4.out.block gb (Nat.lt_of_lt_of_le HW13.out.2 HW13.out.1)).trans Hrow3.out)
          have k4 := (Hb4.out.cell (p := ⟨gx, 4, none⟩) (cell_below Hk4.out)).trans Hk4.out
          have Hk4' := Lib.hid k4
          have hf4 := (bd_cells Hrow4.out).2.2.2.2.2.2.2.2.2 3
          obtain ⟨_, _, _, d3, d4, _, _, _, _, _⟩ := bd_cells Hrow4.out
          clear d4
          go_wp2
          go_region
          have Hrow5 := Lib.hid (show (w4.setCell ⟨gb, 3, none⟩ (.slice (some A2) nc c')).drew.heap[gb]? = some (bdRow w (.slice (some ⟨b, off, none⟩) np cp) (.slice (some ⟨b', off', none⟩) nt ct) (.slice (some A2) nc c') v1 z0 z1 f0 f1) from heap_setCell_same w4 gb 3 _ _ (.slice (some A2) nc c') Hrow4.out)
          have Hk5 := Lib.hid (show Kpm (fun i => i = gb) w3 (w4.setCell ⟨gb, 3, none⟩ (.slice (some A2) nc c')).drew from ((Kpm.of_below Hb4.out (fun i => i = gb)).setCell (p := ⟨gb, 3, none⟩) (fun _ => rfl) _).drew)
          have Hk45 := Lib.hid (show Kpm (fun i => i = gb) w4 (w4.setCell ⟨gb, 3, none⟩ (.slice (some A2) nc c')).drew from ((Kpm.refl (fun i => i = gb) w4).setCell (p := ⟨gb, 3, none⟩) (fun _ => rfl) _).drew)
          clear k4 d3 hf4
          generalize (w4.setCell ⟨gb, 3, none⟩ (.slice (some A2) nc c')).drew = w5 at *
          have k4 := (Hk45.out.cell (p := ⟨gx, 4, none⟩) (cell_below Hk4'.out) (fun h => Hgne.out.1 h.symm)).trans Hk4'.out
          obtain ⟨_, _, _, d3, d4, _, _, _, _, _⟩ := bd_cells Hrow5.out
          clear d4
          have Hp5 := Lib.hid (show ∀ W', Kpm (fun i => i = gb) w5 W' → StAt 5 NdR W' (some A2) nc (T.canon ft) from fun W' hk => Hper3.out W' fun j h1 h2 => ((Hk5.out.trans hk fun _ _ h => h).block j h2 (by have := HW13.out; omega)))
          have HBd5 := Lib.hid (show BdAt w5 gb w (.slice (some ⟨b, off, none⟩) np cp) (.slice (some ⟨b', off', none⟩) nt ct) (s.setV 0 ft) from
            ⟨_, _, _, _, _, _, Hrow5.out, by rw [R.setV_same]; exact ⟨Hone.out, A2, nc, _, rfl, Hp5.out⟩, by rw [R.setV_other (by omega)]; exact Hvo.out.kpm Hk5.out, Hh.out.1, Hh.out.2⟩)
          have Hk6 := Lib.hid (Hk3.out.trans Hk5.out fun _ _ h => h)
          have HE0 := Lib.hid (show ∀ u, Below w5.heap.size w5 u → Calls Tryz.prog 187 #[.slice (some A2) nc c', .slice (some A2) nc c', .func (.func 188) #[] #[]] u fun e W' => e = .returned (.bool true) ∧ Below u.heap.size u W' from fun u hu => by
            have := eqNodes_any (c := c') (c' := c') (Hp5.out u (Kpm.of_below hu _)) (Hp5.out u (Kpm.of_below hu _))
            rw [decide_eq_true rfl] at this
            exact this)
          go_wp2
          obtain ⟨ov⟩ := ov_ex w5
          have o4 := ov.cell k4
          have o3 := ov.cell d3
          have HE := Lib.hid (fun u => calls_over (ov := ov) (HE0.out (ov.f u) (ov.below u)))
          refine wp_region_ovq ov (by kernel_rfl) (by kernel_rfl) ?_
          repeat (go_big_quiet_step ((go_at_call 187; with_reducible exact HE.out _)))
          refine wpQuiet_nil ?_
          rintro _ ⟨u, rfl⟩
          have Hb6 := Lib.hid (ov.below u)
          clear o4 o3 k4 d3
          generalize ov.f u = w6 at *
          go_wp2
          go_ret
          exact fitPost_some Hf4.out (Hk6.out.trans (Kpm.of_below Hb6.out _) fun _ _ h => h) (HBd5.out.below Hb6.out)
        | some f =>
          have e := Hv3.out
          rw [hsv] at e
          obtain ⟨ho, Af, nf, cf, rfl, hpf⟩ := e
          have Hof := Lib.hid ho
          have Hf4 := Lib.hid (Hf3.out.trans (R.bindV_some hsv))
          have hq := slice_nil_eq (P := Tryz.prog) Tryz.underlying22 (some Af) nf cf w3.drew
          have hp3 := hpf w3 (Kpm.refl _ _)
          have Hpf := Lib.hid hp3
          obtain ⟨r, hr⟩ : ∃ r, decide (T.canon f = T.canon ft) = r := ⟨_, rfl⟩
          have Hr := Lib.hid hr
          clear hsv ho hpf hp3
          go_wp2
          go_region
          have Hb4 := Lib.hid (show Below w3.heap.size w3 w3.drew from (Below.refl _ _).drew)
          clear k4 d3 hq
          generalize w3.drew = w4 at *
          have Hrow4 := Lib.hid ((Hb4.out.block gb (Nat.lt_of_lt_of_le HW13.out.2 HW13.out.1)).trans Hrow3.out)
          have k4 := (Hb4.out.cell (p := ⟨gx, 4, none⟩) (cell_below Hk4.out)).trans Hk4.out
          obtain ⟨_, _, _, d3, d4, _, _, _, _, _⟩ := bd_cells Hrow4.out
          clear d4
          have HE0 := Lib.hid (show ∀ u, Below w4.heap.size w4 u → Calls Tryz.prog 187 #[.slice (some Af) nf cf, .slice (some A2) nc c', .func (.func 188) #[] #[]] u fun e W' => e = .returned (.bool r) ∧ Below u.heap.size u W' from fun u hu => by
            have hbu := Hb4.out.trans (hu.mono Hb4.out.size)
            have := eqNodes_any (c := cf) (c' := c') (Hpf.out.below monoNd hbu) (Hst3.out.below monoNd hbu)
            rw [hr] at this
            exact this)
          clear hr
          go_wp2
          obtain ⟨ov⟩ := ov_ex w4
          have o4 := ov.cell k4
          have o3 := ov.cell d3
          have HE := Lib.hid (fun u => calls_over (ov := ov) (HE0.out (ov.f u) (ov.below u)))
          refine wp_region_ovq ov (by kernel_rfl) (by kernel_rfl) ?_
          repeat (go_big_quiet_step ((go_at_call 187; with_reducible exact HE.out _)))
          refine wpQuiet_nil ?_
          rintro _ ⟨u, rfl⟩
          have Hb6 := Lib.hid (ov.below u)
          clear o4 o3 k4 d3
          generalize ov.f u = w6 at *
          have Hb36 := Lib.hid (Hb4.out.trans (Hb6.out.mono Hb4.out.size))
          go_wp2
          go_ret
          have hkk := Hk3.out.trans (Kpm.of_below Hb36.out (fun i => i = gb)) fun _ _ h => h
          by_cases hff : f = ft
          · have : r = true := by rw [← Hr.out, hff]; simp
            rw [this]
            exact fitPost_some (Hf4.out.trans (if_pos hff)) hkk (Hbd3.out.below Hb36.out)
          · have : r = false := by rw [← Hr.out]; simp; exact fun h => hff (R.one_inj Hof.out Hone.out h)
            rw [this]
            exact fitPost_none (Hf4.out.trans (if_neg hff)) hkk
      · have Hone := Lib.hid (R.one_rep Hft.out)
        have Hpos := Lib.hid (R.one_pos Hone.out)
        have Hpart := Lib.hid (gpart_any (ct := ct) (HS.out.hT.below monoNd HX1.out) HS.out.tw HS.out.nt k hk ft Hft.out)
        clear y0 y2 y3 y4 x1 x2 x3 c0
        go_wp2_with fail
        (with_reducible refine Hpart.out.mono ?_)
        rintro e w3 ⟨A', c', rfl, hst3, hb3, hper3⟩
        obtain ⟨A2, rfl⟩ : ∃ A2, A' = some A2 := stAt_some hst3 (by have := Hpos.out; omega)
        obtain ⟨nc, hnc⟩ : ∃ nc, (T.canon ft).length = nc := ⟨_, rfl⟩
        rw [hnc] at hst3 hper3 ⊢
        have Hb3 := Lib.hid (Hb1.out.trans (hb3.mono Hb1.out.size))
        have Hk3 := Lib.hid (Kpm.of_below Hb3.out (fun i => i = gb))
        have Hst3 := Lib.hid hst3
        have Hper3 := Lib.hid hper3
        have Hbd3 := Lib.hid (Hbd1.out.below hb3)
        have Hrow3 := Lib.hid ((hb3.block gb Hgs.out.1).trans Hrow.out)
        have k4 := (hb3.cell (p := ⟨gx, 4, none⟩) (cell_below x4)).trans x4
        have Hk4 := Lib.hid k4
        have HW13 := Lib.hid (show W1.heap.size ≤ w3.heap.size ∧ gb < W1.heap.size from ⟨hb3.size, Hgs.out.1⟩)
        have Hv3 := Lib.hid (Hv1.out.kpm (Kpm.of_below hb3 (fun i => i = gb)))
        have Hvo := Lib.hid (Hv0.out.kpm (Kpm.of_below hb3 (fun i => i = gb)))
        obtain ⟨d0, d1, d2, d3, d4, d7, d8, d9, d10, df⟩ := bd_cells Hrow3.out
        clear hst3 hper3 hb3 x0 x4 y1 c2 d0 d1 d2 d3 d7 d8 d9 d10 df hnc
        cases hsv : s.v 1 with
        | none =>
          have e := Hv3.out
          rw [hsv] at e
          have e : v1 = .slice none 0 0 := e
          subst e
          have Hf4 := Lib.hid (Hf3.out.trans (R.bindV_none hsv))
          have hq := slice_nil_eq (P := Tryz.prog) Tryz.underlying22 none 0 0 w3.drew
          clear hsv
          go_wp2
          go_region
          have Hb4 := Lib.hid (show Below w3.heap.size w3 w3.drew from (Below.refl _ _).drew)
          clear k4 d4 hq
          generalize w3.drew = w4 at *
          have Hrow4 := Lib.hid ((Hb4.out.block gb (Nat.lt_of_lt_of_le HW13.out.2 HW13.out.1)).trans Hrow3.out)
          have k4 := (Hb4.out.cell (p := ⟨gx, 4, none⟩) (cell_below Hk4.out)).trans Hk4.out
          have Hk4' := Lib.hid k4
          have hf4 := (bd_cells Hrow4.out).2.2.2.2.2.2.2.2.2 4
          obtain ⟨_, _, _, d3, d4, _, _, _, _, _⟩ := bd_cells Hrow4.out
          clear d3
          go_wp2
          go_region
          have Hrow5 := Lib.hid (show (w4.setCell ⟨gb, 4, none⟩ (.slice (some A2) nc c')).drew.heap[gb]? = some (bdRow w (.slice (some ⟨b, off, none⟩) np cp) (.slice (some ⟨b', off', none⟩) nt ct) v0 (.slice (some A2) nc c') z0 z1 f0 f1) from heap_setCell_same w4 gb 4 _ _ (.slice (some A2) nc c') Hrow4.out)
          have Hk5 := Lib.hid (show Kpm (fun i => i = gb) w3 (w4.setCell ⟨gb, 4, none⟩ (.slice (some A2) nc c')).drew from ((Kpm.of_below Hb4.out (fun i => i = gb)).setCell (p := ⟨gb, 4, none⟩) (fun _ => rfl) _).drew)
          have Hk45 := Lib.hid (show Kpm (fun i => i = gb) w4 (w4.setCell ⟨gb, 4, none⟩ (.slice (some A2) nc c')).drew from ((Kpm.refl (fun i => i = gb) w4).setCell (p := ⟨gb, 4, none⟩) (fun _ => rfl) _).drew)
          clear k4 d4 hf4
          generalize (w4.setCell ⟨gb, 4, none⟩ (.slice (some A2) nc c')).drew = w5 at *
          have k4 := (Hk45.out.cell (p := ⟨gx, 4, none⟩) (cell_below Hk4'.out) (fun h => Hgne.out.1 h.symm)).trans Hk4'.out
          obtain ⟨_, _, _, d3, d4, _, _, _, _, _⟩ := bd_cells Hrow5.out
          clear d3
          have Hp5 := Lib.hid (show ∀ W', Kpm (fun i => i = gb) w5 W' → StAt 5 NdR W' (some A2) nc (T.canon ft) from fun W' hk => Hper3.out W' fun j h1 h2 => ((Hk5.out.trans hk fun _ _ h => h).block j h2 (by have := HW13.out; omega)))
          have HBd5 := Lib.hid (show BdAt w5 gb w (.slice (some ⟨b, off, none⟩) np cp) (.slice (some ⟨b', off', none⟩) nt ct) (s.setV 1 ft) from
            ⟨_, _, _, _, _, _, Hrow5.out, by rw [R.setV_other (by omega)]; exact Hvo.out.kpm Hk5.out, by rw [R.setV_same]; exact ⟨Hone.out, A2, nc, _, rfl, Hp5.out⟩, Hh.out.1, Hh.out.2⟩)
          have Hk6 := Lib.hid (Hk3.out.trans Hk5.out fun _ _ h => h)
          have HE0 := Lib.hid (show ∀ u, Below w5.heap.size w5 u → Calls Tryz.prog 187 #[.slice (some A2) nc c', .slice (some A2) nc c', .func (.func 188) #[] #[]] u fun e W' => e = .returned (.bool true) ∧ Below u.heap.size u W' from fun u hu => by
            have := eqNodes_any (c := c') (c' := c') (Hp5.out u (Kpm.of_below hu _)) (Hp5.out u (Kpm.of_below hu _))
            rw [decide_eq_true rfl] at this
            exact this)
          go_wp2
          obtain ⟨ov⟩ := ov_ex w5
          have o4 := ov.cell k4
          have o3 := ov.cell d4
          have HE := Lib.hid (fun u => calls_over (ov := ov) (HE0.out (ov.f u) (ov.below u)))
          refine wp_region_ovq ov (by kernel_rfl) (by kernel_rfl) ?_
          repeat (go_big_quiet_step ((go_at_call 187; with_reducible exact HE.out _)))
          refine wpQuiet_nil ?_
          rintro _ ⟨u, rfl⟩
          have Hb6 := Lib.hid (ov.below u)
          clear o4 o3 k4 d4
          generalize ov.f u = w6 at *
          go_wp2
          go_ret
          exact fitPost_some Hf4.out (Hk6.out.trans (Kpm.of_below Hb6.out _) fun _ _ h => h) (HBd5.out.below Hb6.out)
        | some f =>
          have e := Hv3.out
          rw [hsv] at e
          obtain ⟨ho, Af, nf, cf, rfl, hpf⟩ := e
          have Hof := Lib.hid ho
          have Hf4 := Lib.hid (Hf3.out.trans (R.bindV_some hsv))
          have hq := slice_nil_eq (P := Tryz.prog) Tryz.underlying22 (some Af) nf cf w3.drew
          have hp3 := hpf w3 (Kpm.refl _ _)
          have Hpf := Lib.hid hp3
          obtain ⟨r, hr⟩ : ∃ r, decide (T.canon f = T.canon ft) = r := ⟨_, rfl⟩
          have Hr := Lib.hid hr
          clear hsv ho hpf hp3
          go_wp2
          go_region
          have Hb4 := Lib.hid (show Below w3.heap.size w3 w3.drew from (Below.refl _ _).drew)
          clear k4 d4 hq
          generalize w3.drew = w4 at *
          have Hrow4 := Lib.hid ((Hb4.out.block gb (Nat.lt_of_lt_of_le HW13.out.2 HW13.out.1)).trans Hrow3.out)
          have k4 := (Hb4.out.cell (p := ⟨gx, 4, none⟩) (cell_below Hk4.out)).trans Hk4.out
          obtain ⟨_, _, _, d3, d4, _, _, _, _, _⟩ := bd_cells Hrow4.out
          clear d3
          have HE0 := Lib.hid (show ∀ u, Below w4.heap.size w4 u → Calls Tryz.prog 187 #[.slice (some Af) nf cf, .slice (some A2) nc c', .func (.func 188) #[] #[]] u fun e W' => e = .returned (.bool r) ∧ Below u.heap.size u W' from fun u hu => by
            have hbu := Hb4.out.trans (hu.mono Hb4.out.size)
            have := eqNodes_any (c := cf) (c' := c') (Hpf.out.below monoNd hbu) (Hst3.out.below monoNd hbu)
            rw [hr] at this
            exact this)
          clear hr
          go_wp2
          obtain ⟨ov⟩ := ov_ex w4
          have o4 := ov.cell k4
          have o3 := ov.cell d4
          have HE := Lib.hid (fun u => calls_over (ov := ov) (HE0.out (ov.f u) (ov.below u)))
          refine wp_region_ovq ov (by kernel_rfl) (by kernel_rfl) ?_
          repeat (go_big_quiet_step ((go_at_call 187; with_reducible exact HE.out _)))
          refine wpQuiet_nil ?_
          rintro _ ⟨u, rfl⟩
          have Hb6 := Lib.hid (ov.below u)
          clear o4 o3 k4 d4
          generalize ov.f u = w6 at *
          have Hb36 := Lib.hid (Hb4.out.trans (Hb6.out.mono Hb4.out.size))
          go_wp2
          go_ret
          have hkk := Hk3.out.trans (Kpm.of_below Hb36.out (fun i => i = gb)) fun _ _ h => h
          by_cases hff : f = ft
          · have : r = true := by rw [← Hr.out, hff]; simp
            rw [this]
            exact fitPost_some (Hf4.out.trans (if_pos hff)) hkk (Hbd3.out.below Hb36.out)
          · have : r = false := by rw [← Hr.out]; simp; exact fun h => hff (R.one_inj Hof.out Hone.out h)
            rw [this]
            exact fitPost_none (Hf4.out.trans (if_neg hff)) hkk
    have qp33 : (po == 33) = false := by simpa using hp33
    by_cases hp34 : po = 34
    · subst hp34
      have Hf3 := Lib.hid ((Hf2.out.trans (if_neg hp33)).trans (if_pos rfl))
      have hpi : pi < 2 := (R.pnode_hole Hpn.out rfl).2
      have hi64 : wrap64 pi = pi := by unfold wrap64; have := Hi.out.1; omega
      clear c2 c0
      by_cases hy0 : yo = 0
      · subst hy0
        have Hf4 := Lib.hid (Hf3.out.trans (if_pos rfl))
        have Hcall := Lib.hid (ghole_any (n := yi) Hbd1.out Hi.out.1.1 hpi)
        go_wp2_with fail
        (with_reducible refine Hcall.out.mono ?_)
        rintro e w3 ⟨rfl, hk3, hb3⟩
        obtain ⟨r, hr⟩ : ∃ r, R.bindH s pi yi = r := ⟨_, rfl⟩
        rw [hr] at hb3
        have Hf5 := Lib.hid (Hf4.out.trans hr)
        have Hk3 := Lib.hid (Hk1.out.trans hk3 fun _ _ h => h)
        have Hb3 := Lib.hid hb3
        rw [hr]
        clear hr hk3 hb3 x0 x1 x2 x3 x4 y0 y1 y2 y3 y4
        cases r with
        | none =>
          rw [show (none : Option R.St).isSome = false from rfl]
          go_wp2
          go_ret
          exact fitPost_none Hf5.out Hk3.out
        | some s' =>
          rw [show (some s' : Option R.St).isSome = true from rfl]
          go_wp2
          go_ret
          exact fitPost_some Hf5.out Hk3.out (Hb3.out s' rfl)
      · have q : (yo == 0) = false := by simpa using hy0
        have Hf4 := Lib.hid (Hf3.out.trans (if_neg hy0))
        clear hy0
        go_wp2
        go_ret
        exact fitPost_none Hf4.out Hk1.out
    have qp34 : (po == 34) = false := by simpa using hp34
    have Hf3 := Lib.hid ((Hf2.out.trans (if_neg hp33)).trans (if_neg hp34))
    have Hal := Lib.hid (Hpa.out hp33 hp34)
    clear c2 c0
    go_upto_if 93 with (fail)
    obtain ⟨ii, hii⟩ : ∃ ii, R.immAt po ww pi = ii := ⟨_, rfl⟩
    rw [hii] at Hf3
    have Hii := Lib.hid hii
    clear hii
    go_cut [11] (fun s11 wx => s11 = .int .u32 ii ∧ W1 = wx)
    case first =>
      by_cases hp0 : po = 0
      · subst hp0
        have e : pi % B.pw ww = ii := by rw [← Hii.out]; unfold R.immAt; rfl
        have HOf := Lib.hid (pOf_any ww pi W1 Hwd.out)
        have hi64 : wrap64 pi = pi := by unfold wrap64; have := Hi.out.1; omega
        rw [e] at HOf
        clear e
        go_wp2_with fail
        (with_reducible refine HOf.out.mono ?_)
        rintro e w9 ⟨rfl, rfl⟩
        go_wp2
        go_meet
        exact ⟨rfl, rfl⟩
      · have qp0 : (po == 0) = false := by simpa using hp0
        have e : pi = ii := by rw [← Hii.out]; unfold R.immAt; rw [if_neg hp0]
        subst e
        clear hp0
        go_wp2
        go_meet
        exact ⟨rfl, rfl⟩
    case rest =>
    obtain ⟨rfl, rfl⟩ := hcut
    by_cases hc : yo = po
    rotate_left
    · have q : (yo != po) = true := by simpa using hc
      have He := Lib.hid (Hf3.out.trans (if_pos (.inl hc)))
      clear hc
      go_wp2
      go_ret
      exact fitPost_none He.out Hk1.out
    have qc0 : (yo != po) = false := by simpa using hc
    have hc0 := hc
    clear hc
    by_cases hc : yi = ii
    rotate_left
    · have q : (yi != ii) = true := by simpa using hc
      have He := Lib.hid (Hf3.out.trans (if_pos (.inr (.inl hc))))
      clear hc
      go_wp2
      go_ret
      exact fitPost_none He.out Hk1.out
    have qc1 : (yi != ii) = false := by simpa using hc
    have hc1 := hc
    clear hc
    by_cases hc : yf = pf
    rotate_left
    · have q : (yf != pf) = true := by simpa using hc
      have He := Lib.hid (Hf3.out.trans (if_pos (.inr (.inr (.inl hc)))))
      clear hc
      go_wp2
      go_ret
      exact fitPost_none He.out Hk1.out
    have qc2 : (yf != pf) = false := by simpa using hc
    have hc2 := hc
    clear hc
    have Hlen := Lib.hid (show pa.length = ya.length from by have h1 := Hal.out; have h2 := Hya.out; rw [hc0] at h2; omega)
    have Hf4 := Lib.hid (Hf3.out.trans (if_neg (by
      rintro (h | h | h | h)
      · exact h hc0
      · exact h hc1
      · exact h hc2
      · rw [Hlx.out, Hly.out] at h; exact h Hlen.out)))
    clear hc0 hc1 hc2
    have hal := Hs.out.le
    have HY3 := Lib.hid y3
    go_wp2
    clear x0 x1 x2 x3 x4 y0 y1 y2 y3 y4 qc0 qc1 qc2 qyw
    go_loopg [125] (pa.length + 1) (fun gg i wr => ∃ (j : Nat) (sj : R.St), j ≤ pa.length ∧ i = .int .i64 (j : Int) ∧ gg + j = pa.length + 1 ∧ Hid (Kpm (fun i => i = gb) W1 wr) ∧ Hid (BdAt wr gb w (.slice (some ⟨b, off, none⟩) np cp) (.slice (some ⟨b', off', none⟩) nt ct) sj) ∧ Hid (∃ kx' ky', T.Rep p (pa.drop j) kx' ∧ T.Rep t (ya.drop j) ky' ∧ R.fit w fp ft s = R.fit w kx' ky' sj))
    case atStart => exact ⟨0, s, Nat.zero_le _, rfl, rfl, Lib.hid (Kpm.refl _ _), Hbd1, Lib.hid ⟨kx, ky, Hkx.out, Hky.out, Hf4.out⟩⟩
    case round =>
      obtain ⟨j, sj, hj, rfl, hgk, Hkw, Hbw, HO⟩ := hrel
      have Hgk := Lib.hid hgk; clear hgk
      obtain ⟨kx', ky', hk1, hk2, hk3⟩ := HO.out
      by_cases hjl : j < pa.length
      · have hjl' : j < ya.length := by rw [← Hlen.out]; exact hjl
        obtain ⟨c, bc, offc, uc, hc, rfl, hbc, hcc, rfl⟩ := Hs.out.at_ hjl
        obtain ⟨d, bd, offd, ud, hd, rfl, hbd, hdd, rfl⟩ := Hs'.out.at_ hjl'
        have hbwr : Below W0.heap.size W0 wr := HX1.out.trans (Hkw.out.below HX1.out.size (fun i hi => by subst hi; exact Hgb.out))
        have kc := (hbwr.cell (p := ⟨bc, offc + j, none⟩) hbc).trans hcc
        have kd := (hbwr.cell (p := ⟨bd, offd + j, none⟩) hbd).trans hdd
        have ky3 := (Hkw.out.cell (p := ⟨gy, 3, none⟩) (cell_below HY3.out) (by have := Hgne.out; simp only; omega)).trans HY3.out
        have hca := HS.out.op a _ Hx.out c (List.mem_of_getElem? hc)
        have hda := HS.out.ot k _ Hy.out d (List.mem_of_getElem? hd)
        rw [drop_at hc] at hk1
        rw [drop_at hd] at hk2
        obtain ⟨fc, rc, ec, hc1, hc2⟩ := T.Rep.head hk1
        obtain ⟨fd, rd, ed, hd1, hd2⟩ := T.Rep.head hk2
        have Hstep := Lib.hid (show R.fit w fp ft s = (R.fit w fc fd sj).bind (R.fit w rc rd) from by rw [hk3, ec, ed]; exact R.fit_step hc1 hd1 sj)
        obtain ⟨c, rfl⟩ : ∃ m : Nat, c = m := ⟨c.toNat, by omega⟩
        obtain ⟨d, rfl⟩ : ∃ m : Nat, d = m := ⟨d.toNat, by omega⟩
        have Hcall := Lib.hid (Hih.out c (by omega) (by omega) d (by omega) wr gb sj hbwr Hgb.out Hbw.out fc fd hc1 hd1)
        have Hrest := Lib.hid (show T.Rep p (pa.drop (j + 1)) rc ∧ T.Rep t (ya.drop (j + 1)) rd from ⟨hc2, hd2⟩)
        clear hk1 hk2 hk3 hc1 hc2 hd1 hd2 ec ed hc hd hbc hcc hbd hdd hca hda hbwr
        go_wp2_with fail
        (with_reducible refine Hcall.out.mono ?_)
        rintro e w3 ⟨rfl, hk3, hb3⟩
        obtain ⟨r, hr⟩ : ∃ r, R.fit w fc fd sj = r := ⟨_, rfl⟩
        rw [hr] at hb3
        have Hst2 := Lib.hid (show R.fit w fp ft s = r.bind (R.fit w rc rd) from by rw [Hstep.out, hr])
        have Hk3 := Lib.hid (Hkw.out.trans hk3 fun _ _ h => h)
        have Hb3 := Lib.hid hb3
        rw [hr]
        clear hr hk3 hb3 kc kd ky3
        cases r with
        | none =>
          rw [show (none : Option R.St).isSome = false from rfl]
          go_wp2
          go_ret
          exact fitPost_none Hst2.out (Hk1.out.trans Hk3.out fun _ _ h => h)
        | some s' =>
          rw [show (some s' : Option R.St).isSome = true from rfl]
          go_wp2
          go_roundg (gk - 1)
          case measure => have := Hgk.out; omega
          case rel =>
            have := Hgk.out
            exact ⟨j + 1, s', by omega, by go_num, by omega, Hk3, Lib.hid (Hb3.out s' rfl), Lib.hid ⟨rc, rd, Hrest.out.1, Hrest.out.2, Hst2.out⟩⟩
      · obtain rfl : j = pa.length := by omega
        have He := Lib.hid (show R.fit w fp ft s = some sj from by
          rw [List.drop_length] at hk1
          rw [Hlen.out, List.drop_length] at hk2
          cases hk1
          cases hk2
          rw [hk3]; rfl)
        clear hk1 hk2 hk3
        go_wp2
        go_ret
        exact fitPost_some He.out (Hk1.out.trans Hkw.out fun _ _ h => h) Hbw.out
end Go.Proofs.YtbiopedpceddeaaGreatDoor
