/- Rules: a side of a rule at a width (the program's side). -/
import Derived.Test.YtbiopedpceddeaaGreatDoorL20
set_option linter.unusedVariables false
set_option linter.unusedSimpArgs false
namespace Go.Proofs.YtbiopedpceddeaaGreatDoor
open Go.RowKit
set_option linter.unusedVariables false
set_option linter.unusedSimpArgs false

namespace R
/-- a node of a pattern at a width, with numbers for the holes -/
def inst1 (p : List T.Nd) (w : Int) (hs : List Int) (x : T.Nd) : T.Nd :=
  if x.op = 34 then ⟨0, if x.w = 0 then w else x.w, x.fl, x.args, hs.getD x.imm.toNat 0⟩
  else if x.op = 35 then ⟨0, if x.w = 0 then w else x.w, x.fl, [], (B.trl w (hs.getD (p.getD (x.args.getD 0 0).toNat default).imm.toNat 0)) % B.pw w⟩
  else if x.op = 0 ∧ x.w = 0 then ⟨0, w, x.fl, x.args, x.imm % B.pw w⟩
  else ⟨x.op, if x.w = 0 then w else x.w, x.fl, x.args, x.imm⟩
def inst (p : List T.Nd) (w : Int) (hs : List Int) : List T.Nd := p.map (inst1 p w hs)
theorem inst_len (p : List T.Nd) (w : Int) (hs : List Int) : (inst p w hs).length = p.length := by simp [inst]
theorem par_le (op : Int) : par op ≤ 3 := by
  unfold par T.ar
  repeat' split
  all_goals omega
theorem pnode_small {p : List T.Nd} {right : Bool} {k : Nat} {x : T.Nd} (h : pnode p right k x = true) : x.args.length ≤ 3 := by
  have h1 := (pnode_len h).1
  have := par_le x.op
  omega
theorem pnode_hole {p : List T.Nd} {right : Bool} {k : Nat} {x : T.Nd} (h : pnode p right k x = true) (ho : x.op = 34) : x.w = 0 ∧ x.imm < 2 := by
  unfold pnode at h
  simp only [Bool.and_eq_true, decide_eq_true_eq] at h
  obtain ⟨_, h⟩ := h
  unfold pimmOk at h
  rw [if_neg (by omega), if_pos (.inr ho)] at h
  simpa using h
theorem pnode_trail {p : List T.Nd} {right : Bool} {k : Nat} {x : T.Nd} (h : pnode p right k x = true) (ho : x.op = 35) : x.w = 0 ∧ ∃ a : Nat, x.args = [(a : Int)] ∧ a < k ∧ (p.getD a default).op = 34 := by
  have hl := pnode_len h
  have ha := pnode_args h
  unfold pnode at h
  simp only [Bool.and_eq_true, decide_eq_true_eq] at h
  obtain ⟨_, h⟩ := h
  unfold pimmOk at h
  rw [if_neg (by omega), if_neg (by omega), if_pos ho] at h
  simp only [Bool.and_eq_true, decide_eq_true_eq] at h
  obtain ⟨⟨⟨_, h1⟩, _⟩, h2⟩ := h
  rw [ho, show par 35 = 1 from rfl] at hl
  obtain ⟨a, e⟩ : ∃ a, x.args = [a] := by
    cases e : x.args with
    | nil => rw [e] at hl; simp at hl
    | cons a l =>
      cases l with
      | nil => exact ⟨a, rfl⟩
      | cons b l => rw [e] at hl; simp at hl; omega
  rw [e] at ha h2
  have := ha a (by simp)
  obtain ⟨n, rfl⟩ : ∃ n : Nat, a = n := ⟨a.toNat, by omega⟩
  refine ⟨h1, n, e, by omega, ?_⟩
  simpa using h2
theorem trl_lt (w n : Int) (hw : 0 ≤ w) : 0 ≤ B.trl w n ∧ B.trl w n ≤ w := by
  unfold B.trl
  omega
end R

/-- what stays behind a node that was made -/
structure Side (W wr : World) (v : Value) (nds : List T.Nd) (w5 : World) : Prop where
  below : Below wr.heap.size wr w5
  bw : Below W.heap.size W wr
  own : OwnR (NdF W.heap.size) W.heap.size wr v nds
theorem Side.own5 {W wr : World} {v : Value} {nds : List T.Nd} {w5 : World} (h : Side W wr v nds w5) : OwnR (NdF W.heap.size) W.heap.size w5 v nds := h.own.below (ndF_rel _) h.below
theorem Side.b5 {W wr : World} {v : Value} {nds : List T.Nd} {w5 : World} (h : Side W wr v nds w5) : Below W.heap.size W w5 := h.bw.trans (h.below.mono h.bw.size)
theorem Side.set {W wr : World} {v : Value} {nds : List T.Nd} {w5 : World} (h : Side W wr v nds w5) (k : Nat) (u : Value) : Side W wr v nds (w5.setCell ⟨wr.heap.size + 1, k, none⟩ u) := ⟨h.below.setCell (p := ⟨wr.heap.size + 1, k, none⟩) (by simp) _, h.bw, h.own⟩
theorem Side.step {W wr : World} {v : Value} {nds : List T.Nd} {w5 w6 : World} (h : Side W wr v nds w5) (hb : Below w5.heap.size w5 w6) : Side W wr v nds w6 := ⟨h.below.trans (hb.mono h.below.size), h.bw, h.own⟩
/-- the operands of the node that is made -/
def ArgF (B g : Nat) (w : World) (A : Option Addr) (c : Nat) (l : List Int) : Prop := OwnAt w 3 1 (.slice A l.length c) l.length (l.map (Value.int .i64)) ∧ ∀ b, (Value.slice A l.length c).ownBlock = some b → B ≤ b ∧ b ≠ g
theorem ArgF.set {B g : Nat} {w : World} {A : Option Addr} {c : Nat} {l : List Int} (h : ArgF B g w A c l) (k : Nat) (u : Value) : ArgF B g (w.setCell ⟨g, k, none⟩ u) A c l := ⟨h.1.setCell (fun e => (h.2 _ e).2 rfl) u, h.2⟩
theorem ArgF.below {B g : Nat} {w w' : World} {A : Option Addr} {c : Nat} {l : List Int} (h : ArgF B g w A c l) (hb : Below w.heap.size w w') : ArgF B g w' A c l := ⟨h.1.below hb h.1.lt, h.2⟩
theorem ArgF.nd {B g : Nat} {w : World} {A : Option Addr} {c : Nat} {x : T.Nd} (h : ArgF B g w A c x.args) (h0 : 0 ≤ x.imm) (h1 : x.imm < 4294967296) : NdF B w (ndC x A c) x := ⟨A, c, rfl, h.1, h0, h1, fun g hg => (h.2 g hg).1⟩

theorem mod_u32 (imm : Int) {w : Int} (hw : w ≤ 32) : 0 ≤ imm % B.pw w ∧ imm % B.pw w < 4294967296 := by
  have h1 := B.pw_pos w
  have h2 := B.pw_le hw
  have := Int.emod_nonneg imm (show B.pw w ≠ 0 by omega)
  have := Int.emod_lt_of_pos imm h1
  omega
theorem isW_u32 {w m : Int} (h : B.isW w m = true) (h0 : 0 ≤ m) : 0 ≤ m ∧ m < 4294967296 := by
  have h1 := B.isW_iff.1 h
  have h2 := B.pw_le h1.2.1
  omega

theorem nd5_all {w : World} {g : Nat} {T : TypeId} {a0 a1 a2 a3 a4 : Value} (h : w.heap[g]? = some (.cells #[a0, a1, a2, a3, a4] T (0, 0))) :
    w.cell? ⟨g, 0, none⟩ = some a0 ∧ w.cell? ⟨g, 1, none⟩ = some a1 ∧ w.cell? ⟨g, 2, none⟩ = some a2 ∧ w.cell? ⟨g, 3, none⟩ = some a3 ∧ w.cell? ⟨g, 4, none⟩ = some a4 ∧ w.frozen? ⟨g, 0, none⟩ = false ∧ w.frozen? ⟨g, 1, none⟩ = false ∧ w.frozen? ⟨g, 2, none⟩ = false ∧ w.frozen? ⟨g, 3, none⟩ = false ∧ w.frozen? ⟨g, 4, none⟩ = false := by
  obtain ⟨h0, h1, h2, h3, h4⟩ := nd5_cells h
  exact ⟨h0, h1, h2, h3, h4, frozen_row h _, frozen_row h _, frozen_row h _, frozen_row h _, frozen_row h _⟩

set_option maxRecDepth 100000 in
set_option maxHeartbeats 8000000 in
theorem gside_any {p : List T.Nd} {right : Bool} {w : Int} {hs : List Int} {n cp ch : Nat} {Ap Ah : Option Addr} {W : World} (hP : StAt 5 NdR W Ap n p) (hH : SlAt (IntR .u32) W Ah 2 hs) (hw : B.isWd w = true) (hh : R.HsOk w hs) (hp : ∀ k x, p[k]? = some x → R.pnode p right k x = true) (hn : n ≤ 1000) (hT : TabAt W) :
    Calls Tryz.prog 91 #[.slice Ap n cp, .int .i64 w, .slice Ah 2 ch] W fun e W' => ∃ v, e = .returned v ∧ OwnR (NdF W.heap.size) W.heap.size W' v (R.inst p w hs) ∧ Below W.heap.size W W' := by
  have hl := hP.len
  have hwd := B.isWd_iff.1 hw
  have HP := Lib.hid hP
  have HH := Lib.hid hH
  have Hp := Lib.hid hp
  have Hw := Lib.hid hw
  have Hh := Lib.hid hh
  have HT := Lib.hid hT
  have Hl := Lib.hid hl
  clear hP hH hp hw hh hl hT
  go_enter Tryz.func91, Tryz.ntmps91
  go_wp2
  go_loopg [15, 7] (n + 1) (fun gg i v wr => ∃ (j : Nat), j ≤ n ∧ i = .int .i64 (j : Int) ∧ gg + j = n + 1 ∧ Hid (Below W.heap.size W wr) ∧ Hid (OwnR (NdF W.heap.size) W.heap.size wr v ((R.inst p w hs).take j)))
  case atStart => exact ⟨0, Nat.zero_le _, rfl, rfl, Lib.hid (Below.refl _ _), Lib.hid (OwnR.nil_ _ _ _)⟩
  case round =>
    obtain ⟨j, hj, rfl, hgk, Hbw, Hown⟩ := hrel
    have Hgk := Lib.hid hgk; clear hgk
    obtain ⟨Av, cv, hv⟩ := Hown.out.form
    have hlj : ((R.inst p w hs).take j).length = j := by rw [List.length_take, R.inst_len, Hl.out]; omega
    rw [hlj] at hv
    subst hv
    by_cases hjn : j < n
    · obtain ⟨x, b, off, A, c, hx, rfl, hb, h0, h1, h2, h3, h4, hs0, i0, i1⟩ := nd_cells HP.out hjn
      have Hin := Lib.hid (show (R.inst p w hs)[j]? = some (R.inst1 p w hs x) from by unfold R.inst; rw [List.getElem?_map, hx]; rfl)
      have hpn := Hp.out j x hx
      have hsm := R.pnode_small hpn
      have hhole := R.pnode_hole hpn
      have htrail := R.pnode_trail hpn
      have hbel := Hbw.out
      have k0 := (hbel.cell (p := ⟨b, off + j * 5, none⟩) hb).trans h0
      have k1 := (hbel.cell (p := ⟨b, off + j * 5 + 1, none⟩) hb).trans h1
      have k2 := (hbel.cell (p := ⟨b, off + j * 5 + 2, none⟩) hb).trans h2
      have k3 := (hbel.cell (p := ⟨b, off + j * 5 + 3, none⟩) hb).trans h3
      have k4 := (hbel.cell (p := ⟨b, off + j * 5 + 4, none⟩) hb).trans h4
      obtain ⟨op, wd, fl, args, imm⟩ := x
      dsimp only at *
      obtain ⟨w1, hw1⟩ : ∃ w1, w1 = (wr.alloc (.cells #[.int .i64 op, .int .i64 wd, .int .i64 fl, .slice A args.length c, .int .u32 imm] 62)).alloc (.cells #[.int .i64 op, .int .i64 wd, .int .i64 fl, .slice A args.length c, .int .u32 imm] 62) := ⟨_, rfl⟩
      have hb1 : Below wr.heap.size wr w1 := by rw [hw1]; exact ((Below.refl _ _).alloc (Nat.le_refl _) _).alloc (by simp) _
      have hrx : w1.heap[wr.heap.size]? = some (.cells #[.int .i64 op, .int .i64 wd, .int .i64 fl, .slice A args.length c, .int .u32 imm] 62 (0, 0)) := by rw [hw1]; exact row_alloc (heap_alloc_new wr _) _
      have hry : w1.heap[wr.heap.size + 1]? = some (.cells #[.int .i64 op, .int .i64 wd, .int .i64 fl, .slice A args.length c, .int .u32 imm] 62 (0, 0)) := by rw [hw1]; exact new_two wr _ _
      have hs1 : w1.heap.size = wr.heap.size + 2 := by rw [hw1]; simp
      have Hcl := Lib.hid (cloneI_sl (c := c) ((hs0.below (monoInt _) hbel).below (monoInt _) (hb1.mono (Nat.le_refl _))) (by omega))
      have Hx := Lib.hid hx
      have Hs0 := Lib.hid hs0
      have Hside1 := Lib.hid (show Side W wr (.slice Av j cv) ((R.inst p w hs).take j) w1 from ⟨hb1, hbel, Hown.out⟩)
      have Hrx := Lib.hid hrx
      have Hry := Lib.hid hry
      have Hs1 := Lib.hid hs1
      have Hhole := Lib.hid hhole
      have Htrail := Lib.hid htrail
      have hi64 : wrap64 imm = imm := by unfold wrap64; omega
      clear hx h0 h1 h2 h3 h4 hb hs0 hbel hb1 hrx hry hs1 hpn hhole htrail
      obtain ⟨x0, x1, x2, x3, x4, _⟩ := nd5_all Hrx.out
      have z3 : (wr.alloc (.cells #[.int .i64 op, .int .i64 wd, .int .i64 fl, .slice A args.length c, .int .u32 imm] 62)).cell? ⟨wr.heap.size, 0, none⟩ = some (.int .i64 op) := by rw [cell_of_row _ _ _ _ _ (0, 0) (heap_alloc_new wr _)]; rfl
      clear x0 x1 x2 x3 x4 z3
      go_wp2_with fail
      rw [← hw1]
      clear hw1
      (with_reducible refine Hcl.out.mono ?_)
      rintro e w2 ⟨v2, rfl, hown2, hb2, hv2⟩
      obtain ⟨A2, c2, rfl⟩ := hown2.form
      have Hside2 := Lib.hid (Hside1.out.step hb2)
      have Harg2 := Lib.hid (show ArgF W.heap.size (wr.heap.size + 1) w2 A2 c2 args from ⟨hown2, fun g hg => by
        have := hv2 g hg
        have := Hs1.out
        have := Hbw.out.size
        omega⟩)
      have Hrx2 := row_step (Lib.hid hb2) Hrx.out
      have Hry2 := row_step (Lib.hid hb2) Hry.out
      have hrow3 := heap_setCell_same w2 (wr.heap.size + 1) 3 _ _ (.slice A2 args.length c2) Hry2
      have hrx3 : (w2.setCell ⟨wr.heap.size + 1, 3, none⟩ (.slice A2 args.length c2)).heap[wr.heap.size]? = _ := (heap_setCell_other w2 ⟨wr.heap.size + 1, 3, none⟩ _ _ (by simp)).trans Hrx2
      have n3 : w2.cell? ⟨wr.heap.size + 1, 3, none⟩ = some (.slice A args.length c) := by rw [cell_of_row _ _ _ _ _ (0, 0) Hry2]; rfl
      have nf3 : w2.frozen? ⟨wr.heap.size + 1, 3, none⟩ = false := frozen_row Hry2 _
      have Hrow3 := Lib.hid (show (w2.setCell ⟨wr.heap.size + 1, 3, none⟩ (.slice A2 args.length c2)).heap[wr.heap.size + 1]? = some (.cells #[.int .i64 op, .int .i64 wd, .int .i64 fl, .slice A2 args.length c2, .int .u32 imm] 62 (0, 0)) from hrow3)
      have Hrx3 := Lib.hid hrx3
      have Hside3 := Lib.hid (Hside2.out.set 3 (.slice A2 args.length c2))
      have Harg3 := Lib.hid (Harg2.out.set 3 (.slice A2 args.length c2))
      clear hown2 hb2 hv2 Hrx2 Hry2 hrow3 hrx3
      obtain ⟨x0, x1, x2, x3, x4, f0, f1, f2, f3, f4⟩ := nd5_all Hrx3.out
      obtain ⟨y0, y1, y2, y3, y4, g0, g1, g2, g3, g4⟩ := nd5_all Hrow3.out
      clear x0 x1 x2 x3 x4 f0 f1 f2 f3 f4 y0 y1 y2 y3 y4 g0 g1 g2 g3 g4
      have Hi := Lib.hid (show 0 ≤ imm ∧ imm < 4294967296 from ⟨i0, i1⟩)
      obtain ⟨x0, x1, x2, x3, x4, f0, f1, f2, f3, f4⟩ := nd5_all Hrx3.out
      obtain ⟨y0, y1, y2, y3, y4, g0, g1, g2, g3, g4⟩ := nd5_all Hrow3.out
      by_cases hop : op = 0
      · by_cases hwd0 : wd = 0
        · subst hop
          subst hwd0
          have He := Lib.hid (show R.inst1 p w hs ⟨0, 0, fl, args, imm⟩ = ⟨0, w, fl, args, imm % B.pw w⟩ from by unfold R.inst1; simp)
          have hr4 := heap_setCell_same _ (wr.heap.size + 1) 1 _ _ (.int .i64 w) Hrow3.out
          have Hrow4 := Lib.hid (show ((w2.setCell ⟨wr.heap.size + 1, 3, none⟩ (.slice A2 args.length c2)).setCell ⟨wr.heap.size + 1, 1, none⟩ (.int .i64 w)).heap[wr.heap.size + 1]? = some (.cells #[.int .i64 0, .int .i64 w, .int .i64 fl, .slice A2 args.length c2, .int .u32 imm] 62 (0, 0)) from hr4)
          have Hrx4 := Lib.hid ((heap_setCell_other (w2.setCell ⟨wr.heap.size + 1, 3, none⟩ (.slice A2 args.length c2)) ⟨wr.heap.size + 1, 1, none⟩ wr.heap.size (.int .i64 w) (by simp)).trans Hrx3.out)
          have Hside4 := Lib.hid (Hside3.out.set 1 (.int .i64 w))
          have Harg4 := Lib.hid (Harg3.out.set 1 (.int .i64 w))
          clear hr4
          obtain ⟨xx0, xx1, xx2, xx3, xx4, ff0, ff1, ff2, ff3, ff4⟩ := nd5_all Hrx4.out
          obtain ⟨yy0, yy1, yy2, yy3, yy4, gg0, gg1, gg2, gg3, gg4⟩ := nd5_all Hrow4.out
          have HOf := Lib.hid (pOf_any w imm ((w2.setCell ⟨wr.heap.size + 1, 3, none⟩ (.slice A2 args.length c2)).setCell ⟨wr.heap.size + 1, 1, none⟩ (.int .i64 w)) Hw.out)
          have hr5 := heap_setCell_same _ (wr.heap.size + 1) 4 _ _ (.int .u32 (imm % B.pw w)) Hrow4.out
          have Hrow5 := Lib.hid (show (((w2.setCell ⟨wr.heap.size + 1, 3, none⟩ (.slice A2 args.length c2)).setCell ⟨wr.heap.size + 1, 1, none⟩ (.int .i64 w)).setCell ⟨wr.heap.size + 1, 4, none⟩ (.int .u32 (imm % B.pw w))).heap[wr.heap.size + 1]? = some (.cells #[.int .i64 0, .int .i64 w, .int .i64 fl, .slice A2 args.length c2, .int .u32 (imm % B.pw w)] 62 (0, 0)) from hr5)
          have Hside5 := Lib.hid (Hside4.out.set 4 (.int .u32 (imm % B.pw w)))
          have Harg5 := Lib.hid (Harg4.out.set 4 (.int .u32 (imm % B.pw w)))
          clear hr5
          have Hm := Lib.hid (mod_u32 imm hwd.2)
          obtain ⟨m0, m1, m2, m3, m4, _⟩ := nd5_all Hrow5.out
          have Hnd := Lib.hid (ArgF.nd (x := ⟨0, w, fl, args, imm % B.pw w⟩) Harg5.out Hm.out.1 Hm.out.2)
          have Hown5 := Lib.hid (Hside5.out.own5)
          have HB5 := Lib.hid (Hside5.out.b5)
          have hsz5 := HB5.out.size
          go_wp2_with fail
          (with_reducible refine HOf.out.mono ?_)
          rintro e w6 ⟨rfl, rfl⟩
          go_wp2_with (at_builtin; refine wpList_append_nodeR (ndF_rel W.heap.size) rfl (.tmp 87) (.tmp 89) rfl _ ((R.inst p w hs).take j) rfl Hown5.out (ndC ⟨0, w, fl, args, imm % B.pw w⟩ A2 c2) ⟨0, w, fl, args, imm % B.pw w⟩ Hnd.out w2.heap.size (by first | rfl | simp) rfl (by omega) hsz5 ?_; intro v' w9 hown' hbel'; have Hown' := Lib.hid hown'; have Hb' := Lib.hid (hbel' _ HB5.out); clear hown' hbel')
          go_roundg (gk - 1)
          case measure => have := Hgk.out; omega
          case rel =>
            have := Hgk.out
            exact ⟨j + 1, by omega, by go_num, by omega, Hb', Lib.hid (by rw [take_next Hin.out, He.out]; exact Hown'.out)⟩
        · subst hop
          have qw : (wd == 0) = false := by simpa using hwd0
          have He := Lib.hid (show R.inst1 p w hs ⟨0, wd, fl, args, imm⟩ = ⟨0, wd, fl, args, imm⟩ from by unfold R.inst1; simp [hwd0])
          obtain ⟨m0, m1, m2, m3, m4, _⟩ := nd5_all Hrow3.out
          have Hnd := Lib.hid (ArgF.nd (x := ⟨0, wd, fl, args, imm⟩) Harg3.out Hi.out.1 Hi.out.2)
          have Hown5 := Lib.hid (Hside3.out.own5)
          have HB5 := Lib.hid (Hside3.out.b5)
          have hsz5 := HB5.out.size
          go_wp2_with (at_builtin; refine wpList_append_nodeR (ndF_rel W.heap.size) rfl (.tmp 87) (.tmp 89) rfl _ ((R.inst p w hs).take j) rfl Hown5.out (ndC ⟨0, wd, fl, args, imm⟩ A2 c2) ⟨0, wd, fl, args, imm⟩ Hnd.out w2.heap.size (by first | rfl | simp) rfl (by omega) hsz5 ?_; intro v' w9 hown' hbel'; have Hown' := Lib.hid hown'; have Hb' := Lib.hid (hbel' _ HB5.out); clear hown' hbel')
          go_roundg (gk - 1)
          case measure => have := Hgk.out; omega
          case rel =>
            have := Hgk.out
            exact ⟨j + 1, by omega, by go_num, by omega, Hb', Lib.hid (by rw [take_next Hin.out, He.out]; exact Hown'.out)⟩
      · have h0 := hop
        clear hop
        by_cases hop : op = 34
        · subst hop
          obtain ⟨hwd0, him⟩ := Hhole.out rfl
          subst hwd0
          obtain ⟨h, rfl⟩ : ∃ h : Nat, imm = h := ⟨imm.toNat, by omega⟩
          have hh2 : h < 2 := by omega
          obtain ⟨m, bh, offh, u, hm, rfl, hbh, hc, rfl⟩ := HH.out.at_ hh2
          have hmw := Hh.out.2 m (List.mem_of_getElem? hm)
          have He := Lib.hid (show R.inst1 p w hs ⟨34, 0, fl, args, (h : Int)⟩ = ⟨0, w, fl, args, m⟩ from by
            unfold R.inst1
            have e : hs.getD ((h : Int)).toNat 0 = m := by rw [Int.toNat_natCast, List.getD_eq_getElem?_getD, hm]; rfl
            simp only [if_true, e])
          have hr4 := heap_setCell_same _ (wr.heap.size + 1) 1 _ _ (.int .i64 w) Hrow3.out
          have Hrow4 := Lib.hid (show ((w2.setCell ⟨wr.heap.size + 1, 3, none⟩ (.slice A2 args.length c2)).setCell ⟨wr.heap.size + 1, 1, none⟩ (.int .i64 w)).heap[wr.heap.size + 1]? = some (.cells #[.int .i64 34, .int .i64 w, .int .i64 fl, .slice A2 args.length c2, .int .u32 (h : Int)] 62 (0, 0)) from hr4)
          have Hrx4 := Lib.hid ((heap_setCell_other (w2.setCell ⟨wr.heap.size + 1, 3, none⟩ (.slice A2 args.length c2)) ⟨wr.heap.size + 1, 1, none⟩ wr.heap.size (.int .i64 w) (by simp)).trans Hrx3.out)
          have Hside4 := Lib.hid (Hside3.out.set 1 (.int .i64 w))
          have Harg4 := Lib.hid (Harg3.out.set 1 (.int .i64 w))
          clear hr4
          obtain ⟨xx0, xx1, xx2, xx3, xx4, ff0, ff1, ff2, ff3, ff4⟩ := nd5_all Hrx4.out
          obtain ⟨yy0, yy1, yy2, yy3, yy4, gg0, gg1, gg2, gg3, gg4⟩ := nd5_all Hrow4.out
          have kh4 : ((w2.setCell ⟨wr.heap.size + 1, 3, none⟩ (.slice A2 args.length c2)).setCell ⟨wr.heap.size + 1, 1, none⟩ (.int .i64 w)).cell? ⟨bh, offh + h, none⟩ = some (.int .u32 m) := (Hside4.out.b5.cell (p := ⟨bh, offh + h, none⟩) hbh).trans hc
          have hmb := isW_u32 hmw.2 hmw.1
          have Hm := Lib.hid hmb
          have Hbh := Lib.hid hbh
          clear hm hbh hc hmw hmb
          go_wp2
          generalize (w2.setCell ⟨wr.heap.size + 1, 3, none⟩ (.slice A2 args.length c2)).setCell ⟨wr.heap.size + 1, 1, none⟩ (.int .i64 w) = w4 at *
          have kh5 : (w4.setCell ⟨wr.heap.size + 1, 0, none⟩ (.int .i64 0)).cell? ⟨bh, offh + h, none⟩ = some (.int .u32 m) := (World.cell?_setCell_other _ _ _ _ (fun e => by simp only [Addr.mk.injEq] at e; have := Hbh.out; have := Hbw.out.size; omega)).trans kh4
          go_region
          have hr5 := heap_setCell_same w4 (wr.heap.size + 1) 0 _ _ (.int .i64 0) Hrow4.out
          have hr6 := heap_setCell_same _ (wr.heap.size + 1) 4 _ _ (.int .u32 m) hr5
          have Hrow6 := Lib.hid (show ((w4.setCell ⟨wr.heap.size + 1, 0, none⟩ (.int .i64 0)).setCell ⟨wr.heap.size + 1, 4, none⟩ (.int .u32 m)).drew.heap[wr.heap.size + 1]? = some (.cells #[.int .i64 0, .int .i64 w, .int .i64 fl, .slice A2 args.length c2, .int .u32 m] 62 (0, 0)) from hr6)
          have Hside6 := Lib.hid (((Hside4.out.set 0 (.int .i64 0)).set 4 (.int .u32 m)).step ((Below.refl _ _).drew))
          have Harg6 := Lib.hid (((Harg4.out.set 0 (.int .i64 0)).set 4 (.int .u32 m)).below ((Below.refl _ _).drew))
          clear hr5 hr6 kh4 kh5 x0 x1 x2 x3 x4 xx0 xx1 xx2 xx3 xx4 y0 y1 y2 y3 y4 yy0 yy1 yy2 yy3 yy4
          generalize ((w4.setCell ⟨wr.heap.size + 1, 0, none⟩ (.int .i64 0)).setCell ⟨wr.heap.size + 1, 4, none⟩ (.int .u32 m)).drew = w6 at *
          obtain ⟨m0, m1, m2, m3, m4, _⟩ := nd5_all Hrow6.out
          have Hnd := Lib.hid (ArgF.nd (x := ⟨0, w, fl, args, m⟩) Harg6.out Hm.out.1 Hm.out.2)
          have Hown5 := Lib.hid (Hside6.out.own5)
          have HB5 := Lib.hid (Hside6.out.b5)
          have hsz5 := HB5.out.size
          go_wp2_with (at_builtin; refine wpList_append_nodeR (ndF_rel W.heap.size) rfl (.tmp 87) (.tmp 89) rfl _ ((R.inst p w hs).take j) rfl Hown5.out (ndC ⟨0, w, fl, args, m⟩ A2 c2) ⟨0, w, fl, args, m⟩ Hnd.out w6.heap.size (by first | rfl | simp) rfl (by omega) hsz5 ?_; intro v' w9 hown' hbel'; have Hown' := Lib.hid hown'; have Hb' := Lib.hid (hbel' _ HB5.out); clear hown' hbel')
          go_roundg (gk - 1)
          case measure => have := Hgk.out; omega
          case rel =>
            have := Hgk.out
            exact ⟨j + 1, by omega, by go_num, by omega, Hb', Lib.hid (by rw [take_next Hin.out, He.out]; exact Hown'.out)⟩
        · have h34 := hop
          clear hop
          by_cases hop : op = 35
          · subst hop
            obtain ⟨hwd0, a, ha, haj, ho34⟩ := Htrail.out rfl
            subst hwd0
            have hpos : 0 < args.length := by rw [ha]; simp
            obtain ⟨y, b2, off2, A3, c3, hy, hb2, hbl, _, _, _, _, hy4, _, _, _⟩ := nd_cells HP.out (show a < n by omega)
            injection hb2 with hb2
            injection hb2 with hb2 hb3 _
            subst hb2
            subst hb3
            have hyo : y.op = 34 := by rw [List.getD_eq_getElem?_getD, hy] at ho34; exact ho34
            obtain ⟨_, hyi⟩ := R.pnode_hole (Hp.out a y hy) hyo
            have hyi0 := nd_imm HP.out y (List.mem_of_getElem? hy)
            obtain ⟨h, hh⟩ : ∃ h : Nat, y.imm = h := ⟨y.imm.toNat, by omega⟩
            rw [hh] at hy4
            have hh2 : h < 2 := by omega
            obtain ⟨m, bh, offh, u, hm, rfl, hbh, hc, rfl⟩ := HH.out.at_ hh2
            obtain ⟨a', ba, offa, ua, ha', rfl, hba, hca, rfl⟩ := Hs0.out.at_ hpos
            obtain rfl : a' = (a : Int) := by rw [ha] at ha'; simpa using ha'.symm
            have hmw := Hh.out.2 m (List.mem_of_getElem? hm)
            have He := Lib.hid (show R.inst1 p w hs ⟨35, 0, fl, args, imm⟩ = ⟨0, w, fl, [], B.trl w m % B.pw w⟩ from by
              have e0 : (args.getD 0 0).toNat = a := by rw [ha]; simp
              have e1 : (p.getD a default).imm.toNat = h := by rw [List.getD_eq_getElem?_getD, hy]; show y.imm.toNat = h; omega
              have e2 : hs.getD h 0 = m := by rw [List.getD_eq_getElem?_getD, hm]; rfl
              unfold R.inst1
              dsimp only
              rw [e0, e1, e2, if_neg (by decide), if_pos rfl, if_pos rfl])
            have hr4 := heap_setCell_same _ (wr.heap.size + 1) 1 _ _ (.int .i64 w) Hrow3.out
            have Hrow4 := Lib.hid (show ((w2.setCell ⟨wr.heap.size + 1, 3, none⟩ (.slice A2 args.length c2)).setCell ⟨wr.heap.size + 1, 1, none⟩ (.int .i64 w)).heap[wr.heap.size + 1]? = some (.cells #[.int .i64 35, .int .i64 w, .int .i64 fl, .slice A2 args.length c2, .int .u32 imm] 62 (0, 0)) from hr4)
            have Hrx4 := Lib.hid ((heap_setCell_other (w2.setCell ⟨wr.heap.size + 1, 3, none⟩ (.slice A2 args.length c2)) ⟨wr.heap.size + 1, 1, none⟩ wr.heap.size (.int .i64 w) (by simp)).trans Hrx3.out)
            have Hside4 := Lib.hid (Hside3.out.set 1 (.int .i64 w))
            have Harg4 := Lib.hid (Harg3.out.set 1 (.int .i64 w))
            clear hr4
            obtain ⟨xx0, xx1, xx2, xx3, xx4, ff0, ff1, ff2, ff3, ff4⟩ := nd5_all Hrx4.out
            obtain ⟨yy0, yy1, yy2, yy3, yy4, gg0, gg1, gg2, gg3, gg4⟩ := nd5_all Hrow4.out
            have hbw4 := Hside4.out.b5
            have kh4 := (hbw4.cell (p := ⟨bh, offh + h, none⟩) hbh).trans hc
            have ka4 := (hbw4.cell (p := ⟨ba, offa, none⟩) hba).trans hca
            have kp4 := (hbw4.cell (p := ⟨b, off + a * 5 + 4, none⟩) hbl).trans hy4
            have HTr := Lib.hid (pTrailing_any w m _ hmw.2 hmw.1 (HT.out.below hbw4))
            have hsz4 : (w2.setCell ⟨wr.heap.size + 1, 3, none⟩ (.slice A2 args.length c2)).heap.size = w2.heap.size := by simp
            have Hm := Lib.hid (mod_u32 (B.trl w m) hwd.2)
            have htr := R.trl_lt w m (by omega)
            clear hm hbh hc hmw hy hbl hy4 hyo hyi hyi0 hh ha' hba hca ho34 hbw4 hsz4 ha
            go_wp2_with fail
            (with_reducible refine HTr.out.mono ?_)
            rintro e w5 ⟨rfl, hb5⟩
            have Hrow5 := row_step (Lib.hid hb5) Hrow4.out
            have Hside5 := Lib.hid (Hside4.out.step hb5)
            have hr6 := heap_setCell_same _ (wr.heap.size + 1) 0 _ _ (.int .i64 0) Hrow5
            have hr7 := heap_setCell_same _ (wr.heap.size + 1) 3 _ _ (.slice none 0 0) hr6
            have HOf := Lib.hid (pOf_any w (B.trl w m) ((w5.setCell ⟨wr.heap.size + 1, 0, none⟩ (.int .i64 0)).setCell ⟨wr.heap.size + 1, 3, none⟩ (.slice none 0 0)) Hw.out)
            have hr8 := heap_setCell_same _ (wr.heap.size + 1) 4 _ _ (.int .u32 (B.trl w m % B.pw w)) hr7
            obtain ⟨a0, _, _, _, _, b0, _, _, _, _⟩ := nd5_all Hrow5
            obtain ⟨_, _, _, c33, _, _, _, _, d3, _⟩ := nd5_all (show (w5.setCell ⟨wr.heap.size + 1, 0, none⟩ (.int .i64 0)).heap[wr.heap.size + 1]? = some (.cells #[.int .i64 0, .int .i64 w, .int .i64 fl, .slice A2 args.length c2, .int .u32 imm] 62 (0, 0)) from hr6)
            obtain ⟨_, _, _, _, e4, _, _, _, _, f44⟩ := nd5_all (show ((w5.setCell ⟨wr.heap.size + 1, 0, none⟩ (.int .i64 0)).setCell ⟨wr.heap.size + 1, 3, none⟩ (.slice none 0 0)).heap[wr.heap.size + 1]? = some (.cells #[.int .i64 0, .int .i64 w, .int .i64 fl, .slice none 0 0, .int .u32 imm] 62 (0, 0)) from hr7)
            have Hrow8 := Lib.hid (show (((w5.setCell ⟨wr.heap.size + 1, 0, none⟩ (.int .i64 0)).setCell ⟨wr.heap.size + 1, 3, none⟩ (.slice none 0 0)).setCell ⟨wr.heap.size + 1, 4, none⟩ (.int .u32 (B.trl w m % B.pw w))).heap[wr.heap.size + 1]? = some (.cells #[.int .i64 0, .int .i64 w, .int .i64 fl, .slice none 0 0, .int .u32 (B.trl w m % B.pw w)] 62 (0, 0)) from hr8)
            have Hside8 := Lib.hid (((Hside5.out.set 0 (.int .i64 0)).set 3 (.slice none 0 0)).set 4 (.int .u32 (B.trl w m % B.pw w)))
            have Harg8 := Lib.hid (show ArgF W.heap.size (wr.heap.size + 1) (((w5.setCell ⟨wr.heap.size + 1, 0, none⟩ (.int .i64 0)).setCell ⟨wr.heap.size + 1, 3, none⟩ (.slice none 0 0)).setCell ⟨wr.heap.size + 1, 4, none⟩ (.int .u32 (B.trl w m % B.pw w))) none 0 [] from ⟨OwnAt.nil_ _ _ _, fun g hg => by simp [Value.ownBlock] at hg⟩)
            clear hr6 hr7 hr8 Hrow5 hb5 kh4 ka4 kp4
            obtain ⟨m0, m1, m2, m3, m4, _⟩ := nd5_all Hrow8.out
            have Hnd := Lib.hid (ArgF.nd (x := ⟨0, w, fl, [], B.trl w m % B.pw w⟩) Harg8.out Hm.out.1 Hm.out.2)
            have Hown5 := Lib.hid (Hside8.out.own5)
            have HB5 := Lib.hid (Hside8.out.b5)
            have hsz5 := HB5.out.size
            go_wp2_with fail
            (with_reducible refine HOf.out.mono ?_)
            rintro e w9 ⟨rfl, rfl⟩
            go_wp2_with (at_builtin; refine wpList_append_nodeR (ndF_rel W.heap.size) rfl (.tmp 87) (.tmp 89) rfl _ ((R.inst p w hs).take j) rfl Hown5.out (ndC ⟨0, w, fl, [], B.trl w m % B.pw w⟩ none 0) ⟨0, w, fl, [], B.trl w m % B.pw w⟩ Hnd.out w5.heap.size (by first | rfl | simp) rfl (by omega) hsz5 ?_; intro v' w9 hown' hbel'; have Hown' := Lib.hid hown'; have Hb' := Lib.hid (hbel' _ HB5.out); clear hown' hbel')
            go_roundg (gk - 1)
            case measure => have := Hgk.out; omega
            case rel =>
              have := Hgk.out
              exact ⟨j + 1, by omega, by go_num, by omega, Hb', Lib.hid (by rw [take_next Hin.out, He.out]; exact Hown'.out)⟩
          · have h35 := hop
            clear hop
            by_cases hwd0 : wd = 0
            · subst hwd0
              have q0 : (op == 0) = false := by simpa using h0
              have q34 : (op == 34) = false := by simpa using h34
              have q35 : (op == 35) = false := by simpa using h35
              have He := Lib.hid (show R.inst1 p w hs ⟨op, 0, fl, args, imm⟩ = ⟨op, w, fl, args, imm⟩ from by unfold R.inst1; simp [h0, h34, h35])
              have hr4 := heap_setCell_same _ (wr.heap.size + 1) 1 _ _ (.int .i64 w) Hrow3.out
              have Hrow4 := Lib.hid (show ((w2.setCell ⟨wr.heap.size + 1, 3, none⟩ (.slice A2 args.length c2)).setCell ⟨wr.heap.size + 1, 1, none⟩ (.int .i64 w)).heap[wr.heap.size + 1]? = some (.cells #[.int .i64 op, .int .i64 w, .int .i64 fl, .slice A2 args.length c2, .int .u32 imm] 62 (0, 0)) from hr4)
              have Hrx4 := Lib.hid ((heap_setCell_other (w2.setCell ⟨wr.heap.size + 1, 3, none⟩ (.slice A2 args.length c2)) ⟨wr.heap.size + 1, 1, none⟩ wr.heap.size (.int .i64 w) (by simp)).trans Hrx3.out)
              have Hside4 := Lib.hid (Hside3.out.set 1 (.int .i64 w))
              have Harg4 := Lib.hid (Harg3.out.set 1 (.int .i64 w))
              clear hr4
              obtain ⟨xx0, xx1, xx2, xx3, xx4, ff0, ff1, ff2, ff3, ff4⟩ := nd5_all Hrx4.out
              obtain ⟨yy0, yy1, yy2, yy3, yy4, gg0, gg1, gg2, gg3, gg4⟩ := nd5_all Hrow4.out
              obtain ⟨m0, m1, m2, m3, m4, _⟩ := nd5_all Hrow4.out
              have Hnd := Lib.hid (ArgF.nd (x := ⟨op, w, fl, args, imm⟩) Harg4.out Hi.out.1 Hi.out.2)
              have Hown5 := Lib.hid (Hside4.out.own5)
              have HB5 := Lib.hid (Hside4.out.b5)
              have hsz5 := HB5.out.size
              go_wp2_with (at_builtin; refine wpList_append_nodeR (ndF_rel W.heap.size) rfl (.tmp 87) (.tmp 89) rfl _ ((R.inst p w hs).take j) rfl Hown5.out (ndC ⟨op, w, fl, args, imm⟩ A2 c2) ⟨op, w, fl, args, imm⟩ Hnd.out w2.heap.size (by first | rfl | simp) rfl (by omega) hsz5 ?_; intro v' w9 hown' hbel'; have Hown' := Lib.hid hown'; have Hb' := Lib.hid (hbel' _ HB5.out); clear hown' hbel')
              go_roundg (gk - 1)
              case measure => have := Hgk.out; omega
              case rel =>
                have := Hgk.out
                exact ⟨j + 1, by omega, by go_num, by omega, Hb', Lib.hid (by rw [take_next Hin.out, He.out]; exact Hown'.out)⟩
            · have qw : (wd == 0) = false := by simpa using hwd0
              have q0 : (op == 0) = false := by simpa using h0
              have q34 : (op == 34) = false := by simpa using h34
              have q35 : (op == 35) = false := by simpa using h35
              have He := Lib.hid (show R.inst1 p w hs ⟨op, wd, fl, args, imm⟩ = ⟨op, wd, fl, args, imm⟩ from by unfold R.inst1; simp [hwd0, h0, h34, h35])
              obtain ⟨m0, m1, m2, m3, m4, _⟩ := nd5_all Hrow3.out
              have Hnd := Lib.hid (ArgF.nd (x := ⟨op, wd, fl, args, imm⟩) Harg3.out Hi.out.1 Hi.out.2)
              have Hown5 := Lib.hid (Hside3.out.own5)
              have HB5 := Lib.hid (Hside3.out.b5)
              have hsz5 := HB5.out.size
              go_wp2_with (at_builtin; refine wpList_append_nodeR (ndF_rel W.heap.size) rfl (.tmp 87) (.tmp 89) rfl _ ((R.inst p w hs).take j) rfl Hown5.out (ndC ⟨op, wd, fl, args, imm⟩ A2 c2) ⟨op, wd, fl, args, imm⟩ Hnd.out w2.heap.size (by first | rfl | simp) rfl (by omega) hsz5 ?_; intro v' w9 hown' hbel'; have Hown' := Lib.hid hown'; have Hb' := Lib.hid (hbel' _ HB5.out); clear hown' hbel')
              go_roundg (gk - 1)
              case measure => have := Hgk.out; omega
              case rel =>
                have := Hgk.out
                exact ⟨j + 1, by omega, by go_num, by omega, Hb', Lib.hid (by rw [take_next Hin.out, He.out]; exact Hown'.out)⟩
    · obtain rfl : j = n := by omega
      have e : (R.inst p w hs).take j = R.inst p w hs := List.take_of_length_le (by rw [R.inst_len, Hl.out]; exact Nat.le_refl _)
      rw [e] at Hown
      go_wp2
      go_ret
      exact ⟨_, rfl, Hown.out, Hbw.out⟩
end Go.Proofs.YtbiopedpceddeaaGreatDoor
