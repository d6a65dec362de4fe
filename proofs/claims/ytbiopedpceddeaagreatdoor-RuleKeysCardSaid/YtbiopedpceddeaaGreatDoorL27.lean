/- Merged: RV19, RPlainX. -/
import Derived.Test.YtbiopedpceddeaaGreatDoorL26
import Derived.Test.YtbiopedpceddeaaGreatDoorL14
set_option linter.unusedVariables false
set_option linter.unusedSimpArgs false
section
namespace Go.Proofs.YtbiopedpceddeaaGreatDoor
open Go.RowKit Go.MapKept Go.Maps Go.WideMaps
set_option linter.unusedVariables false
set_option linter.unusedSimpArgs false

theorem ArgAt.below {B : Nat} {M : Nat → Prop} {w w' : World} {A : Option Addr} {l : List Int} (h : ArgAt B M w A l) (hb : Below w.heap.size w w') : ArgAt B M w' A l := by
  refine ⟨h.1.below (monoInt _) hb, fun hn b off e => ?_⟩
  obtain ⟨h1, h2, cur, fr, h3⟩ := h.2 hn b off e
  exact ⟨h1, h2, cur, fr, (hb.block _ (Array.getElem?_eq_some_iff.1 h3).1).trans h3⟩

/-- a builder that holds nodes, with a new map of what was seen -/
theorem from_fresh {mk : T.Nd → List T.Nd → List T.Nd × Int} {t : List T.Nd} {g bb : Nat} {W0 X X2 : World} {out : List T.Nd} {M : Nat → Prop} (hb : Below W0.heap.size W0 X) (hbu : BuAt X W0.heap.size bb out M) (hnd : out.Nodup) (ho : T.Ord out) (hX : X2 = X.alloc (.map #[] 0)) :
    FromSt [] mk t g out.length W0 bb X.heap.size X2 out M [] := by
  have hb2 : Below X.heap.size X X2 := by rw [hX]; exact (Below.refl _ _).alloc (Nat.le_refl _) _
  have hm : MapAt Tryz.prog 3 ekI IntI X2 X.heap.size [] := by rw [hX]; exact MapAt.made (P := Tryz.prog) (kt := 3) (ek := ekI) (R := IntI) X
  exact ⟨hb.trans (hb2.mono hb.size), hbu.below hb2, fun h => by have := (hbu.in_ _ h).2; omega, hb.size, hm, fun k n h => by simp [AL.get] at h, fun p hp => by simp at hp, hnd, ho, by simp, fun p hp => by simp at hp⟩

theorem bd_var {W : World} {gb : Nat} {w : Int} {L Tm : Value} {s : R.St} (h : BdAt W gb w L Tm s) {i : Nat} (hi : i < 2) : ∃ v, W.cell? ⟨gb, 3 + i, none⟩ = some v ∧ VarAt gb W v (s.v i) := by
  obtain ⟨v0, v1, h0, h1, b0, b1, hr, r0, r1, r2, r3⟩ := h
  obtain ⟨c0, c1, c2, c3, c4, c7, c8, c9, c10, cf⟩ := bd_cells hr
  rcases (show i = 0 ∨ i = 1 by omega) with rfl | rfl
  · exact ⟨v0, c3, r0⟩
  · exact ⟨v1, c4, r1⟩

/-- what a binding's variables stand for -/
def R.St.tr (s : R.St) (i : Int) : T.F := (s.v i).getD (.cons 0 0 0 0 .nil .nil)

/-- what Rewrite's closure finds -/
structure RwSt (W0 : World) (gb bx : Nat) (w : Int) (L Tm : Value) (s : R.St) : Prop where
  bd : BdAt W0 gb w L Tm s
  bx : W0.cell? ⟨bx, 0, none⟩ = some (.pointer (some ⟨gb, 0, none⟩))
  tr : ∀ i f, s.v i = some f → TWf (T.canon f) ∧ (T.canon f).length ≤ 300

def RwD (s : R.St) (x : T.Nd) : Prop := x.op = 33 → 0 ≤ x.imm ∧ x.imm < 2 ∧ s.v x.imm ≠ none

theorem mk_len {s : R.St} {x : T.Nd} {out : List T.Nd} (h : ¬ x.op = 33) : T.mkS s.tr x out = T.addN out x := by unfold T.mkS; rw [if_neg h]
theorem mk_var {s : R.St} {x : T.Nd} {out : List T.Nd} {f : T.F} {r : Int} (h : x.op = 33) (hf : s.v x.imm = some f) (hr : (T.cnn f out).2 = [r]) : T.mkS s.tr x out = ((T.cnn f out).1, r) := by
  unfold T.mkS R.St.tr; rw [if_pos h, hf]; simp [hr]

set_option maxRecDepth 100000 in
set_option maxHeartbeats 4000000 in
theorem made_rw {W0 : World} {gb bx bb ob : Nat} {w : Int} {L Tm : Value} {s : R.St} (hS : RwSt W0 gb bx w L Tm s) :
    MadeOk [(ob, .cells #[.pointer (some ⟨bb, 0, none⟩)] 145 (0, 0))] 93 #[] #[.pointer (some ⟨ob, 0, none⟩), .pointer (some ⟨bx, 0, none⟩)] (T.mkS s.tr) (RwD s) 300 W0 bb 800000 := by
  refine ⟨enters_of Tryz.func93 (by kernel_rfl) rfl, fun X out M x A c hb hbu harg hx hD hnd hord hlo hlen hks => ?_⟩
  have hob : X.heap[ob]? = some (.cells #[.pointer (some ⟨bb, 0, none⟩)] 145 (0, 0)) := (hks _ (List.mem_singleton.2 rfl)).2
  have ob0 : X.cell? ⟨ob, 0, none⟩ = some (.pointer (some ⟨bb, 0, none⟩)) := by rw [cell_of_row _ _ _ _ _ (0, 0) hob]; rfl
  obtain ⟨X1, hX1⟩ : ∃ X1, X1 = X.alloc (.cells #[.int .i64 x.op, .int .i64 x.w, .int .i64 x.fl, .slice A x.args.length c, .int .u32 x.imm] 62) := ⟨_, rfl⟩
  have hb1 : Below X.heap.size X X1 := by rw [hX1]; exact (Below.refl _ _).alloc (Nat.le_refl _) _
  have hrow : X1.heap[X.heap.size]? = some (.cells #[.int .i64 x.op, .int .i64 x.w, .int .i64 x.fl, .slice A x.args.length c, .int .u32 x.imm] 62 (0, 0)) := by rw [hX1]; exact heap_alloc_new X _
  have ob1 := (hb1.cell (p := ⟨ob, 0, none⟩) (cell_below ob0)).trans ob0
  obtain ⟨x0, x1, x2, x3, x4⟩ := nd5_cells hrow
  have Hb1 := Lib.hid hb1
  have Hb := Lib.hid hb
  have Hbu := Lib.hid hbu
  have Harg := Lib.hid harg
  have HS := Lib.hid hS
  have Hx := Lib.hid hx
  have Hnd := Lib.hid hnd
  have Hord := Lib.hid hord
  have Hlen := Lib.hid hlen
  have HD := Lib.hid hD
  have HX1 := Lib.hid hX1
  have Hsz := Lib.hid (show X1.heap.size = X.heap.size + 1 from by rw [hX1]; simp)
  rw [hX1] at ob1 x0 x1 x2 x3 x4
  clear hks hob ob0 hb1 hrow hb hbu harg hS hx hnd hord hlo hlen hD hX1
  show Calls Tryz.prog 93 #[ndV x A c, .pointer (some ⟨ob, 0, none⟩), .pointer (some ⟨bx, 0, none⟩)] X _
  unfold ndV
  by_cases ho : x.op = 33
  rotate_left
  · have q : (x.op != 33) = true := by simpa using ho
    have Hadd := Lib.hid (gadd_any W0.heap.size bb out M x A c X1 (Hbu.out.below Hb1.out) (by have := Hb.out.size; have := Hb1.out.size; omega) (Harg.out.below Hb1.out) Hx.out (by have := Hlen.out; omega))
    unfold ndV at Hadd
    have Hmk := Lib.hid (mk_len (s := s) (out := out) ho)
    clear ho
    go_enter Tryz.func93, Tryz.ntmps93
    go_wp2_with fail
    rw [← HX1.out]
    (with_reducible refine Hadd.out.mono ?_)
    rintro e w3 ⟨rfl, M', hbu3, hk3, hm1, hm2⟩
    have Hk := Lib.hid ((Kpm.of_below Hb1.out M).trans hk3 fun _ _ h => h)
    have Hbu3 := Lib.hid hbu3
    have Hm1 := Lib.hid hm1
    have Hm2 := Lib.hid hm2
    obtain ⟨r, hr⟩ : ∃ r, (T.addN out x).2 = r := ⟨_, rfl⟩
    rw [hr]
    have Hr := Lib.hid hr
    clear hbu3 hk3 hm1 hm2 hr ob1 x0 x1 x2 x3 x4
    go_wp2
    go_ret
    refine ⟨ret_int (show r = _ from by rw [Hmk.out, Hr.out]), by rw [Hmk.out]; exact Nat.le_trans T.addN_len (by omega), M', by rw [Hmk.out]; exact Hbu3.out, Hk.out, Hm1.out, fun i hi => ?_⟩
    rcases Hm2.out i hi with h | h | h
    · exact .inl h
    · exact .inr (.inl (by have := Hsz.out; omega))
    · exact .inr (.inr h)
  · obtain ⟨hi0, hi2, hiv⟩ := HD.out ho
    obtain ⟨i, hi⟩ : ∃ i : Nat, x.imm = i := ⟨x.imm.toNat, by omega⟩
    have hX1i := HX1.out
    rw [hi] at hX1i x0 x1 x2 x3 x4 ob1 ⊢
    have HX1i := Lib.hid hX1i
    clear hX1i
    rw [hi] at hi2 hiv
    have hi2 : i < 2 := by omega
    obtain ⟨f, hf⟩ := Option.ne_none_iff_exists'.1 hiv
    obtain ⟨v, hv, hva⟩ := bd_var HS.out.bd hi2
    rw [hf] at hva
    obtain ⟨hone, Af, nf, cf, rfl, hst⟩ := hva
    obtain ⟨htw, hlf⟩ := HS.out.tr _ _ hf
    have hst0 := hst W0 (Kpm.refl _ _)
    have hnf := hst0.len
    have hroot := hone.root
    rw [hnf] at hroot
    have hb01 := Hb.out.trans (Hb1.out.mono Hb.out.size)
    have v1 := (hb01.cell (p := ⟨gb, 3 + i, none⟩) (cell_below hv)).trans hv
    have g1 := (hb01.cell (p := ⟨bx, 0, none⟩) (cell_below HS.out.bx)).trans HS.out.bx
    obtain ⟨m, rfl⟩ : ∃ m, nf = m + 1 := ⟨nf - 1, by omega⟩
    have em : (m : Int) + 1 - 1 = (m : Int) := by omega
    have hm300 : m ≤ 300 := by omega
    have em' : ((m + 1 : Nat) : Int) - 1 = (m : Int) := by omega
    rw [em'] at hroot
    obtain ⟨X2, hX2⟩ : ∃ X2, X2 = X1.drew.alloc (.map #[] 0) := ⟨_, rfl⟩
    have hb1d : Below W0.heap.size W0 X1.drew := hb01.drew
    have hst2 := from_fresh (mk := T.mkA) (t := T.canon f) (g := 1) hb1d (Hbu.out.below Hb1.out.drew) Hnd.out Hord.out hX2
    have Hfrom := Lib.hid (gfrom_any (ct := cf) (D := fun _ => True) hst0 htw (fun _ _ _ => trivial) (made_add [] W0 bb) T.mkA_ok (base := out.length) (lim := 900000) (by have := Hlen.out; omega) (by omega) (by omega) m (by omega) X2 X1.drew.heap.size out M [] hst2 f hroot.1)
    have hb12 : Below X1.heap.size X1 X2 := by rw [hX2]; exact (Below.refl _ _).drew.alloc (by simp) _
    have Hb12 := Lib.hid hb12
    have HX2 := Lib.hid hX2
    have ob1' : X1.cell? ⟨ob, 0, none⟩ = some (.pointer (some ⟨bb, 0, none⟩)) := by rw [HX1i.out]; exact ob1
    have ob2 := (hb12.cell (p := ⟨ob, 0, none⟩) (cell_below ob1')).trans ob1'
    have hmk := fun W => run_makeMap_any (P := Tryz.prog) Tryz.underlying150 W
    have q : (x.op != 33) = false := by simpa using ho
    have Hsz2 := Lib.hid (show X2.heap.size = X1.heap.size + 1 from by rw [hX2]; simp)
    have Hf := Lib.hid (show s.v x.imm = some f from by rw [hi]; exact hf)
    have Ho := Lib.hid ho
    have Hlf := Lib.hid hlf
    rw [HX1i.out] at v1 g1
    rw [hX2, HX1i.out] at ob2
    clear ob1' hiv hf hst htw hst0 hnf hroot hb01 hX2 hb1d hst2 hb12 hlf hone ho hi hv
    go_enter Tryz.func93, Tryz.ntmps93
    go_wp2
    go_region
    rw [← HX1i.out]
    obtain ⟨X1d, hX1d⟩ : ∃ X1d, X1d = X1.drew := ⟨_, rfl⟩
    have ob3 : X1d.cell? ⟨ob, 0, none⟩ = some (.pointer (some ⟨bb, 0, none⟩)) := by rw [hX1d]; rw [← HX1i.out] at ob1; exact ob1
    have ob4 : (X1d.alloc (.map #[] 0)).cell? ⟨ob, 0, none⟩ = some (.pointer (some ⟨bb, 0, none⟩)) := ((Below.refl X1d.heap.size X1d).alloc (Nat.le_refl _) _ |>.cell (p := ⟨ob, 0, none⟩) (cell_below ob3)).trans ob3
    have HX2d := Lib.hid (show X2 = X1d.alloc (.map #[] 0) from by rw [hX1d]; exact HX2.out)
    have HX1d := Lib.hid (show X1d.heap.size = X1.heap.size from by rw [hX1d]; rfl)
    rw [← hX1d] at Hfrom ⊢
    clear hX1d ob1 ob2 x0 x1 x2 x3 x4 v1 g1
    go_wp2_with fail
    rw [← HX2d.out]
    (with_reducible refine Hfrom.out.mono ?_)
    rintro e w3 ⟨r, M', l', rfl, hr, hst, hkp, hm1, hm2, _⟩
    rw [T.cnnG_A] at hr hst
    have hsm := hst.small
    have Hr := Lib.hid hr
    have Hbu3 := Lib.hid hst.bu
    have Hkp := Lib.hid hkp
    have Hm1 := Lib.hid hm1
    have Hm2 := Lib.hid hm2
    have Hsm := Lib.hid hsm
    clear hr hst hkp hm1 hm2 hsm ob3 ob4 hmk
    go_wp2
    go_ret
    have hmv := mk_var (s := s) (out := out) Ho.out Hf.out Hr.out
    refine ⟨ret_int (show r = _ from by rw [hmv]), by rw [hmv]; have := Hsm.out; have := Hlf.out; simp only; omega, M', by rw [hmv]; exact Hbu3.out, ?_, Hm1.out, fun j hj => ?_⟩
    · have k1 := (Kpm.of_below Hb1.out M).trans (Kpm.of_below Hb12.out M) fun _ _ h => h
      refine k1.trans Hkp.out fun j hj h => ?_
      rcases h with h | h
      · exact h
      · have := HX1d.out
        have := Hsz.out
        omega
    · rcases Hm2.out j hj with h | h
      · exact .inl h
      · exact .inr (.inl (by have := Hsz.out; have := Hsz2.out; omega))
end Go.Proofs.YtbiopedpceddeaaGreatDoor
end
section
namespace Go.Proofs.YtbiopedpceddeaaGreatDoor
set_option linter.unusedVariables false
set_option linter.unusedSimpArgs false
namespace T
/-- the forest of these nodes -/
def tre : Nat → List Nd → List Int → F
  | 0, _, _ => .nil
  | n + 1, t, la => la.foldr (fun a rest => match t[a.toNat]? with
    | some x => .cons x.op x.w x.fl x.imm (tre n t x.args) rest
    | none => .nil) .nil
theorem tre_rep {t : List Nd} (ho : Ord t) : ∀ (n : Nat), n ≤ t.length → ∀ (la : List Int), (∀ a ∈ la, 0 ≤ a ∧ a < (n : Int)) → Rep t la (tre n t la) := by
  intro n
  induction n with
  | zero =>
    intro _ la h
    cases la with
    | nil => exact .nil
    | cons a la => have := h a (by simp); omega
  | succ n ih =>
    intro hn la h
    induction la with
    | nil => exact .nil
    | cons a la ih2 =>
      have hg := ih2 (fun b hb => h b (by simp [hb]))
      have ha := h a (by simp)
      have hl : a.toNat < t.length := by omega
      have hx := List.getElem?_eq_getElem hl
      have hf := ih (by omega) (t[a.toNat]).args (fun b hb => by have := ho _ _ hx b hb; omega)
      have e : tre (n + 1) t (a :: la) = .cons (t[a.toNat]).op (t[a.toNat]).w (t[a.toNat]).fl (t[a.toNat]).imm (tre n t (t[a.toNat]).args) (tre (n + 1) t la) := by
        show (match t[a.toNat]? with
          | some x => F.cons x.op x.w x.fl x.imm (tre n t x.args) (tre (n + 1) t la)
          | none => .nil) = _
        rw [hx]
      rw [e]
      exact .cons ha.1 hx hf hg
/-- the tree of a list: its last node is the root -/
def root (t : List Nd) : F := tre t.length t [(t.length : Int) - 1]
theorem root_rep {t : List Nd} (ho : Ord t) (h : 1 ≤ t.length) : Rep t [(t.length : Int) - 1] (root t) := tre_rep ho _ (Nat.le_refl _) _ (fun a ha => by simp at ha; omega)
end T

namespace R
open T (Nd F)
theorem inst_at {p : List Nd} {w : Int} {hs : List Int} {k : Nat} {y : Nd} (h : (inst p w hs)[k]? = some y) : ∃ x, p[k]? = some x ∧ y = inst1 p w hs x := by
  unfold inst at h
  rw [List.getElem?_map] at h
  obtain ⟨x, hx, e⟩ := Option.map_eq_some_iff.1 h
  exact ⟨x, hx, e.symm⟩
theorem inst1_args (p : List Nd) (w : Int) (hs : List Int) (x : Nd) : (inst1 p w hs x).args = x.args ∨ (inst1 p w hs x).args = [] := by
  unfold inst1
  repeat' split
  all_goals simp
theorem inst_ord {p : List Nd} {w : Int} {hs : List Int} (ho : T.Ord p) : T.Ord (inst p w hs) := fun k y hy a ha => by
  obtain ⟨x, hx, rfl⟩ := inst_at hy
  rcases inst1_args p w hs x with e | e
  · rw [e] at ha; exact ho k x hx a ha
  · rw [e] at ha; simp at ha
theorem inst1_var {p : List Nd} {w : Int} {hs : List Int} {x : Nd} (h : (inst1 p w hs x).op = 33) : x.op = 33 ∧ (inst1 p w hs x).args = x.args ∧ (inst1 p w hs x).imm = x.imm := by
  unfold inst1 at h ⊢
  split
  · rename_i e; rw [if_pos e] at h; simp at h
  · rename_i e
    rw [if_neg e] at h
    split
    · rename_i e2; rw [if_pos e2] at h; simp at h
    · rename_i e2
      rw [if_neg e2] at h
      split
      · rename_i e3; rw [if_pos e3] at h; simp at h
      · rename_i e3
        rw [if_neg e3] at h
        exact ⟨h, rfl, rfl⟩
theorem inst_leafy {p : List Nd} {right : Bool} {w : Int} {hs : List Int} (hp : ∀ k x, p[k]? = some x → pnode p right k x = true) {la : List Int} {f : F} (r : T.Rep (inst p w hs) la f) : Leafy f := by
  refine rep_leafy (fun y hy e => ?_) r
  obtain ⟨k, hk⟩ := List.mem_iff_getElem?.1 hy
  obtain ⟨x, hx, rfl⟩ := inst_at hk
  obtain ⟨h1, h2, _⟩ := inst1_var e
  rw [h2]
  exact pnode_leaf (hp k x hx) (.inl h1)

theorem par_bd {op : Int} (h : 0 ≤ par op) : 0 ≤ op ∧ op ≤ 35 := by
  unfold par at h
  split at h
  · omega
  · split at h
    · omega
    · split at h
      · omega
      · have := ar_bd h; omega
theorem inst_twf {p : List Nd} {right : Bool} {w : Int} {hs : List Int} (hw : 0 ≤ w ∧ w ≤ 32) (hp : ∀ k x, p[k]? = some x → pnode p right k x = true) : TWf (inst p w hs) := by
  refine ⟨inst_ord (pnode_ord hp), fun y hy => ?_, fun y hy => ?_⟩
  · obtain ⟨k, hk⟩ := List.mem_iff_getElem?.1 hy
    obtain ⟨x, hx, rfl⟩ := inst_at hk
    have h := hp k x hx
    have h1 := (pnode_len h).2
    have h2 := par_bd h1
    have h3 := pnode_w h
    have h4 := flOk_bd (pnode_flags h)
    unfold inst1
    repeat' split
    all_goals (dsimp only; exact ⟨⟨by omega, by omega⟩, ⟨by omega, by omega⟩, ⟨by omega, by omega⟩⟩)
  · obtain ⟨k, hk⟩ := List.mem_iff_getElem?.1 hy
    obtain ⟨x, hx, rfl⟩ := inst_at hk
    rcases inst1_args p w hs x with e | e
    · rw [e]; exact pnode_small (hp k x hx)
    · rw [e]; simp

theorem St.tr_one {s : St} (h : ∀ i f, s.v i = some f → T.One f) (i : Int) : T.One (s.tr i) := by
  unfold St.tr
  cases hi : s.v i with
  | none => exact ⟨_, _, _, _, _, rfl⟩
  | some f => exact h i f hi

/-- what a match binds -/
structure SOk (t : List Nd) (r : Rl) (w : Int) (s : St) : Prop where
  inT : ∀ i f, s.v i = some f → T.InT t f
  bound : ∀ x ∈ r.right, x.op = 33 → s.v x.imm ≠ none
  hs : HsOk w s.hs
  wd : B.isWd w = true

theorem mtch_fit {r : Rl} {t : List Nd} {fp ft : F} {s : St} (h : mtch r cond t fp ft = some s) : 0 < mtw r t fp ft ∧ fit (mtw r t fp ft) fp ft St.none = some s ∧ r.pre.all (cond (mtw r t fp ft) s.hs) = true := by
  unfold mtch mfit at h
  split at h
  · rename_i h0
    obtain ⟨s1, h1, h2⟩ := Option.bind_eq_some_iff.1 h
    split at h2
    · rename_i h3
      cases h2
      exact ⟨h0, h1, h3⟩
    · cases h2
  · cases h

theorem sok {r : Rl} {t : List Nd} (hr : ROk r) (ht : TOk t) (him : ∀ x ∈ t, 0 ≤ x.imm) {fp ft : F} (hfp : T.Rep r.left [((r.left.length : Int) - 1)] fp) (hft : T.Rep t [((t.length : Int) - 1)] ft) {s : St} (h : mtch r cond t fp ft = some s) : SOk t r (mtw r t fp ft) s := by
  obtain ⟨h0, h1, h2⟩ := mtch_fit h
  have hwd : B.isWd (mtw r t fp ft) = true := by
    refine B.isWd_iff.2 ⟨by omega, ?_⟩
    unfold mtw
    split
    · exact wd1_le fp ft (rep_w32 (fun z hz => (ht.at_ hz).2.1.2) hft)
    · unfold rootW
      have hl : t.length - 1 < t.length := by have := ht.pos; omega
      rw [List.getD_eq_getElem?_getD, List.getElem?_eq_getElem hl]
      exact (ht.at_ (List.getElem_mem hl)).2.1.2
  have hbare := rep_bare (fun z hz => by
    obtain ⟨k, hk⟩ := List.mem_iff_getElem?.1 hz
    exact pnode_bare (hr.lp k z hk)) hfp
  have hleaf := rep_leaf2 (fun z hz => by
    obtain ⟨k, hk⟩ := List.mem_iff_getElem?.1 hz
    exact pnode_leaf (hr.lp k z hk)) hfp
  refine ⟨fit_vars fp ft (rep_all hft) _ _ (fun i f h => by cases h) h1, fun x hx ho => ?_, hs_ok hwd (fit_ok fp ft hbare (rep_word (ht.word him) hft) _ _ (St.none_ok _) h1), hwd⟩
  have hocc := hr.occ x hx (.inl ho)
  rw [ho, occ_iff (pnode_ord hr.lp) (by have := hr.lpos; omega), ← occF_from hfp] at hocc
  exact (fit_bound fp ft hleaf _ _ h1).2.1 _ hocc

theorem sok_tr {r : Rl} {t : List Nd} {w : Int} {s : St} (ht : TOk t) (h : SOk t r w s) : ∀ i f, s.v i = some f → TWf (T.canon f) ∧ (T.canon f).length ≤ 300 := fun i f hf => by
  obtain ⟨k, hk⟩ := h.inT i f hf
  refine ⟨?_, Nat.le_trans (T.canon_len hk) ht.len⟩
  have hall := T.cnn_all (P := fun x => (I64 x.op ∧ I64 x.w ∧ I64 x.fl) ∧ x.args.length ≤ 3) (fun x la hx hl => ⟨hx.1, by dsimp only; omega⟩) (fun x hx => ⟨ht.tw.op x hx, ht.tw.len x hx⟩) hk List.nodup_nil T.ord_nil (fun x hx => by simp at hx)
  exact ⟨T.canon_ord f, fun x hx => (hall x hx).1, fun x hx => (hall x hx).2⟩

/-- the errors of a rule and a term -/
def rerr (r : Rl) (t : List Nd) : Int := if rvalid r ≠ 0 then rvalid r else fvalid t
/-- what a rule binds -/
def mres (r : Rl) (t : List Nd) : Option St := mtch r cond t (T.root r.left) (T.root t)
def mw (r : Rl) (t : List Nd) : Int := mtw r t (T.root r.left) (T.root t)
/-- the tree that a rule makes -/
def rtree (r : Rl) (t : List Nd) (s : St) : F := sub s.tr (T.root (inst r.right (mw r t) s.hs))
/-- what a rule makes of a term -/
def rew (r : Rl) (t : List Nd) : List Nd × Bool × Int :=
  if rerr r t ≠ 0 then ([], false, rerr r t)
  else match mres r t with
    | none => ([], false, 0)
    | some s => if 300 < (T.canon (rtree r t s)).length then ([], false, 3) else (T.canon (rtree r t s), true, 0)
end R
end Go.Proofs.YtbiopedpceddeaaGreatDoor
end
