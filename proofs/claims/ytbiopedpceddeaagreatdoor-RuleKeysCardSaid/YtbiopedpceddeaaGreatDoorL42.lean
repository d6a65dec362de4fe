/- Merged: RPCov, RPK8, RKA8a. -/
import Derived.Test.YtbiopedpceddeaaGreatDoorL14
import Derived.Test.YtbiopedpceddeaaGreatDoorL38
import Derived.Lib.Split
import Derived.Lib.SplitLaws
import Derived.Lib.ParseIntB
import Derived.Test.YtbiopedpceddeaaGreatDoorL37
import Derived.Test.YtbiopedpceddeaaGreatDoorL04
import Derived.Test.YtbiopedpceddeaaGreatDoorL13
import Derived.Test.YtbiopedpceddeaaGreatDoorL39
import Derived.Test.YtbiopedpceddeaaGreatDoorL41
import Derived.Test.YtbiopedpceddeaaGreatDoorL29
set_option linter.unusedVariables false
set_option linter.unusedSimpArgs false
section
namespace Go.Proofs.YtbiopedpceddeaaGreatDoor
set_option linter.unusedVariables false
set_option linter.unusedSimpArgs false
namespace V
open T
theorem rep2 {t u : List Nd} {la : List Int} {f : F} (r : Rep t la f) : ∀ {lb : List Int}, Rep u lb f → la.length = lb.length ∧ ∀ i, i < la.length → (t.getD (la.getD i 0).toNat default).w = (u.getD (lb.getD i 0).toNat default).w := by
  induction r with
  | nil =>
    intro lb s
    cases s
    exact ⟨rfl, fun i h => by simp at h⟩
  | @cons a la x kids rest h0 hx hk hr ih1 ih2 =>
    intro lb s
    generalize ho : x.op = o at s
    generalize hw : x.w = w at s
    generalize hf : x.fl = fl at s
    generalize hi : x.imm = im at s
    cases s with
    | @cons b lb y _ _ g0 hy hk' hr' =>
      obtain ⟨l1, l2⟩ := ih2 hr'
      refine ⟨by simp [l1], fun i hi => ?_⟩
      cases i with
      | zero =>
        simp only [List.getD_cons_zero]
        rw [List.getD_eq_getElem?_getD, List.getD_eq_getElem?_getD, hx, hy]
        exact hw
      | succ i =>
        simp only [List.getD_cons_succ]
        exact l2 i (by simpa using hi)
theorem node_match {t L : List Nd} (hc : Cov t L) (ho : Ord L) {j : Nat} {y : Nd} (hy : L[j]? = some y) : ∃ (k : Nat) (x : Nd), t[k]? = some x ∧ x.op = y.op ∧ x.w = y.w ∧ x.fl = y.fl ∧ x.imm = y.imm ∧ x.args.length = y.args.length ∧ ∀ i, i < y.args.length → wd t x i = wd L y i := by
  obtain ⟨g, hg⟩ := Rep.one ho (List.getElem?_eq_some_iff.1 hy).1
  obtain ⟨k, hk⟩ := hc _ g hg
  cases hg with
  | @cons _ _ y' kids _ g0 hy' hky hr =>
    rw [Int.toNat_natCast, hy] at hy'
    cases hy'
    generalize ho : y.op = o at hk
    generalize hw : y.w = w at hk
    generalize hf : y.fl = fl at hk
    generalize hi : y.imm = im at hk
    cases hk with
    | @cons _ _ x _ _ k0 hx hkx _ =>
      obtain ⟨r1, r2⟩ := rep2 hkx hky
      exact ⟨_, x, hx, ho.symm ▸ rfl, hw.symm ▸ rfl, hf.symm ▸ rfl, hi.symm ▸ rfl, r1, fun i h => r2 i (by omega)⟩
end V
end Go.Proofs.YtbiopedpceddeaaGreatDoor
end
section
namespace Go.Proofs.YtbiopedpceddeaaGreatDoor
set_option linter.unusedVariables false
set_option linter.unusedSimpArgs false
namespace KT
open R
/-- the lists of a rule's sides without equal nodes -/
structure Sides (r : Rl) (L Q : List T.Nd) : Prop where
  left : ∃ f, T.Rep r.left [((r.left.length : Int) - 1)] f ∧ L = T.canon f
  right : ∃ f, T.Rep r.right [((r.right.length : Int) - 1)] f ∧ Q = T.canon f
theorem rep_root {t : List T.Nd} (ho : T.Ord t) (hp : 1 ≤ t.length) : ∃ f, T.Rep t [((t.length : Int) - 1)] f := by
  obtain ⟨f, hf⟩ := T.Rep.one ho (k := t.length - 1) (by omega)
  rw [show ((t.length - 1 : Nat) : Int) = (t.length : Int) - 1 by omega] at hf
  exact ⟨f, hf⟩
theorem Sides.ex {r : Rl} (h : ROk r) : ∃ L Q, Sides r L Q := by
  obtain ⟨f, hf⟩ := rep_root (pnode_ord h.lp) h.lpos
  obtain ⟨g, hg⟩ := rep_root (pnode_ord h.rp) h.rpos
  exact ⟨_, _, ⟨f, hf, rfl⟩, ⟨g, hg, rfl⟩⟩
theorem Sides.det {r : Rl} {L Q L' Q' : List T.Nd} (h : Sides r L Q) (h' : Sides r L' Q') : L = L' ∧ Q = Q' := by
  obtain ⟨⟨f, hf, rfl⟩, ⟨g, hg, rfl⟩⟩ := h
  obtain ⟨⟨f', hf', rfl⟩, ⟨g', hg', rfl⟩⟩ := h'
  rw [T.Rep.det hf hf', T.Rep.det hg hg']
  exact ⟨rfl, rfl⟩
theorem rep_canon_ne {t : List T.Nd} {a : Int} {f : T.F} (h : T.Rep t [a] f) : T.canon f ≠ [] := by
  cases h with
  | cons h0 hx hk hr =>
    cases hr
    rename_i x kids
    have := (T.cnn_last x.op x.w x.fl x.imm kids).2
    intro e
    unfold T.canon at e
    rw [e] at this
    simp at this
theorem Sides.ne {r : Rl} {L Q : List T.Nd} (h : Sides r L Q) : L ≠ [] ∧ Q ≠ [] := by
  obtain ⟨⟨f, hf, rfl⟩, ⟨g, hg, rfl⟩⟩ := h
  exact ⟨rep_canon_ne hf, rep_canon_ne hg⟩
theorem Sides.occ {r : Rl} (hr : ROk r) {L Q : List T.Nd} (h : Sides r L Q) (o i : Int) : R.occ r.left o i = true → i ∈ seen o [] L := by
  obtain ⟨⟨f, hf, rfl⟩, _⟩ := h
  intro ho
  rw [R.occ_canon (pnode_ord hr.lp) hr.lpos hf, List.any_eq_true] at ho
  obtain ⟨x, hx, e⟩ := ho
  rw [Bool.and_eq_true, decide_eq_true_iff, decide_eq_true_iff] at e
  rw [seen_mem]
  exact .inr ⟨x, hx, e.1, e.2⟩
theorem Sides.right_in {r : Rl} (hr : ROk r) {L Q : List T.Nd} (h : Sides r L Q) {o : Int} (ho : o = 33 ∨ o = 34) : ∀ x ∈ Q, x.op = o → x.imm ∈ seen o [] L := by
  intro x hx e
  refine h.occ hr o x.imm ?_
  obtain ⟨_, ⟨g, hg, rfl⟩⟩ := h
  have h1 : R.occF g x.op x.imm := by
    have := (R.cnn_labels g [] x.op x.imm).1 ⟨x, hx, rfl, rfl⟩
    rcases this with ⟨y, hy, _⟩ | h
    · cases hy
    · exact h
  obtain ⟨k, y, _, hk, e1, e2⟩ := (R.occF_from hg).1 h1
  have := hr.occ y (List.mem_of_getElem? hk) (by rw [e1, e]; exact ho)
  rw [e1, e2, e] at this
  exact this
theorem Sides.pre_in {r : Rl} (hr : ROk r) {L Q : List T.Nd} (h : Sides r L Q) : ∀ c ∈ r.pre, c.hole ∈ seen 34 [] L := fun c hc => h.occ hr 34 c.hole (hr.cocc c hc)
/-- the form of a rule -/
noncomputable def formR (r : Rl) : Form := open Classical in if h : ∃ L Q, Sides r L Q then form h.choose h.choose_spec.choose r.pre else ⟨[], [], []⟩
theorem formR_eq {r : Rl} {L Q : List T.Nd} (h : Sides r L Q) : formR r = form L Q r.pre := by
  have hex : ∃ L Q, Sides r L Q := ⟨L, Q, h⟩
  unfold formR
  rw [dif_pos hex]
  have key : ∀ L' Q', Sides r L' Q' → form L' Q' r.pre = form L Q r.pre := fun L' Q' h' => by
    obtain ⟨e1, e2⟩ := Sides.det h' h
    rw [e1, e2]
  exact key _ _ hex.choose_spec.choose_spec
/-- two rules have one key -/
noncomputable def sm (r q : Rl) : Bool := open Classical in decide ((formR r).same (formR q))
theorem sm_iff (r q : Rl) : sm r q = true ↔ (formR r).same (formR q) := by
  unfold sm
  exact @decide_eq_true_iff _ (Classical.propDecidable _)
/-- a text is the key of a rule -/
def IsKey (r : Rl) (k : List UInt8) : Prop := KeyOf (formR r) k
theorem formR_ne {r : Rl} (h : ROk r) : (formR r).left ≠ [] ∧ (formR r).right ≠ [] ∧ ∀ p ∈ (formR r).pre, p ≠ [] := by
  obtain ⟨L, Q, hs⟩ := Sides.ex h
  rw [formR_eq hs]
  refine ⟨by simp [form, hs.ne.1], by simp [form, hs.ne.2], fun p hp => ?_⟩
  simp only [form] at hp
  obtain ⟨c, _, rfl⟩ := List.mem_map.1 hp
  simp
theorem IsKey.iff {r q : Rl} (hr : ROk r) (hq : ROk q) {k j : List UInt8} (h : IsKey r k) (h' : IsKey q j) : k = j ↔ sm r q = true := by
  obtain ⟨a1, a2, a3⟩ := formR_ne hr
  obtain ⟨b1, b2, b3⟩ := formR_ne hq
  rw [KeyOf.iff h h' a1 a2 b1 b2 a3 b3, sm_iff]
/-- the key that is told -/
theorem IsKey.mk' {r : Rl} (hr : ROk r) {L Q : List T.Nd} (h : Sides r L Q) {qs : List (List Int)} (hq : qs.Pairwise fun a b => ¬ ltL b a)
    (hm : ∀ p, p ∈ qs ↔ ∃ c ∈ r.pre, p = [c.kind, (((seen 34 [] L).idxOf c.hole : Nat) : Int), c.imm]) :
    IsKey r (keyT (renL [] [] L) (renL (seen 33 [] L) (seen 34 [] L) Q) (compT qs)) := by
  unfold IsKey
  rw [formR_eq h]
  refine KeyOf.mk' L Q r.pre qs (h.right_in hr (.inl rfl)) (h.right_in hr (.inr rfl)) hq fun p => (hm p).trans ?_
  simp only [form, List.mem_map]
  exact ⟨fun ⟨c, hc, e⟩ => ⟨c, hc, e.symm⟩, fun ⟨c, hc, e⟩ => ⟨c, hc, e.symm⟩⟩
end KT
end Go.Proofs.YtbiopedpceddeaaGreatDoor
end
section
namespace Go.Proofs.YtbiopedpceddeaaGreatDoor
open Go.RowKit Go.Maps
set_option linter.unusedVariables false
set_option linter.unusedSimpArgs false
namespace KT
theorem pnode_twf {p : List T.Nd} {right : Bool} (hp : ∀ k x, p[k]? = some x → R.pnode p right k x = true) : TWf p := by
  refine ⟨R.pnode_ord hp, fun x hx => ?_, fun x hx => ?_⟩
  · obtain ⟨k, hk⟩ := List.mem_iff_getElem?.1 hx
    have h := hp k x hk
    have h2 := R.par_bd (R.pnode_len h).2
    have h3 := R.pnode_w h
    have h4 := R.flOk_bd (R.pnode_flags h)
    exact ⟨⟨by omega, by omega⟩, ⟨by omega, by omega⟩, ⟨by omega, by omega⟩⟩
  · obtain ⟨k, hk⟩ := List.mem_iff_getElem?.1 hx
    exact R.pnode_small (hp k x hk)
theorem canon_ndI {p : List T.Nd} {right : Bool} (hp : ∀ k x, p[k]? = some x → R.pnode p right k x = true) (hi : ∀ x ∈ p, 0 ≤ x.imm ∧ x.imm < 4294967296) (hl : p.length ≤ 12) {la : List Int} {f : T.F} (hf : T.Rep p la f) : (∀ x ∈ T.canon f, NdI x) ∧ (T.canon f).length ≤ 12 := by
  have hc : T.Cov p (T.canon f) := T.cnn_cov hf List.nodup_nil T.ord_nil (T.cov_nil p)
  have told := T.cnn_told f List.nodup_nil T.ord_nil
  have ho : T.Ord (T.canon f) := told.ord
  have hlen : (T.canon f).length ≤ 12 := Nat.le_trans (T.cov_len told.nd ho hc) hl
  refine ⟨fun y hy => ?_, hlen⟩
  obtain ⟨j, hj⟩ := List.getElem?_of_mem hy
  obtain ⟨k, x, hx, e1, e2, e3, e4, e5, e6⟩ := V.node_match hc ho hj
  have hm := List.mem_of_getElem? hx
  obtain ⟨o1, o2, o3⟩ := (pnode_twf hp).op x hm
  have hlj := (List.getElem?_eq_some_iff.1 hj).1
  refine ⟨e1 ▸ o1, e2 ▸ o2, e3 ▸ o3, by rw [← e5]; exact (pnode_twf hp).len x hm, fun a ha => ?_, e4 ▸ hi x hm⟩
  have := ho j y hj a ha
  exact ⟨by omega, by omega⟩
theorem nd_rng {W : World} {At : Option Addr} {n : Nat} {t : List T.Nd} (h : StAt 5 NdR W At n t) : ∀ x ∈ t, 0 ≤ x.imm ∧ x.imm < 4294967296 := fun x hx => by
  obtain ⟨k, hk⟩ := List.getElem?_of_mem hx
  have hlt := (List.getElem?_eq_some_iff.1 hk).1
  rw [h.len] at hlt
  obtain ⟨y, b, off, A, c, hy, _, _, _, _, _, _, _, _, i0, i1⟩ := nd_cells h hlt
  rw [hk] at hy
  cases hy
  exact ⟨i0, i1⟩

set_option maxRecDepth 100000 in
/-- a number that is met already: nothing turns -/
theorem kof_in (b : Nat) (s : List Int) (n : Int) (W : World) (h : NumAt W b s) (hn : 0 ≤ n ∧ n < 4294967296) (hm : n ∈ s) :
    Calls Tryz.prog 60 #[.map (some b), .int .u32 n] W fun e w' => e = .returned (.int .i64 ((s.idxOf n : Nat) : Int)) ∧ W = w' := by
  have hz : ∀ w, (zeroValue 3).run Tryz.prog w = .ok (.int .i64 0) w := fun w => by go_simp
  obtain ⟨u, _, hlook, hlv⟩ := h.2.lookup (k := n) u32Keyed ekU_inj Tryz.underlying82 (hz W) (keyOf_u32 hn)
  rw [ents2_get h.1] at hlook hlv
  unfold ekU at hlook
  rw [if_pos hm] at hlook hlv
  rcases hlv with ⟨hc, _⟩ | ⟨a, hc, hu⟩
  · cases hc
  · cases hc
    have hu : u = .int .i64 ((s.idxOf n : Nat) : Int) := hu
    subst hu
    go_enter Tryz.func60, Tryz.ntmps60
    go_wp2
    go_ret
    exact ⟨rfl, rfl⟩

/-- what is told of a condition -/
def cdL (H : List Int) (c : R.Cd) : List Int := [c.kind, ((H.idxOf c.hole : Nat) : Int), c.imm]
/-- a row of three numbers in a block of its own -/
def RowX (w : World) (v : Value) (B : Nat) (e : Value × List Int) : Prop :=
  ∃ b, e.1 = .slice (some ⟨b, 0, none⟩) 3 3 ∧ B ≤ b ∧ v.ownBlock ≠ some b ∧ e.2.length = 3 ∧ w.heap[b]? = some (.cells (e.2.map (Value.int .i64)).toArray 3 (0, 0))
theorem RowX.keep {w w' : World} {v v' : Value} {B : Nat} {e : Value × List Int} (h : RowX w v B e) (hk : ∀ b, B ≤ b → b < w.heap.size → v.ownBlock ≠ some b → w'.heap[b]? = w.heap[b]? ∧ v'.ownBlock ≠ some b) : RowX w' v' B e := by
  obtain ⟨b, h1, h2, h3, h4, h5⟩ := h
  obtain ⟨k1, k2⟩ := hk b h2 (Array.getElem?_eq_some_iff.1 h5).1 h3
  exact ⟨b, h1, h2, k2, h4, k1.trans h5⟩
theorem RowX.at_ {w : World} {v : Value} {B g : Nat} {e : Value × List Int} (h : RowX w v B e) (hg : v.ownBlock = some g) : RowAt w g e := by
  obtain ⟨b, h1, h2, h3, h4, h5⟩ := h
  refine ⟨some ⟨b, 0, none⟩, 3, 3, h1, by omega, ?_, fun b' o e => ?_⟩
  · refine ⟨h4, by omega, fun k x hx => ⟨b, 0, .int .i64 x, rfl, (Array.getElem?_eq_some_iff.1 h5).1, ?_, rfl⟩⟩
    rw [cell_of_row _ _ _ _ _ (0, 0) h5]
    simp [hx]
  · cases e
    exact fun e => h3 (by rw [hg, e])
end KT
end Go.Proofs.YtbiopedpceddeaaGreatDoor
end
