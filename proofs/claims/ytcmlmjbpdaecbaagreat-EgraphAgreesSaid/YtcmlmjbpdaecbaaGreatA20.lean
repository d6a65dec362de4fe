/- Merged: QPlainW, QPlainEC, QG16, QG17. -/
import Derived.Test.YtcmlmjbpdaecbaaGreatA02
import Derived.Test.YtcmlmjbpdaecbaaGreatA04
import Derived.Test.YtcmlmjbpdaecbaaGreatA10
import Derived.Test.YtcmlmjbpdaecbaaGreatA19
set_option linter.unusedVariables false
set_option linter.unusedSimpArgs false
section
namespace Go.Proofs.YtcmlmjbpdaecbaaGreat
set_option linter.unusedVariables false
set_option linter.unusedSimpArgs false
namespace T
/-- a tree of a list -/
def InT (t : List Nd) (g : F) : Prop := ∃ k : Int, Rep t [k] g

theorem Rep.inj {out : List Nd} (hn : out.Nodup) {la : List Int} {f : F} (r : Rep out la f) : ∀ {lb : List Int}, Rep out lb f → la = lb := by
  induction r with
  | nil => intro lb s; cases s; rfl
  | @cons a la x kids rest h0 hx _ _ ih1 ih2 =>
    intro lb s
    generalize hg : F.cons x.op x.w x.fl x.imm kids rest = g at s
    cases s with
    | nil => cases hg
    | @cons b lb y kids' rest' h0' hx' hk' hr' =>
      injection hg with e1 e2 e3 e4 e5 e6
      subst e5
      subst e6
      have e := ih1 hk'
      have e' := ih2 hr'
      have exy : x = y := by
        obtain ⟨xo, xw, xf, xa, xi⟩ := x
        obtain ⟨yo, yw, yf, ya, yi⟩ := y
        dsimp only at *
        subst e1 e2 e3 e4 e
        rfl
      subst exy
      have h1 := (idx_at hn hx).2
      have h2 := (idx_at hn hx').2
      have : a = b := by omega
      rw [this, e']

/-- each tree of out is a tree of t -/
def Cov (t out : List Nd) : Prop := ∀ (i : Int) (g : F), Rep out [i] g → InT t g

theorem cov_add {t out : List Nd} {y : Nd} {kids : F} (hc : Cov t out) (ho : Ord out) (hy : ∀ a ∈ y.args, 0 ≤ a ∧ a < (out.length : Int)) (hk : Rep out y.args kids) (ht : InT t (.cons y.op y.w y.fl y.imm kids .nil)) : Cov t (addN out y).1 := by
  unfold addN
  by_cases hm : y ∈ out
  · rw [if_pos hm]; exact hc
  · rw [if_neg hm]
    intro i f r
    rcases Int.lt_or_le i out.length with hi | hi
    · exact hc i f (r.cut ho hi)
    · cases r with
      | @cons _ _ x kids' rest h0 hx hk' hr =>
        cases hr
        have hi' : i.toNat = out.length := by
          have := (List.getElem?_eq_some_iff.1 hx).1
          simp at this
          omega
        rw [hi'] at hx
        simp at hx
        subst hx
        have e := (hk.mono (u := out ++ [y]) (fun k x hx => pre_at (List.prefix_append _ _) k x hx)).det hk'
        subst e
        exact ht

theorem cnn_cov {t : List Nd} {la : List Int} {f : F} (r : Rep t la f) : ∀ {out : List Nd}, out.Nodup → Ord out → Cov t out → Cov t (cnn f out).1 := by
  induction r with
  | nil => intro out _ _ hc; exact hc
  | @cons a la x kids rest h0 hx hk _ ih1 ih2 =>
    intro out hn ho hc
    have t1 := cnn_told kids hn ho
    have c1 := ih1 hn ho hc
    simp only [cnn]
    have s2 := addN_spec (y := ⟨x.op, x.w, x.fl, (cnn kids out).2, x.imm⟩) t1.nd
    have o2 := addN_ord (y := ⟨x.op, x.w, x.fl, (cnn kids out).2, x.imm⟩) t1.ord t1.lo
    exact ih2 s2.2.1 o2 (cov_add c1 t1.ord t1.lo t1.rep ⟨a, Rep.cons (x := x) h0 hx hk .nil⟩)

theorem nodup_le : ∀ (n : Nat) (l : List Nat), l.Nodup → (∀ a ∈ l, a < n) → l.length ≤ n := by
  intro n
  induction n with
  | zero =>
    intro l _ h
    cases l with
    | nil => simp
    | cons a l => have := h a (by simp); omega
  | succ n ih =>
    intro l hd h
    by_cases hm : n ∈ l
    · have h1 := List.length_erase_of_mem hm
      have h2 := ih (l.erase n) (hd.erase _) (fun a ha => by
        have ha' := List.mem_of_mem_erase ha
        have := h a ha'
        have hne : a ≠ n := fun e => by
          rw [List.Nodup.mem_erase_iff hd] at ha
          exact ha.1 e
        omega)
      omega
    · have := ih l hd (fun a ha => by
        have := h a ha
        have hne : a ≠ n := fun e => hm (e ▸ ha)
        omega)
      omega

theorem cov_len {t out : List Nd} (hn : out.Nodup) (ho : Ord out) (hc : Cov t out) : out.length ≤ t.length := by
  have h : ∀ i : Nat, ∃ k : Nat, i < out.length → (k < t.length ∧ ∀ g, Rep out [(i : Int)] g → Rep t [(k : Int)] g) := fun i => by
    by_cases hi : i < out.length
    · obtain ⟨g, hg⟩ := Rep.one ho hi
      obtain ⟨k, hk⟩ := hc i g hg
      have hk0 : 0 ≤ k ∧ k.toNat < t.length := by
        cases hk with
        | cons h0 hx _ _ => exact ⟨h0, (List.getElem?_eq_some_iff.1 hx).1⟩
      exact ⟨k.toNat, fun _ => ⟨hk0.2, fun g' hg' => by rw [hg'.det hg, Int.toNat_of_nonneg hk0.1]; exact hk⟩⟩
    · exact ⟨0, fun h => absurd h hi⟩
  obtain ⟨c, hcf⟩ := Classical.axiomOfChoice h
  have hnd : ((List.range out.length).map c).Nodup := by
    unfold List.Nodup
    rw [List.pairwise_map]
    refine List.Pairwise.imp_of_mem ?_ (List.nodup_range (n := out.length))
    intro i j hi hj hij e
    have hi := List.mem_range.1 hi
    have hj := List.mem_range.1 hj
    obtain ⟨g, hg⟩ := Rep.one ho hi
    obtain ⟨g', hg'⟩ := Rep.one ho hj
    have r1 := (hcf i hi).2 g hg
    have r2 := (hcf j hj).2 g' hg'
    rw [e] at r1
    have := r1.det r2
    subst this
    have := hg.inj hn hg'
    simp at this
    omega
  have := nodup_le t.length _ hnd (fun a ha => by
    obtain ⟨i, hi, rfl⟩ := List.mem_map.1 ha
    exact (hcf i (List.mem_range.1 hi)).1)
  simpa using this

theorem cov_nil (t : List Nd) : Cov t [] := fun i g r => by cases r with | cons h0 hx _ _ => simp at hx

/-- a shared tree is no longer than the list it comes from -/
theorem canon_len {t : List Nd} {la : List Int} {f : F} (r : Rep t la f) : (canon f).length ≤ t.length := by
  have h := cnn_told f List.nodup_nil ord_nil
  exact cov_len h.nd h.ord (cnn_cov r List.nodup_nil ord_nil (cov_nil t))

/-- the nodes of a shared tree have the labels of the list -/
theorem cnn_all {P : Nd → Prop} (hP : ∀ x la, P x → la.length = x.args.length → P ⟨x.op, x.w, x.fl, la, x.imm⟩) {t : List Nd} (ht : ∀ x ∈ t, P x) {la : List Int} {f : F} (r : Rep t la f) : ∀ {out : List Nd}, out.Nodup → Ord out → (∀ x ∈ out, P x) → ∀ x ∈ (cnn f out).1, P x := by
  induction r with
  | nil => intro out _ _ h; exact h
  | @cons a la x kids rest h0 hx hk _ ih1 ih2 =>
    intro out hn ho h
    have t1 := cnn_told kids hn ho
    have c1 := ih1 hn ho h
    simp only [cnn]
    have s2 := addN_spec (y := ⟨x.op, x.w, x.fl, (cnn kids out).2, x.imm⟩) t1.nd
    have o2 := addN_ord (y := ⟨x.op, x.w, x.fl, (cnn kids out).2, x.imm⟩) t1.ord t1.lo
    refine ih2 s2.2.1 o2 fun z hz => ?_
    rcases R.addN_mem.1 hz with hz | rfl
    · exact c1 z hz
    · refine hP x _ (ht x (List.mem_of_getElem? hx)) ?_
      rw [← t1.rep.len, hk.len]

theorem canon_ord (f : F) : Ord (canon f) := (cnn_told f List.nodup_nil ord_nil).ord
end T

namespace R
open T (Nd F)
end R
end Go.Proofs.YtcmlmjbpdaecbaaGreat
end
section
namespace Go.Proofs.YtcmlmjbpdaecbaaGreat
set_option linter.unusedVariables false
set_option linter.unusedSimpArgs false
namespace E
open T

/-- a node of a valid term -/
structure NdOk (x : Nd) : Prop where
  op : 0 ≤ x.op ∧ x.op ≤ 33
  w : 1 ≤ x.w ∧ x.w ≤ 32
  fl : x.fl = 0
  len : x.args.length ≤ 3
  var : x.op = 33 → x.imm < 4 ∧ x.args = []
theorem ar_le {op : Int} (h : 0 ≤ ar op) : 0 ≤ op ∧ op ≤ 33 ∧ ar op ≤ 3 ∧ (op = 33 → ar op = 0) := by
  unfold ar at h ⊢
  split
  · rename_i h1; refine ⟨by omega, by omega, by omega, fun _ => rfl⟩
  · rename_i h1
    rw [if_neg h1] at h
    split
    · rename_i h2; exact ⟨by omega, by omega, by omega, fun e => by omega⟩
    · rename_i h2
      rw [if_neg h2] at h
      split
      · rename_i h3; exact ⟨by omega, by omega, by omega, fun e => by omega⟩
      · rename_i h3
        rw [if_neg h3] at h
        split
        · rename_i h4; exact ⟨by omega, by omega, by omega, fun e => by omega⟩
        · rename_i h4
          rw [if_neg h4] at h
          omega
theorem shaped_ok {k : Nat} {x : Nd} (h : shaped true k x = true) : NdOk x ∧ ∀ a ∈ x.args, 0 ≤ a ∧ a < (k : Int) := by
  unfold shaped at h
  simp only [Bool.and_eq_true, decide_eq_true_eq] at h
  obtain ⟨⟨⟨⟨⟨⟨⟨h1, h2⟩, h3⟩, h4⟩, h5⟩, h6⟩, h7⟩, h8⟩ := h
  obtain ⟨a1, a2, a3, a4⟩ := ar_le h1
  refine ⟨⟨⟨a1, a2⟩, ⟨h2, h3⟩, by simpa using h4, by omega, fun e => ?_⟩, ?_⟩
  · refine ⟨?_, List.length_eq_zero_iff.1 (by have := a4 e; omega)⟩
    unfold immOk at h6
    rw [e] at h6
    simpa using h6
  · unfold argsOk at h8
    rw [List.all_eq_true] at h8
    intro a ha
    have := h8 a ha
    simpa using this
theorem valid_ok {t : List Nd} (h : valid true t = 0) : 1 ≤ t.length ∧ t.length ≤ 300 ∧ (∀ x ∈ t, NdOk x) ∧ Ord t := by
  unfold valid at h
  split at h
  · omega
  · rename_i h1
    split at h
    · omega
    · rename_i h2
      have h3 : (t.zipIdx.all fun p => shaped true p.2 p.1) = true := by simpa using h2
      rw [shaped_all] at h3
      refine ⟨by omega, by omega, fun x hx => ?_, fun k x hx a ha => (shaped_ok (h3 k x hx)).2 a ha⟩
      obtain ⟨k, hk⟩ := List.getElem?_of_mem hx
      exact (shaped_ok (h3 k x hk)).1
/-- .. of a shared one -/
theorem canon_ok {t : List Nd} (h : ∀ x ∈ t, NdOk x) (hi : ∀ x ∈ t, 0 ≤ x.imm ∧ x.imm < 4294967296) {la : List Int} {f : F} (r : Rep t la f) : ∀ x ∈ canon f, NdOk x ∧ 0 ≤ x.imm ∧ x.imm < 4294967296 :=
  cnn_all (P := fun x => NdOk x ∧ 0 ≤ x.imm ∧ x.imm < 4294967296) (fun x la hx hl => ⟨⟨hx.1.op, hx.1.w, hx.1.fl, by dsimp only; rw [hl]; exact hx.1.len, fun e => ⟨(hx.1.var e).1, by
    have := (hx.1.var e).2
    rw [this] at hl
    exact List.length_eq_zero_iff.1 hl⟩⟩, hx.2⟩) (fun x hx => ⟨h x hx, hi x hx⟩) r List.nodup_nil ord_nil (fun x hx => by cases hx)
theorem rep_one {t : List Nd} {k : Int} {f : F} (r : Rep t [k] f) : ∃ op w fl imm kids, f = .cons op w fl imm kids .nil := by
  cases r with
  | cons h0 hx hk hr => cases hr; exact ⟨_, _, _, _, _, rfl⟩
theorem canon_root {t : List Nd} {k : Int} {f : F} (r : Rep t [k] f) : Rep (canon f) [((canon f).length : Int) - 1] f ∧ 1 ≤ (canon f).length := by
  obtain ⟨op, w, fl, imm, kids, rfl⟩ := rep_one r
  have h1 := cnn_told (.cons op w fl imm kids .nil) List.nodup_nil ord_nil
  have h2 := cnn_last op w fl imm kids
  have h3 := h1.rep
  rw [h2.1] at h3
  exact ⟨h3, h2.2⟩

/-- Add with the nodes of a shared term: the graph, the number, the error -/
def Gr.addT (s : Gr) (L : List Nd) : Gr × Int × Int :=
  match s.adds [] L with
  | none => (s, 0, 7)
  | some (s1, cl) => if 60 < roots s1.p then (s, 0, 3) else ({ s1 with nm := s1.nm ++ [cl.getD (L.length - 1) 0] }, (s1.nm.length : Int), 0)
/-- Add -/
def AddR (s : Gr) (t : List Nd) (s' : Gr) (no er : Int) : Prop :=
  (valid true t ≠ 0 ∧ s' = s ∧ no = 0 ∧ er = valid true t) ∨ (valid true t = 0 ∧ ∃ f, Rep t [((t.length - 1 : Nat) : Int)] f ∧ (s', no, er) = s.addT (canon f))

theorem vr_get_lt {v : Vr} {i : Nat} (h : i < 4) (x : Int) (j : Nat) (hj : j < 4) : (v.set i x).get j = if j = i then x else v.get j := by
  rcases (show i = 0 ∨ i = 1 ∨ i = 2 ∨ i = 3 by omega) with rfl | rfl | rfl | rfl <;> rcases (show j = 0 ∨ j = 1 ∨ j = 2 ∨ j = 3 by omega) with rfl | rfl | rfl | rfl <;> simp [Vr.set, Vr.get]
theorem Gr.adds_cons (s : Gr) (cl : List Nat) (x : Nd) (l : List Nd) : s.adds cl (x :: l) = match s.vars x with
    | none => none
    | some s1 => Gr.adds (s1.put (opOf cl x)).1 (cl ++ [(s1.put (opOf cl x)).2.1]) l := rfl
theorem Gr.vars_eq {s s1 : Gr} {x : Nd} (h : s.vars x = some s1) : s1.p = s.p ∧ s1.wd = s.wd ∧ s1.es = s.es ∧ s1.nm = s.nm := by
  unfold Gr.vars at h
  split at h
  · split at h
    · cases h
    · cases h; exact ⟨rfl, rfl, rfl, rfl⟩
  · cases h; exact ⟨rfl, rfl, rfl, rfl⟩
end E
end Go.Proofs.YtcmlmjbpdaecbaaGreat
end
section
namespace Go.Proofs.YtcmlmjbpdaecbaaGreat
open Go.RowKit Go.MapKept Go.Maps Go.WideMaps
set_option linter.unusedVariables false
set_option linter.unusedSimpArgs false

theorem twf_of {t : List T.Nd} (h : ∀ x ∈ t, E.NdOk x) (ho : T.Ord t) : TWf t :=
  ⟨ho, fun x hx => ⟨⟨by have := (h x hx).op; omega, by have := (h x hx).op; omega⟩, ⟨by have := (h x hx).w; omega, by have := (h x hx).w; omega⟩, (h x hx).fl⟩, fun x hx => (h x hx).len⟩

set_option maxRecDepth 100000 in
set_option maxHeartbeats 2000000 in
theorem gShare_any (t : List T.Nd) (n ct : Nat) (At : Option Addr) (W : World) (hT : StAt 5 NdR W At n t) :
    Calls Tryz.prog 66 #[.slice At n ct] W fun e W' => Below W.heap.size W W' ∧ ((T.valid true t ≠ 0 ∧ e = .returned (.tuple #[.slice none 0 0, .int .i64 (T.valid true t)])) ∨
      (T.valid true t = 0 ∧ ∃ fr A' c', T.Rep t [((t.length - 1 : Nat) : Int)] fr ∧ e = .returned (.tuple #[.slice A' (T.canon fr).length c', .int .i64 0]) ∧ StAt 5 NdR W' A' (T.canon fr).length (T.canon fr))) := by
  have Hv := Lib.hid (pValidate_any t n ct At W hT)
  have Hl := Lib.hid hT.len
  have HT := Lib.hid hT
  clear hT
  obtain ⟨v, hv⟩ : ∃ v, T.valid true t = v := ⟨_, rfl⟩
  rw [hv] at Hv
  have HV := Lib.hid hv
  clear hv
  go_enter Tryz.func66, Tryz.ntmps66
  go_wp2_with fail
  (with_reducible refine Hv.out.mono ?_)
  rintro e w2 ⟨rfl, hb⟩
  have Hb := Lib.hid hb
  clear hb
  by_cases h0 : v = 0
  · subst h0
    obtain ⟨l1, l2, l3, l4⟩ := E.valid_ok HV.out
    have hn : t.length = n := Hl.out
    obtain ⟨fr, hfr⟩ := T.Rep.one l4 (k := t.length - 1) (by omega)
    have Hsh := Lib.hid (gpart_any (ct := ct) (HT.out.below monoNd Hb.out) (twf_of l3 l4) (by omega) (t.length - 1) (by omega) fr hfr)
    have Hfr := Lib.hid hfr
    have Hi1 := Lib.hid (show (n : Int) - 1 = ((t.length - 1 : Nat) : Int) from by omega)
    have hn1 : 1 ≤ n := by omega
    have hn3 : n ≤ 300 := by omega
    clear hfr l1 l2 l3 l4 hn
    go_wp2_with fail
    rw [Hi1.out]
    (with_reducible refine Hsh.out.mono ?_)
    rintro e w3 ⟨A', c', rfl, hst, hb3, _⟩
    have Hst := Lib.hid hst
    have Hb3 := Lib.hid (Hb.out.trans (hb3.mono Hb.out.size))
    clear hst hb3
    go_wp2
    refine bodyPost_ret (results_tmp2 rfl _ _ _) rfl ?_
    exact ⟨Hb3.out, .inr ⟨HV.out, fr, A', c', Hfr.out, rfl, Hst.out⟩⟩
  · have q : (v != 0) = true := by simpa using h0
    have H0 := Lib.hid h0
    clear h0
    go_wp2
    refine bodyPost_ret (results_tmp2 rfl _ _ _) rfl ?_
    exact ⟨Hb.out, .inl ⟨by rw [HV.out]; exact H0.out, by rw [HV.out]; rfl⟩⟩
end Go.Proofs.YtcmlmjbpdaecbaaGreat
end
section
namespace Go.Proofs.YtcmlmjbpdaecbaaGreat
open Go.RowKit Go.MapKept Go.Maps Go.WideMaps
set_option linter.unusedVariables false
set_option linter.unusedSimpArgs false

section
variable {w w' : World} {b : Nat} {p : List Nat} {wd : List Int} {es kn : List (E.Opn × Nat)} {nm : List Nat} {vr : E.Vr} {v1 v2 v3 v4 : Value} {kb : Nat}
/-- the width of a variable -/
theorem GrC.varAt (h : GrC w b p wd es kn nm vr v1 v2 v3 v4 kb) {i : Nat} (hi : i < 4) : w.cell? ⟨b, 5 + i, none⟩ = some (.int .i64 (vr.get i)) := by
  rw [cell_of_row _ _ _ _ _ (0, 0) h.row]
  rcases (show i = 0 ∨ i = 1 ∨ i = 2 ∨ i = 3 by omega) with rfl | rfl | rfl | rfl <;> rfl
theorem GrC.setV (h : GrC w b p wd es kn nm vr v1 v2 v3 v4 kb) {i : Nat} (hi : i < 4) (x : Int) : GrC (w.setCell ⟨b, 5 + i, none⟩ (.int .i64 x)) b p wd es kn nm (vr.set i x) v1 v2 v3 v4 kb := by
  have hk : ∀ j, j ≠ b → (w.setCell ⟨b, 5 + i, none⟩ (.int .i64 x)).heap[j]? = w.heap[j]? := fun j hj => Below.heap_setCell _ _ _ j hj
  refine ⟨?_, h.o1.same fun j hj => hk j (fun e => h.ne1 (e ▸ hj)), h.o2.same fun j hj => hk j (fun e => h.ne2 (e ▸ hj)), h.o3.same fun j hj => hk j (fun e => h.ne3 (e ▸ hj)), h.km.keep (hk kb h.kne) (fun _ _ _ h => h), h.o4.same fun j hj => hk j (fun e => h.ne4 (e ▸ hj)), h.d12, h.d14, h.d24⟩
  rw [heap_setCell_same _ b (5 + i) _ _ _ h.row]
  rcases (show i = 0 ∨ i = 1 ∨ i = 2 ∨ i = 3 by omega) with rfl | rfl | rfl | rfl <;> rfl
/-- the head of another graph is laid over a head -/
theorem GrC.move {b' : Nat} (h : GrC w b p wd es kn nm vr v1 v2 v3 v4 kb) (hr : w'.heap[b']? = some (.cells #[v1, v2, v3, .map (some kb), v4, .int .i64 vr.a, .int .i64 vr.b, .int .i64 vr.c, .int .i64 vr.d] 80 (0, 0))) (hk : ∀ i, i ≠ b' → w'.heap[i]? = w.heap[i]?) (hb : ∀ i, MG b v1 v2 v3 v4 kb i → i ≠ b → i ≠ b') : GrC w' b' p wd es kn nm vr v1 v2 v3 v4 kb :=
  ⟨hr, h.o1.same fun i hi => hk i (hb i (.inr (.inr (.inl hi))) (fun e => h.ne1 (e ▸ hi))), h.o2.same fun i hi => hk i (hb i (.inr (.inr (.inr (.inl hi)))) (fun e => h.ne2 (e ▸ hi))), h.o3.same fun i hi => hk i (hb i (.inr (.inr (.inr (.inr (.inl hi))))) (fun e => h.ne3 (e ▸ hi))), h.km.keep (hk kb (hb kb (.inr (.inl rfl)) h.kne)) (fun _ _ _ h => h), h.o4.same fun i hi => hk i (hb i (.inr (.inr (.inr (.inr (.inr hi))))) (fun e => h.ne4 (e ▸ hi))), h.d12, h.d14, h.d24⟩
end

theorem set9_row {w : World} {g : Nat} {T : TypeId} {a0 a1 a2 a3 a4 a5 a6 a7 a8 : Value} (h : w.heap[g]? = some (.cells #[a0, a1, a2, a3, a4, a5, a6, a7, a8] T (0, 0))) (q0 q1 q2 q3 q4 q5 q6 q7 q8 : Value) :
    (((((((((w.setCell ⟨g, 0, none⟩ q0).setCell ⟨g, 1, none⟩ q1).setCell ⟨g, 2, none⟩ q2).setCell ⟨g, 3, none⟩ q3).setCell ⟨g, 4, none⟩ q4).setCell ⟨g, 5, none⟩ q5).setCell ⟨g, 6, none⟩ q6).setCell ⟨g, 7, none⟩ q7).setCell ⟨g, 8, none⟩ q8).heap[g]? = some (.cells #[q0, q1, q2, q3, q4, q5, q6, q7, q8] T (0, 0)) := by
  have h0 : (w.setCell ⟨g, 0, none⟩ q0).heap[g]? = some (.cells #[q0, a1, a2, a3, a4, a5, a6, a7, a8] T (0, 0)) := heap_setCell_same _ g 0 _ _ q0 h
  have h1 : ((w.setCell ⟨g, 0, none⟩ q0).setCell ⟨g, 1, none⟩ q1).heap[g]? = some (.cells #[q0, q1, a2, a3, a4, a5, a6, a7, a8] T (0, 0)) := heap_setCell_same _ g 1 _ _ q1 h0
  have h2 : (((w.setCell ⟨g, 0, none⟩ q0).setCell ⟨g, 1, none⟩ q1).setCell ⟨g, 2, none⟩ q2).heap[g]? = some (.cells #[q0, q1, q2, a3, a4, a5, a6, a7, a8] T (0, 0)) := heap_setCell_same _ g 2 _ _ q2 h1
  have h3 : ((((w.setCell ⟨g, 0, none⟩ q0).setCell ⟨g, 1, none⟩ q1).setCell ⟨g, 2, none⟩ q2).setCell ⟨g, 3, none⟩ q3).heap[g]? = some (.cells #[q0, q1, q2, q3, a4, a5, a6, a7, a8] T (0, 0)) := heap_setCell_same _ g 3 _ _ q3 h2
  have h4 : (((((w.setCell ⟨g, 0, none⟩ q0).setCell ⟨g, 1, none⟩ q1).setCell ⟨g, 2, none⟩ q2).setCell ⟨g, 3, none⟩ q3).setCell ⟨g, 4, none⟩ q4).heap[g]? = some (.cells #[q0, q1, q2, q3, q4, a5, a6, a7, a8] T (0, 0)) := heap_setCell_same _ g 4 _ _ q4 h3
  have h5 : ((((((w.setCell ⟨g, 0, none⟩ q0).setCell ⟨g, 1, none⟩ q1).setCell ⟨g, 2, none⟩ q2).setCell ⟨g, 3, none⟩ q3).setCell ⟨g, 4, none⟩ q4).setCell ⟨g, 5, none⟩ q5).heap[g]? = some (.cells #[q0, q1, q2, q3, q4, q5, a6, a7, a8] T (0, 0)) := heap_setCell_same _ g 5 _ _ q5 h4
  have h6 : (((((((w.setCell ⟨g, 0, none⟩ q0).setCell ⟨g, 1, none⟩ q1).setCell ⟨g, 2, none⟩ q2).setCell ⟨g, 3, none⟩ q3).setCell ⟨g, 4, none⟩ q4).setCell ⟨g, 5, none⟩ q5).setCell ⟨g, 6, none⟩ q6).heap[g]? = some (.cells #[q0, q1, q2, q3, q4, q5, q6, a7, a8] T (0, 0)) := heap_setCell_same _ g 6 _ _ q6 h5
  have h7 : ((((((((w.setCell ⟨g, 0, none⟩ q0).setCell ⟨g, 1, none⟩ q1).setCell ⟨g, 2, none⟩ q2).setCell ⟨g, 3, none⟩ q3).setCell ⟨g, 4, none⟩ q4).setCell ⟨g, 5, none⟩ q5).setCell ⟨g, 6, none⟩ q6).setCell ⟨g, 7, none⟩ q7).heap[g]? = some (.cells #[q0, q1, q2, q3, q4, q5, q6, q7, a8] T (0, 0)) := heap_setCell_same _ g 7 _ _ q7 h6
  have h8 : (((((((((w.setCell ⟨g, 0, none⟩ q0).setCell ⟨g, 1, none⟩ q1).setCell ⟨g, 2, none⟩ q2).setCell ⟨g, 3, none⟩ q3).setCell ⟨g, 4, none⟩ q4).setCell ⟨g, 5, none⟩ q5).setCell ⟨g, 6, none⟩ q6).setCell ⟨g, 7, none⟩ q7).setCell ⟨g, 8, none⟩ q8).heap[g]? = some (.cells #[q0, q1, q2, q3, q4, q5, q6, q7, q8] T (0, 0)) := heap_setCell_same _ g 8 _ _ q8 h7
  exact h8
theorem set9_other {w : World} {g : Nat} (q0 q1 q2 q3 q4 q5 q6 q7 q8 : Value) : ∀ i, i ≠ g → (((((((((w.setCell ⟨g, 0, none⟩ q0).setCell ⟨g, 1, none⟩ q1).setCell ⟨g, 2, none⟩ q2).setCell ⟨g, 3, none⟩ q3).setCell ⟨g, 4, none⟩ q4).setCell ⟨g, 5, none⟩ q5).setCell ⟨g, 6, none⟩ q6).setCell ⟨g, 7, none⟩ q7).setCell ⟨g, 8, none⟩ q8).heap[i]? = w.heap[i]? := fun i hi => by
  rw [Below.heap_setCell _ _ _ i hi, Below.heap_setCell _ _ _ i hi, Below.heap_setCell _ _ _ i hi, Below.heap_setCell _ _ _ i hi, Below.heap_setCell _ _ _ i hi, Below.heap_setCell _ _ _ i hi, Below.heap_setCell _ _ _ i hi, Below.heap_setCell _ _ _ i hi, Below.heap_setCell _ _ _ i hi]
theorem set9_kpm {W w : World} {g : Nat} (h : Kpm (fun i => i = g) W w) (q0 q1 q2 q3 q4 q5 q6 q7 q8 : Value) : Kpm (fun i => i = g) W (((((((((w.setCell ⟨g, 0, none⟩ q0).setCell ⟨g, 1, none⟩ q1).setCell ⟨g, 2, none⟩ q2).setCell ⟨g, 3, none⟩ q3).setCell ⟨g, 4, none⟩ q4).setCell ⟨g, 5, none⟩ q5).setCell ⟨g, 6, none⟩ q6).setCell ⟨g, 7, none⟩ q7).setCell ⟨g, 8, none⟩ q8) :=
  (((((((((h.setCell (p := ⟨g, 0, none⟩) (fun _ => rfl) _).setCell (p := ⟨g, 1, none⟩) (fun _ => rfl) _).setCell (p := ⟨g, 2, none⟩) (fun _ => rfl) _).setCell (p := ⟨g, 3, none⟩) (fun _ => rfl) _).setCell (p := ⟨g, 4, none⟩) (fun _ => rfl) _).setCell (p := ⟨g, 5, none⟩) (fun _ => rfl) _).setCell (p := ⟨g, 6, none⟩) (fun _ => rfl) _).setCell (p := ⟨g, 7, none⟩) (fun _ => rfl) _).setCell (p := ⟨g, 8, none⟩) (fun _ => rfl) _)
theorem row9_cells {w : World} {g : Nat} {T : TypeId} {a0 a1 a2 a3 a4 a5 a6 a7 a8 : Value} (h : w.heap[g]? = some (.cells #[a0, a1, a2, a3, a4, a5, a6, a7, a8] T (0, 0))) :
    w.cell? ⟨g, 0, none⟩ = some a0 ∧ w.cell? ⟨g, 1, none⟩ = some a1 ∧ w.cell? ⟨g, 2, none⟩ = some a2 ∧ w.cell? ⟨g, 3, none⟩ = some a3 ∧ w.cell? ⟨g, 4, none⟩ = some a4 ∧ w.cell? ⟨g, 5, none⟩ = some a5 ∧ w.cell? ⟨g, 6, none⟩ = some a6 ∧ w.cell? ⟨g, 7, none⟩ = some a7 ∧ w.cell? ⟨g, 8, none⟩ = some a8 := by
  refine ⟨?_, ?_, ?_, ?_, ?_, ?_, ?_, ?_, ?_⟩
  all_goals rw [cell_of_row _ _ _ _ _ (0, 0) h]; rfl

/-- the graph that Add makes, and the classes of the nodes so far -/
structure AddI (W : World) (s0 : E.Gr) (L : List T.Nd) (gb gc : Nat) (k : Nat) (s : E.Gr) (cls : List Nat) (u1 u2 u3 u4 : Value) (km : Nat) (w : World) : Prop where
  ng : NewGr W s.p s.wd s.es s.es s.nm s.vr w gb u1 u2 u3 u4 km
  own : OwnAt w 3 1 (.slice (some ⟨gc, 0, none⟩) L.length L.length) L.length (ivs cls)
  gc1 : W.heap.size ≤ gc
  gc2 : ∀ i, MG gb u1 u2 u3 u4 km i → i ≠ gc
  len : cls.length = L.length
  told : s0.adds [] L = s.adds (cls.take k) (L.drop k)
  ok : s.Ok
  owf : ∀ e ∈ s.es, OWf e.1
  lp : s.p.length ≤ s0.p.length + k
  le : s.es.length ≤ s0.es.length + k
  nm : s.nm = s0.nm
  lo : ∀ c ∈ cls.take k, c < s.p.length

theorem AddI.gcw {W : World} {s0 : E.Gr} {L : List T.Nd} {gb gc k : Nat} {s : E.Gr} {cls : List Nat} {u1 u2 u3 u4 : Value} {km : Nat} {w : World} (h : AddI W s0 L gb gc k s cls u1 u2 u3 u4 km w) : gc < w.heap.size := h.own.lt gc (by simp [Value.ownBlock])
theorem AddI.below {W : World} {s0 : E.Gr} {L : List T.Nd} {gb gc k : Nat} {s : E.Gr} {cls : List Nat} {u1 u2 u3 u4 : Value} {km : Nat} {w w' : World} (h : AddI W s0 L gb gc k s cls u1 u2 u3 u4 km w) (hb : Below w.heap.size w w') : AddI W s0 L gb gc k s cls u1 u2 u3 u4 km w' :=
  ⟨⟨h.ng.gr.below hb, h.ng.bel.trans (hb.mono h.ng.bel.size), h.ng.new⟩, h.own.below hb h.own.lt, h.gc1, h.gc2, h.len, h.told, h.ok, h.owf, h.lp, h.le, h.nm, h.lo⟩

/-- the graph in which a variable has its width -/
structure AddV (W : World) (s0 : E.Gr) (L : List T.Nd) (gb gc : Nat) (k : Nat) (x : T.Nd) (s1 : E.Gr) (cls : List Nat) (u1 u2 u3 u4 : Value) (km : Nat) (w : World) : Prop where
  ng : NewGr W s1.p s1.wd s1.es s1.es s1.nm s1.vr w gb u1 u2 u3 u4 km
  own : OwnAt w 3 1 (.slice (some ⟨gc, 0, none⟩) L.length L.length) L.length (ivs cls)
  gc1 : W.heap.size ≤ gc
  gc2 : ∀ i, MG gb u1 u2 u3 u4 km i → i ≠ gc
  len : cls.length = L.length
  told : s0.adds [] L = (s1.put (E.opOf (cls.take k) x)).1.adds (cls.take k ++ [(s1.put (E.opOf (cls.take k) x)).2.1]) (L.drop (k + 1))
  ok : s1.Ok
  owf : ∀ e ∈ s1.es, OWf e.1
  lp : s1.p.length ≤ s0.p.length + k
  le : s1.es.length ≤ s0.es.length + k
  nm : s1.nm = s0.nm
  lo : ∀ c ∈ cls.take k, c < s1.p.length
theorem AddV.below {W : World} {s0 : E.Gr} {L : List T.Nd} {gb gc k : Nat} {x : T.Nd} {s : E.Gr} {cls : List Nat} {u1 u2 u3 u4 : Value} {km : Nat} {w w' : World} (h : AddV W s0 L gb gc k x s cls u1 u2 u3 u4 km w) (hb : Below w.heap.size w w') : AddV W s0 L gb gc k x s cls u1 u2 u3 u4 km w' :=
  ⟨⟨h.ng.gr.below hb, h.ng.bel.trans (hb.mono h.ng.bel.size), h.ng.new⟩, h.own.below hb h.own.lt, h.gc1, h.gc2, h.len, h.told, h.ok, h.owf, h.lp, h.le, h.nm, h.lo⟩

section
variable {W : World} {s0 : E.Gr} {L : List T.Nd} {gb gc k : Nat} {s : E.Gr} {cls : List Nat} {u1 u2 u3 u4 : Value} {km : Nat} {w w' : World} {x : T.Nd}
theorem AddI.vars (h : AddI W s0 L gb gc k s cls u1 u2 u3 u4 km w) (hx : L[k]? = some x) {s1 : E.Gr} (hv : s.vars x = some s1) (hg : GrC w' gb s.p s.wd s.es s.es s.nm s1.vr u1 u2 u3 u4 km) (hw : ∀ i, i ≠ gb → w'.heap[i]? = w.heap[i]?) (hb : Below W.heap.size w w') : AddV W s0 L gb gc k x s1 cls u1 u2 u3 u4 km w' := by
  obtain ⟨e1, e2, e3, e4⟩ := E.Gr.vars_eq hv
  have ht := h.told
  rw [drop_cons hx, E.Gr.adds_cons, hv] at ht
  refine ⟨⟨?_, h.ng.bel.trans hb, h.ng.new⟩, h.own.same fun i hi => hw i (fun e => h.gc2 gb (.inl rfl) (by rw [← e]; simpa [Value.ownBlock] using hi.symm)), h.gc1, h.gc2, h.len, ht, ?_, ?_, ?_, ?_, ?_, ?_⟩
  · rw [e1, e2, e3, e4]; exact hg
  · have := h.ok; unfold E.Gr.Ok at this ⊢; rw [e1, e2, e3, e4]; exact this
  · rw [e3]; exact h.owf
  · rw [e1]; exact h.lp
  · rw [e3]; exact h.le
  · rw [e4]; exact h.nm
  · rw [e1]; exact h.lo
theorem AddI.refuse (h : AddI W s0 L gb gc k s cls u1 u2 u3 u4 km w) (hx : L[k]? = some x) (hv : s.vars x = none) : s0.adds [] L = none := by
  have ht := h.told
  rw [drop_cons hx, E.Gr.adds_cons, hv] at ht
  exact ht
/-- the operands of a node, as classes -/
theorem args_ok (h : AddV W s0 L gb gc k x s cls u1 u2 u3 u4 km w) (hn : E.NdOk x) (hi : 0 ≤ x.imm ∧ x.imm < 4294967296) (ha : ∀ a ∈ x.args, 0 ≤ a ∧ a < (k : Int)) (hk : k ≤ L.length) (hp : s.p.length ≤ 900000) :
    E.Ar s.p.length (E.opOf (cls.take k) x) ∧ OWf (E.opOf (cls.take k) x) := by
  have hlen : (cls.take k).length = k := by rw [List.length_take, h.len]; omega
  have hg : ∀ i, E.ArOk s.p.length ((x.args.map fun a => (((cls.take k).getD a.toNat 0 : Nat) : Int)).getD i (-1)) := fun i => by
    rw [List.getD_eq_getElem?_getD]
    cases e : (x.args.map fun a => (((cls.take k).getD a.toNat 0 : Nat) : Int))[i]? with
    | none => exact .inl rfl
    | some z =>
      rw [List.getElem?_map] at e
      cases e2 : x.args[i]? with
      | none => rw [e2] at e; cases e
      | some a =>
        rw [e2] at e
        simp only [Option.map_some, Option.some.injEq] at e
        have := ha a (List.mem_of_getElem? e2)
        have h1 : (cls.take k).getD a.toNat 0 ∈ cls.take k := by
          rw [List.getD_eq_getElem?_getD, List.getElem?_eq_getElem (by omega)]
          exact List.getElem_mem _
        have := h.lo _ h1
        refine .inr ⟨?_, ?_⟩
        · show 0 ≤ z; omega
        · show z < _; omega
  have hAr : E.Ar s.p.length (E.opOf (cls.take k) x) := ⟨hg 0, hg 1, hg 2⟩
  exact ⟨hAr, ⟨⟨by have := hn.op; show _ ≤ x.op; omega, by have := hn.op; show x.op ≤ _; omega⟩, ⟨by have := hn.w; show _ ≤ x.w; omega, by have := hn.w; show x.w ≤ _; omega⟩, hi, arOk_i64 (by omega) hAr.1, arOk_i64 (by omega) hAr.2.1, arOk_i64 (by omega) hAr.2.2⟩⟩

/-- an operation is put in, and its class is noted -/
theorem AddV.put {e : Ending} {u1' u2' u3' : Value} (h : AddV W s0 L gb gc k x s cls u1 u2 u3 u4 km w) (hk : k < L.length) (har : E.Ar s.p.length (E.opOf (cls.take k) x)) (hwf : OWf (E.opOf (cls.take k) x)) (hlp : s.p.length ≤ 900000) (hp : PutPost w gb s (E.opOf (cls.take k) x) u1 u2 u3 u4 km e w' u1' u2' u3') :
    AddI W s0 L gb gc (k + 1) (s.put (E.opOf (cls.take k) x)).1 (cls.set k (s.put (E.opOf (cls.take k) x)).2.1) u1' u2' u3' u4 km (w'.setCell ⟨gc, 0 + k, none⟩ (.int .i64 ((s.put (E.opOf (cls.take k) x)).2.1 : Int))) := by
  obtain ⟨q1, q2, q3, q4, q5, q6⟩ := E.Gr.put_ok h.ok har
  have hgcw : gc < w.heap.size := h.own.lt gc (by simp [Value.ownBlock])
  have hgc' : w'.heap[gc]? = w.heap[gc]? := hp.kp.block gc hgcw (fun hm => h.gc2 gc hm rfl)
  have hnew : ∀ i, MG gb u1' u2' u3' u4 km i → W.heap.size ≤ i := fun i hi => by
    rcases hp.new i hi with h1 | h1
    · exact h.ng.new i h1
    · have := h.ng.bel.size; omega
  have hgc2 : ∀ i, MG gb u1' u2' u3' u4 km i → i ≠ gc := fun i hi => by
    rcases hp.new i hi with h1 | h1
    · exact h.gc2 i h1
    · omega
  have htk : (cls.set k (s.put (E.opOf (cls.take k) x)).2.1).take (k + 1) = cls.take k ++ [(s.put (E.opOf (cls.take k) x)).2.1] := by
    have hl : k < cls.length := by rw [h.len]; exact hk
    rw [List.take_add_one, List.take_set_of_le (Nat.le_refl k), List.getElem?_set_self hl]; rfl
  have hown := (h.own.same (w' := w') fun i hi => by simp [Value.ownBlock] at hi; subst hi; exact hgc').set_ hk (.int .i64 ((s.put (E.opOf (cls.take k) x)).2.1 : Int))
  refine ⟨⟨hp.gr.frame fun i hi => Below.heap_setCell _ _ _ i (hgc2 i hi), ((h.ng.bel.trans (hp.kp.below h.ng.bel.size h.ng.new)).setCell (p := ⟨gc, 0 + k, none⟩) h.gc1 _), hnew⟩, ?_, h.gc1, hgc2, by simp [h.len], by rw [htk]; exact h.told, q1, ?_, ?_, ?_, q5.trans h.nm, ?_⟩
  · rw [show ivs (cls.set k (s.put (E.opOf (cls.take k) x)).2.1) = (ivs cls).set k (.int .i64 ((s.put (E.opOf (cls.take k) x)).2.1 : Int)) by simp [ivs, List.map_set]]
    exact hown
  · intro e he
    cases hg : AL.get s.es (E.can s.p (E.opOf (cls.take k) x)) with
    | some c => rw [E.Gr.put_some hg] at he; exact h.owf e he
    | none =>
      rw [E.Gr.put_none hg] at he
      rcases List.mem_append.1 he with he | he
      · exact h.owf e he
      · simp at he; subst he; exact owf_can hwf har (by omega)
  · have := h.lp; omega
  · have h1 : (s.put (E.opOf (cls.take k) x)).1.es.length ≤ s.es.length + 1 := by
      cases hg : AL.get s.es (E.can s.p (E.opOf (cls.take k) x)) with
      | some c => rw [E.Gr.put_some hg]; exact Nat.le_succ _
      | none => rw [E.Gr.put_none hg]; simp
    have := h.le
    omega
  · rw [htk]
    intro c hc
    rcases List.mem_append.1 hc with hc | hc
    · have := h.lo c hc; omega
    · simp at hc; subst hc; exact q2
end
end Go.Proofs.YtcmlmjbpdaecbaaGreat
end
