/- Merged: PlainEC, G16. -/
import Derived.Test.YtcmlmjbpdaecbaaH38
import Derived.Test.YtcmlmjbpdaecbaaH39
import Derived.Test.YtcmlmjbpdaecbaaH37
set_option linter.unusedVariables false
set_option linter.unusedSimpArgs false
section
namespace Go.Proofs.Ytcmlmjbpdaecbaa
set_option linter.unusedVariables false
set_option linter.unusedSimpArgs false
namespace E
open T

/-- a node of a valid term -/
structure NdOk (x : Nd) : Prop where
  op : 0 ≤ x.op ∧ x.op ≤ 33
  w : 1 ≤ x.w ∧ x.w ≤ 32
  fl : x.fl = 0
  len : x.args.length ≤ 3
  var : x.op = 33 → x.imm < 4 ∧ x.args = []
theorem ar_le {op : Int} (h : 0 ≤ ar op) : 0 ≤ op ∧ op ≤ 33 ∧ ar op ≤ 3 ∧ (op = 33 → ar op = 0) := by
  unfold ar at h ⊢
  split
  · rename_i h1; refine ⟨by omega, by omega, by omega, fun _ => rfl⟩
  · rename_i h1
    rw [if_neg h1] at h
    split
    · rename_i h2; exact ⟨by omega, by omega, by omega, fun e => by omega⟩
    · rename_i h2
      rw [if_neg h2] at h
      split
      · rename_i h3; exact ⟨by omega, by omega, by omega, fun e => by omega⟩
      · rename_i h3
        rw [if_neg h3] at h
        split
        · rename_i h4; exact ⟨by omega, by omega, by omega, fun e => by omega⟩
        · rename_i h4
          rw [if_neg h4] at h
          omega
theorem shaped_ok {k : Nat} {x : Nd} (h : shaped true k x = true) : NdOk x ∧ ∀ a ∈ x.args, 0 ≤ a ∧ a < (k : Int) := by
  unfold shaped at h
  simp only [Bool.and_eq_true, decide_eq_true_eq] at h
  obtain ⟨⟨⟨⟨⟨⟨⟨h1, h2⟩, h3⟩, h4⟩, h5⟩, h6⟩, h7⟩, h8⟩ := h
  obtain ⟨a1, a2, a3, a4⟩ := ar_le h1
  refine ⟨⟨⟨a1, a2⟩, ⟨h2, h3⟩, by simpa using h4, by omega, fun e => ?_⟩, ?_⟩
  · refine ⟨?_, List.length_eq_zero_iff.1 (by have := a4 e; omega)⟩
    unfold immOk at h6
    rw [e] at h6
    simpa using h6
  · unfold argsOk at h8
    rw [List.all_eq_true] at h8
    intro a ha
    have := h8 a ha
    simpa using this
theorem valid_ok {t : List Nd} (h : valid true t = 0) : 1 ≤ t.length ∧ t.length ≤ 300 ∧ (∀ x ∈ t, NdOk x) ∧ Ord t := by
  unfold valid at h
  split at h
  · omega
  · rename_i h1
    split at h
    · omega
    · rename_i h2
      have h3 : (t.zipIdx.all fun p => shaped true p.2 p.1) = true := by simpa using h2
      rw [shaped_all] at h3
      refine ⟨by omega, by omega, fun x hx => ?_, fun k x hx a ha => (shaped_ok (h3 k x hx)).2 a ha⟩
      obtain ⟨k, hk⟩ := List.getElem?_of_mem hx
      exact (shaped_ok (h3 k x hk)).1
theorem valid_ne {t : List Nd} : valid true t = 0 ∨ valid true t = 3 ∨ valid true t = 1 ∨ valid true t = 6 ∨ valid true t = 7 := by
  unfold valid
  repeat' split
  all_goals simp

/-- .. of a shared one -/
theorem canon_ok {t : List Nd} (h : ∀ x ∈ t, NdOk x) (hi : ∀ x ∈ t, 0 ≤ x.imm ∧ x.imm < 4294967296) {la : List Int} {f : F} (r : Rep t la f) : ∀ x ∈ canon f, NdOk x ∧ 0 ≤ x.imm ∧ x.imm < 4294967296 :=
  cnn_all (P := fun x => NdOk x ∧ 0 ≤ x.imm ∧ x.imm < 4294967296) (fun x la hx hl => ⟨⟨hx.1.op, hx.1.w, hx.1.fl, by dsimp only; rw [hl]; exact hx.1.len, fun e => ⟨(hx.1.var e).1, by
    have := (hx.1.var e).2
    rw [this] at hl
    exact List.length_eq_zero_iff.1 hl⟩⟩, hx.2⟩) (fun x hx => ⟨h x hx, hi x hx⟩) r List.nodup_nil ord_nil (fun x hx => by cases hx)
theorem rep_one {t : List Nd} {k : Int} {f : F} (r : Rep t [k] f) : ∃ op w fl imm kids, f = .cons op w fl imm kids .nil := by
  cases r with
  | cons h0 hx hk hr => cases hr; exact ⟨_, _, _, _, _, rfl⟩
theorem canon_root {t : List Nd} {k : Int} {f : F} (r : Rep t [k] f) : Rep (canon f) [((canon f).length : Int) - 1] f ∧ 1 ≤ (canon f).length := by
  obtain ⟨op, w, fl, imm, kids, rfl⟩ := rep_one r
  have h1 := cnn_told (.cons op w fl imm kids .nil) List.nodup_nil ord_nil
  have h2 := cnn_last op w fl imm kids
  have h3 := h1.rep
  rw [h2.1] at h3
  exact ⟨h3, h2.2⟩

/-- Add with the nodes of a shared term: the graph, the number, the error -/
def Gr.addT (s : Gr) (L : List Nd) : Gr × Int × Int :=
  match s.adds [] L with
  | none => (s, 0, 7)
  | some (s1, cl) => if 60 < roots s1.p then (s, 0, 3) else ({ s1 with nm := s1.nm ++ [cl.getD (L.length - 1) 0] }, (s1.nm.length : Int), 0)
/-- Add -/
def AddR (s : Gr) (t : List Nd) (s' : Gr) (no er : Int) : Prop :=
  (valid true t ≠ 0 ∧ s' = s ∧ no = 0 ∧ er = valid true t) ∨ (valid true t = 0 ∧ ∃ f, Rep t [((t.length - 1 : Nat) : Int)] f ∧ (s', no, er) = s.addT (canon f))

theorem vr_get_lt {v : Vr} {i : Nat} (h : i < 4) (x : Int) (j : Nat) (hj : j < 4) : (v.set i x).get j = if j = i then x else v.get j := by
  rcases (show i = 0 ∨ i = 1 ∨ i = 2 ∨ i = 3 by omega) with rfl | rfl | rfl | rfl <;> rcases (show j = 0 ∨ j = 1 ∨ j = 2 ∨ j = 3 by omega) with rfl | rfl | rfl | rfl <;> simp [Vr.set, Vr.get]
theorem Gr.adds_cons (s : Gr) (cl : List Nat) (x : Nd) (l : List Nd) : s.adds cl (x :: l) = match s.vars x with
    | none => none
    | some s1 => Gr.adds (s1.put (opOf cl x)).1 (cl ++ [(s1.put (opOf cl x)).2.1]) l := rfl
theorem Gr.vars_eq {s s1 : Gr} {x : Nd} (h : s.vars x = some s1) : s1.p = s.p ∧ s1.wd = s.wd ∧ s1.es = s.es ∧ s1.nm = s.nm := by
  unfold Gr.vars at h
  split at h
  · split at h
    · cases h
    · cases h; exact ⟨rfl, rfl, rfl, rfl⟩
  · cases h; exact ⟨rfl, rfl, rfl, rfl⟩
end E
end Go.Proofs.Ytcmlmjbpdaecbaa
end
section
namespace Go.Proofs.Ytcmlmjbpdaecbaa
open Go.RowKit Go.MapKept Go.Maps Go.WideMaps
set_option linter.unusedVariables false
set_option linter.unusedSimpArgs false

theorem twf_of {t : List T.Nd} (h : ∀ x ∈ t, E.NdOk x) (ho : T.Ord t) : TWf t :=
  ⟨ho, fun x hx => ⟨⟨by have := (h x hx).op; omega, by have := (h x hx).op; omega⟩, ⟨by have := (h x hx).w; omega, by have := (h x hx).w; omega⟩, (h x hx).fl⟩, fun x hx => (h x hx).len⟩

set_option maxRecDepth 100000 in
set_option maxHeartbeats 2000000 in
theorem gShare_any (t : List T.Nd) (n ct : Nat) (At : Option Addr) (W : World) (hT : StAt 5 NdR W At n t) :
    Calls Try.prog 16 #[.slice At n ct] W fun e W' => Below W.heap.size W W' ∧ ((T.valid true t ≠ 0 ∧ e = .returned (.tuple #[.slice none 0 0, .int .i64 (T.valid true t)])) ∨
      (T.valid true t = 0 ∧ ∃ fr A' c', T.Rep t [((t.length - 1 : Nat) : Int)] fr ∧ e = .returned (.tuple #[.slice A' (T.canon fr).length c', .int .i64 0]) ∧ StAt 5 NdR W' A' (T.canon fr).length (T.canon fr))) := by
  have Hv := Lib.hid (pValidate_any t n ct At W hT)
  have Hl := Lib.hid hT.len
  have HT := Lib.hid hT
  clear hT
  obtain ⟨v, hv⟩ : ∃ v, T.valid true t = v := ⟨_, rfl⟩
  rw [hv] at Hv
  have HV := Lib.hid hv
  clear hv
  go_enter Try.func16, Try.ntmps16
  go_wp2_with fail
  (with_reducible refine Hv.out.mono ?_)
  rintro e w2 ⟨rfl, hb⟩
  have Hb := Lib.hid hb
  clear hb
  by_cases h0 : v = 0
  · subst h0
    obtain ⟨l1, l2, l3, l4⟩ := E.valid_ok HV.out
    have hn : t.length = n := Hl.out
    obtain ⟨fr, hfr⟩ := T.Rep.one l4 (k := t.length - 1) (by omega)
    have Hsh := Lib.hid (gpart_any (ct := ct) (HT.out.below monoNd Hb.out) (twf_of l3 l4) (by omega) (t.length - 1) (by omega) fr hfr)
    have Hfr := Lib.hid hfr
    have Hi1 := Lib.hid (show (n : Int) - 1 = ((t.length - 1 : Nat) : Int) from by omega)
    have hn1 : 1 ≤ n := by omega
    have hn3 : n ≤ 300 := by omega
    clear hfr l1 l2 l3 l4 hn
    go_wp2_with fail
    rw [Hi1.out]
    (with_reducible refine Hsh.out.mono ?_)
    rintro e w3 ⟨A', c', rfl, hst, hb3, _⟩
    have Hst := Lib.hid hst
    have Hb3 := Lib.hid (Hb.out.trans (hb3.mono Hb.out.size))
    clear hst hb3
    go_wp2
    refine bodyPost_ret (results_tmp2 rfl _ _ _) rfl ?_
    exact ⟨Hb3.out, .inr ⟨HV.out, fr, A', c', Hfr.out, rfl, Hst.out⟩⟩
  · have q : (v != 0) = true := by simpa using h0
    have H0 := Lib.hid h0
    clear h0
    go_wp2
    refine bodyPost_ret (results_tmp2 rfl _ _ _) rfl ?_
    exact ⟨Hb.out, .inl ⟨by rw [HV.out]; exact H0.out, by rw [HV.out]; rfl⟩⟩
end Go.Proofs.Ytcmlmjbpdaecbaa
end
