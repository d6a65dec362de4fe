/- Rules: Match (the program). -/
import Derived.Test.YtmebpgggfppmhaaDoorG37
set_option linter.unusedVariables false
set_option linter.unusedSimpArgs false
namespace Go.Proofs.YtmebpgggfppmhaaDoor
open Go.RowKit
set_option linter.unusedVariables false
set_option linter.unusedSimpArgs false

theorem infoNs : (Tryd.prog.info? 22).map (fun i => (i.zero, i.size, i.bytes)) = some (some (.slice none 0 0), 1, 24) := by kernel_rfl

/-- a list of nodes behind a value -/
def NdsR (W : World) (u : Value) (l : List T.Nd) : Prop := ∃ A c, u = .slice A l.length c ∧ StAt 5 NdR W A l.length l
theorem monoNds : MonoR NdsR := fun w w' u l hb h => by
  obtain ⟨A, c, e, h⟩ := h
  exact ⟨A, c, e, h.below monoNd hb⟩

/-- another block turns: no block of nodes, nor of numbers -/
theorem NdF.other {B : Nat} {w w' : World} {us : List Value} {x : T.Nd} {row : Option Nat} (h : NdF B w us x) (hg : w.grownBy w' row) (hr : ∀ g cur T fr, row = some g → w.heap[g]? = some (.cells cur T fr) → T ≠ 3 ∧ T ≠ 41) : NdF B w' us x := by
  obtain ⟨A, c, h1, h2, h3, h4, h5⟩ := h
  refine ⟨A, c, h1, h2.same fun g hg' => ?_, h3, h4, h5⟩
  rcases h2.2 with ⟨e, _⟩ | ⟨g', off, cap, cur, e, hcur, _⟩
  · rw [e] at hg'; simp [Value.ownBlock] at hg'
  · rw [e] at hg'
    simp [Value.ownBlock] at hg'
    subst hg'
    exact hg.block _ (Array.getElem?_eq_some_iff.1 hcur).1 (fun e => (hr _ cur _ _ e.symm hcur).1 rfl)
theorem OwnR.other {B : Nat} {w w' : World} {v : Value} {l : List T.Nd} {row : Option Nat} (h : OwnR (NdF B) B w v l) (hg : w.grownBy w' row) (hr : ∀ g cur T fr, row = some g → w.heap[g]? = some (.cells cur T fr) → T ≠ 3 ∧ T ≠ 41) : OwnR (NdF B) B w' v l := by
  obtain ⟨cells, h1, h2, h3⟩ := h
  refine ⟨cells, h1.same fun g hg' => ?_, fun k x hx => (h2 k x hx).other hg hr, h3⟩
  rcases h1.2 with ⟨rfl, _⟩ | ⟨g', off, cap, cur, rfl, hcur, _⟩
  · simp [Value.ownBlock] at hg'
  · simp [Value.ownBlock] at hg'
    subst hg'
    exact hg.block _ (Array.getElem?_eq_some_iff.1 hcur).1 (fun e => (hr _ cur _ _ e.symm hcur).2 rfl)

/-- lists of nodes in memory of the call's own -/
structure OwnNs (B : Nat) (w : World) (v : Value) (ls : List (List T.Nd)) : Prop where
  ex : ∃ us : List Value, OwnAt w 22 1 v ls.length us ∧ (∀ (k : Nat) (l : List T.Nd), ls[k]? = some l → ∃ u, us[k]? = some u ∧ OwnR (NdF B) B w u l) ∧ ∀ g, v.ownBlock = some g → B ≤ g
theorem OwnNs.weak {B B' : Nat} {w : World} {v : Value} {ls : List (List T.Nd)} (h : OwnNs B' w v ls) (hb : B ≤ B') : OwnNs B w v ls := by
  obtain ⟨us, h1, h2, h3⟩ := h.ex
  refine ⟨⟨us, h1, fun k l hl => ?_, fun g hg => Nat.le_trans hb (h3 g hg)⟩⟩
  obtain ⟨u, hu, ho⟩ := h2 k l hl
  exact ⟨u, hu, ho.weak hb⟩
theorem OwnNs.nil_ (B : Nat) (w : World) : OwnNs B w (.slice none 0 0) [] := ⟨⟨[], OwnAt.nil_ _ _ _, fun k l h => by simp at h, fun g h => by simp [Value.ownBlock] at h⟩⟩
theorem OwnNs.form {B : Nat} {w : World} {v : Value} {ls : List (List T.Nd)} (h : OwnNs B w v ls) : ∃ A c, v = .slice A ls.length c := by
  obtain ⟨us, h1, _⟩ := h.ex
  exact h1.form
theorem OwnNs.below {B : Nat} {w w' : World} {v : Value} {ls : List (List T.Nd)} (h : OwnNs B w v ls) (hb : Below w.heap.size w w') : OwnNs B w' v ls := by
  obtain ⟨us, h1, h2, h3⟩ := h.ex
  refine ⟨⟨us, h1.below hb h1.lt, fun k l hl => ?_, h3⟩⟩
  obtain ⟨u, hu, ho⟩ := h2 k l hl
  exact ⟨u, hu, ho.below (ndF_rel _) hb⟩
theorem OwnNs.sl {B : Nat} {w : World} {A : Option Addr} {n c : Nat} {ls : List (List T.Nd)} (h : OwnNs B w (.slice A n c) ls) (hn : ls.length = n) : SlAt NdsR w A n ls := by
  obtain ⟨us, h1, h2, h3⟩ := h.ex
  subst hn
  refine h1.slAt (by have := h1.1; omega) fun k l u hl hu => ?_
  obtain ⟨u', hu', ho⟩ := h2 k l hl
  rw [hu] at hu'
  cases hu'
  obtain ⟨A', c', rfl⟩ := ho.form
  exact ⟨A', c', rfl, ho.stAt (ndF_rel _) rfl⟩

/-- one list more -/
theorem OwnNs.push {B : Nat} {w w' : World} {v v' u : Value} {ls : List (List T.Nd)} {l : List T.Nd} {us : List Value} {E : TypeId} (h1 : OwnAt w 22 1 v ls.length us) (h2 : ∀ (k : Nat) (l : List T.Nd), ls[k]? = some l → ∃ u, us[k]? = some u ∧ OwnR (NdF B) B w u l) (h3 : ∀ g, v.ownBlock = some g → B ≤ g)
    (hB : B ≤ w.heap.size) (hu : OwnR (NdF B) B w u l) (hown : OwnAt w' 22 1 v' (ls.length + 1) (us ++ [u])) (hgr : (w.alloc (.cells #[u] E)).grownBy w' v.ownBlock) (hat : v'.ownBlock = v.ownBlock ∨ v'.ownBlock = some (w.heap.size + 1)) : OwnNs B w' v' (ls ++ [l]) := by
  have hba : Below w.heap.size w (w.alloc (.cells #[u] E)) := (Below.refl _ _).alloc (Nat.le_refl _) _
  have hrow : ∀ g cur T fr, v.ownBlock = some g → (w.alloc (.cells #[u] E)).heap[g]? = some (.cells cur T fr) → T ≠ 3 ∧ T ≠ 41 := fun g cur T fr hg hc => by
    rcases h1.2 with ⟨rfl, _⟩ | ⟨g', off, cap, cur', rfl, hcur, _⟩
    · simp [Value.ownBlock] at hg
    · simp [Value.ownBlock] at hg
      subst hg
      have := (hba.block _ (Array.getElem?_eq_some_iff.1 hcur).1).trans hcur
      rw [this] at hc
      injection hc with hc
      injection hc with _ hc _
      subst hc
      exact ⟨by decide, by decide⟩
  have hl : us.length = ls.length := by have := h1.1; omega
  refine ⟨⟨us ++ [u], by rw [List.length_append]; exact hown, fun k l' hl' => ?_, fun g hg => ?_⟩⟩
  · rcases Nat.lt_or_ge k ls.length with hk | hk
    · rw [List.getElem?_append_left hk] at hl'
      obtain ⟨u', hu', ho⟩ := h2 k l' hl'
      exact ⟨u', by rw [List.getElem?_append_left (by omega)]; exact hu', (ho.below (ndF_rel _) hba).other hgr hrow⟩
    · rw [List.getElem?_append_right hk] at hl'
      have hk0 : k - ls.length = 0 := by
        rcases Nat.eq_zero_or_pos (k - ls.length) with e | e
        · exact e
        · rw [List.getElem?_eq_none (by simp; omega)] at hl'; cases hl'
      rw [hk0] at hl'
      cases hl'
      exact ⟨u, by rw [List.getElem?_append_right (by omega), hl, hk0]; rfl, (hu.below (ndF_rel _) hba).other hgr hrow⟩
  · rcases hat with e | e
    · rw [e] at hg; exact h3 g hg
    · rw [e] at hg
      injection hg with hg
      omega

theorem run_idx4s (A : Nat → Option Addr) (n c : Nat → Nat) (k : Nat) (hk : k < 4) (W : World) : (Instr.index 63 (.agg #[.slice (A 0) (n 0) (c 0), .slice (A 1) (n 1) (c 1), .slice (A 2) (n 2) (c 2), .slice (A 3) (n 3) (c 3)]) (.int .i64 (k : Int))).run Tryd.prog W = .ok (.slice (A k) (n k) (c k)) W := by
  have h4 : (k : Int) < 4 := by omega
  rcases (show k = 0 ∨ k = 1 ∨ k = 2 ∨ k = 3 by omega) with rfl | rfl | rfl | rfl
  all_goals simp [Instr.index, run_underlying Tryd.underlying63, asIntOf, part, go_sem]

namespace R
/-- what a variable stands for, as a list -/
def mvl (s : St) (k : Nat) : List T.Nd := match (if k < 2 then s.v k else none) with
  | some f => T.canon f
  | none => []
/-- what a rule's left side matches -/
def mat (r : Rl) (t : List T.Nd) : List (List T.Nd) × List Int × Bool × Int :=
  if rerr r t ≠ 0 then ([], [], false, rerr r t)
  else match mres r t with
    | none => ([], [], false, 0)
    | some s => ([mvl s 0, mvl s 1, mvl s 2, mvl s 3], s.hs, true, 0)
theorem mat_none {r : Rl} {t : List T.Nd} (h0 : rerr r t = 0) (h : mres r t = none) : mat r t = ([], [], false, 0) := by
  unfold mat
  rw [if_neg (by simpa using h0), h]
theorem mat_some {r : Rl} {t : List T.Nd} {s : St} (h0 : rerr r t = 0) (h : mres r t = some s) : mat r t = ([mvl s 0, mvl s 1, mvl s 2, mvl s 3], s.hs, true, 0) := by
  unfold mat
  rw [if_neg (by simpa using h0), h]
end R

def MatPost (W : World) (r : R.Rl) (t : List T.Nd) (e : Ending) (W' : World) : Prop :=
  ∃ v h, e = .returned (.tuple #[v, h, .bool (R.mat r t).2.2.1, .int .i64 (R.mat r t).2.2.2]) ∧ OwnNs W.heap.size W' v (R.mat r t).1 ∧ (∃ A c, h = .slice A (R.mat r t).2.1.length c ∧ SlAt (IntR .u32) W' A (R.mat r t).2.1.length (R.mat r t).2.1) ∧ Below W.heap.size W W'
theorem matPost_none {W W' : World} {r : R.Rl} {t : List T.Nd} {e : Int} (h : R.mat r t = ([], [], false, e)) (hb : Below W.heap.size W W') : MatPost W r t (.returned (.tuple #[.slice none 0 0, .slice none 0 0, .bool false, .int .i64 e])) W' := by
  unfold MatPost
  rw [h]
  exact ⟨_, _, rfl, OwnNs.nil_ _ _, ⟨none, 0, rfl, SlAt.nil_ _⟩, hb⟩

theorem results_tmp4 {fn : Func} {t u v x : Tmp} (h : fn.results = #[.tmp t, .tmp u, .tmp v, .tmp x]) (tmps : Array Value) (P : Program) (w : World) :
    (results fn tmps).run P w = .ok (.tuple #[tmps.getD t undef, tmps.getD u undef, tmps.getD v undef, tmps.getD x undef]) w := by
  simp [results, h]

/-- the four lists that a binding holds -/
theorem bd_four {W : World} {gb : Nat} {w : Int} {L Tm : Value} {s : R.St} (h : BdAt W gb w L Tm s) : ∃ (A : Nat → Option Addr) (n c : Nat → Nat), W.cell? ⟨gb, 3, none⟩ = some (.slice (A 0) (n 0) (c 0)) ∧ W.cell? ⟨gb, 4, none⟩ = some (.slice (A 1) (n 1) (c 1)) ∧ W.cell? ⟨gb, 5, none⟩ = some (.slice (A 2) (n 2) (c 2)) ∧ W.cell? ⟨gb, 6, none⟩ = some (.slice (A 3) (n 3) (c 3)) ∧ ∀ k, k < 4 → StAt 5 NdR W (A k) (n k) (R.mvl s k) := by
  obtain ⟨v0, v1, h0, h1, b0, b1, hr, r0, r1, r2, r3⟩ := h
  have key : ∀ (v : Value) (o : Option T.F), VarAt gb W v o → ∃ A n c, v = .slice A n c ∧ StAt 5 NdR W A n (match o with
    | some f => T.canon f
    | none => []) := fun v o hv => by
    cases o with
    | none => exact ⟨_, _, _, hv, StAt.nil_ _⟩
    | some f =>
      obtain ⟨_, A, n, c, e, hs⟩ := hv
      exact ⟨_, _, _, e, hs W (Kpm.refl _ _)⟩
  obtain ⟨A0, n0, c0, rfl, s0⟩ := key _ _ r0
  obtain ⟨A1, n1, c1, rfl, s1⟩ := key _ _ r1
  refine ⟨fun k => if k = 0 then A0 else if k = 1 then A1 else none, fun k => if k = 0 then n0 else if k = 1 then n1 else 0, fun k => if k = 0 then c0 else if k = 1 then c1 else 0, ?_, ?_, ?_, ?_, fun k hk => ?_⟩
  · rw [cell_of_row _ _ _ _ _ (0, 0) hr]; rfl
  · rw [cell_of_row _ _ _ _ _ (0, 0) hr]; rfl
  · rw [cell_of_row _ _ _ _ _ (0, 0) hr]; rfl
  · rw [cell_of_row _ _ _ _ _ (0, 0) hr]; rfl
  · rcases (show k = 0 ∨ k = 1 ∨ k = 2 ∨ k = 3 by omega) with rfl | rfl | rfl | rfl
    · exact s0
    · exact s1
    · exact StAt.nil_ _
    · exact StAt.nil_ _

theorem mvl_small {t : List T.Nd} {r : R.Rl} {w : Int} {s : R.St} (ht : R.TOk t) (h : R.SOk t r w s) (k : Nat) : (R.mvl s k).length ≤ 300 ∧ ∀ x ∈ R.mvl s k, x.args.length ≤ 3 := by
  unfold R.mvl
  cases ho : (if k < 2 then s.v k else none) with
  | none => exact ⟨by simp, fun x hx => by simp at hx⟩
  | some f =>
    have hf : s.v k = some f := by
      split at ho
      · exact ho
      · cases ho
    obtain ⟨h1, h2⟩ := R.sok_tr ht h _ _ hf
    exact ⟨h2, h1.len⟩

set_option maxRecDepth 100000 in
set_option maxHeartbeats 4000000 in
theorem gMatch_any {r : R.Rl} {t : List T.Nd} {nl cl nr cr np cp nt ct : Nat} {AL AR AP At : Option Addr} {W : World} (hR : RlAt W r nl nr np AL AR AP) (hT : StAt 5 NdR W At nt t) (hf : R.flr t) :
    Calls Tryd.prog 26 #[.agg #[.slice AL nl cl, .slice AR nr cr, .slice AP np cp], .slice At nt ct] W (MatPost W r t) := by
  obtain ⟨W1, hW1⟩ : ∃ W1, W1 = W.alloc (.cells #[.slice AL nl cl, .slice AR nr cr, .slice AP np cp] 25) := ⟨_, rfl⟩
  have hb1 : Below W.heap.size W W1 := by rw [hW1]; exact (Below.refl _ _).alloc (Nat.le_refl _) _
  have Hb1 := Lib.hid hb1
  have HR1 := Lib.hid (hR.below hb1)
  have HT1 := Lib.hid (hT.below monoNd hb1)
  have Hval := Lib.hid (gmatched_any (cl := cl) (cr := cr) (cp := cp) (ct := ct) HR1.out HT1.out hf)
  have HW1 := Lib.hid hW1
  have hrow : W1.heap[W.heap.size]? = some (.cells #[.slice AL nl cl, .slice AR nr cr, .slice AP np cp] 25 (0, 0)) := by rw [hW1]; exact heap_alloc_new W _
  have Hrow := Lib.hid (fun (X : World) (h : Below W1.heap.size W1 X) => (h.block _ (Array.getElem?_eq_some_iff.1 hrow).1).trans hrow)
  have Him := Lib.hid (nd_imm HT1.out)
  obtain ⟨e, he⟩ : ∃ e, R.rerr r t = e := ⟨_, rfl⟩
  rw [he] at Hval
  have He := Lib.hid he
  clear hR hT hf hb1 hW1 hrow he
  by_cases h0 : e = 0
  rotate_left
  · have q : (e != 0) = true := by simpa using h0
    have Hr := Lib.hid (show R.mat r t = ([], [], false, e) from by unfold R.mat; rw [He.out, if_pos h0])
    clear h0
    go_enter Tryd.func26, Tryd.ntmps26
    go_wp2_with fail
    rw [← HW1.out]
    (with_reducible refine Hval.out.mono ?_)
    rintro e w2 ⟨rfl, hb2⟩
    have Hb2 := Lib.hid (Hb1.out.trans (hb2.mono Hb1.out.size))
    clear hb2
    go_wp2
    (try simp only [Exit.inBlock, Exit.then])
    refine bodyPost_ret (results_tmp4 rfl _ _ _) rfl ?_
    exact matPost_none Hr.out Hb2.out
  have q : (e != 0) = false := by simpa using h0
  subst h0
  obtain ⟨hrok, htok⟩ := R.rerr_ok He.out
  have Htok := Lib.hid htok
  have hfp := T.root_rep (R.pnode_ord hrok.lp) hrok.lpos
  have hft := T.root_rep htok.ord htok.pos
  have Hmatch := Lib.hid (fun (X : World) (h : Below W1.heap.size W1 X) => gmatch_any (cl := cl) (nr := nr) (cr := cr) (cp := cp) (ct := ct) (AR := AR) hrok htok (HR1.out.sl.below monoNd h) (HR1.out.sp.below monoCd h) (HT1.out.below monoNd h) _ _ hfp hft)
  have HSok := Lib.hid (fun s (h : R.mres r t = some s) => R.sok hrok htok Him.out hfp hft h)
  obtain ⟨mr, hmr⟩ : ∃ mr, R.mres r t = mr := ⟨_, rfl⟩
  have Hmr := Lib.hid hmr
  have hmr' : R.mtch r R.cond t (T.root r.left) (T.root t) = mr := hmr
  rw [hmr'] at Hmatch
  rw [hmr] at HSok
  clear hrok htok hfp hft hmr hmr'
  cases mr with
  | none =>
    go_enter Tryd.func26, Tryd.ntmps26
    go_wp2_with fail
    rw [← HW1.out]
    (with_reducible refine Hval.out.mono ?_)
    rintro e w2 ⟨rfl, hb2⟩
    have Hb2 := Lib.hid hb2
    have hrow2 := Hrow.out _ Hb2.out
    have c0 : w2.cell? ⟨W.heap.size, 0, none⟩ = some (.slice AL nl cl) := by rw [cell_of_row _ _ _ _ _ (0, 0) hrow2]; rfl
    have c1 : w2.cell? ⟨W.heap.size, 1, none⟩ = some (.slice AR nr cr) := by rw [cell_of_row _ _ _ _ _ (0, 0) hrow2]; rfl
    have c2 : w2.cell? ⟨W.heap.size, 2, none⟩ = some (.slice AP np cp) := by rw [cell_of_row _ _ _ _ _ (0, 0) hrow2]; rfl
    clear hb2 hrow2
    go_wp2_with fail
    (with_reducible refine (Hmatch.out _ Hb2.out).mono ?_)
    rintro e w3 ⟨gb, rfl, hb3, _, _⟩
    have Hb3 := Lib.hid (Hb1.out.trans ((Hb2.out.trans (hb3.mono Hb2.out.size)).mono Hb1.out.size))
    rw [show (none : Option R.St).isSome = false from rfl]
    clear hb3 c0 c1 c2
    go_wp2
    (try simp only [Exit.inBlock, Exit.then])
    refine bodyPost_ret (results_tmp4 rfl _ _ _) rfl ?_
    exact matPost_none (R.mat_none He.out Hmr.out) Hb3.out
  | some s =>
    have Hsok := Lib.hid (HSok.out s rfl)
    have Hms := Lib.hid (mvl_small Htok.out Hsok.out)
    go_enter Tryd.func26, Tryd.ntmps26
    go_wp2_with fail
    rw [← HW1.out]
    (with_reducible refine Hval.out.mono ?_)
    rintro e w2 ⟨rfl, hb2⟩
    have Hb2 := Lib.hid hb2
    have hrow2 := Hrow.out _ Hb2.out
    have c0 : w2.cell? ⟨W.heap.size, 0, none⟩ = some (.slice AL nl cl) := by rw [cell_of_row _ _ _ _ _ (0, 0) hrow2]; rfl
    have c1 : w2.cell? ⟨W.heap.size, 1, none⟩ = some (.slice AR nr cr) := by rw [cell_of_row _ _ _ _ _ (0, 0) hrow2]; rfl
    have c2 : w2.cell? ⟨W.heap.size, 2, none⟩ = some (.slice AP np cp) := by rw [cell_of_row _ _ _ _ _ (0, 0) hrow2]; rfl
    clear hb2 hrow2
    go_wp2_with fail
    (with_reducible refine (Hmatch.out _ Hb2.out).mono ?_)
    rintro e w3 ⟨gb, rfl, hb3, _, hbd3⟩
    have Hb3 := Lib.hid (Hb1.out.trans ((Hb2.out.trans (hb3.mono Hb2.out.size)).mono Hb1.out.size))
    have Hbd3 := Lib.hid (hbd3 s rfl)
    rw [show (some s : Option R.St).isSome = true from rfl]
    obtain ⟨A, n, c, d3, d4, d5, d6, hst⟩ := bd_four Hbd3.out
    have Hst := Lib.hid hst
    have hidx := run_idx4s A n c
    clear hb3 c0 c1 c2 hbd3 hst
    go_wp2
    clear d3 d4 d5 d6
    go_loopg [32, 11] 5 (fun gg i v wr => ∃ (j : Nat), j ≤ 4 ∧ i = .int .i64 (j : Int) ∧ gg + j = 5 ∧ Hid (Below w3.heap.size w3 wr) ∧ Hid (OwnNs w3.heap.size wr v ((List.range j).map (R.mvl s))))
    case atStart => exact ⟨0, by omega, rfl, rfl, Lib.hid (Below.refl _ _), Lib.hid (OwnNs.nil_ _ _)⟩
    case round =>
      obtain ⟨j, hj, rfl, hgk, Hbw, HO⟩ := hrel
      have Hgk := Lib.hid hgk; clear hgk
      by_cases hjn : j < 4
      · have hix := hidx j hjn wr
        have Hix := Lib.hid hidx
        have Hcop := Lib.hid (gcopied_any (ct := c j) ((Hst.out j hjn).below monoNd Hbw.out) (by have h1 := (Hms.out j).1; have h2 := (Hst.out j hjn).len; omega) (fun x hx => by have := (Hms.out j).2 x hx; omega))
        clear hidx
        go_wp2_with fail
        (with_reducible refine Hcop.out.mono ?_)
        rintro e w5 ⟨v5, rfl, hown5, hb5⟩
        obtain ⟨A5, c5, rfl⟩ := hown5.form
        obtain ⟨Av, cv, rfl⟩ := HO.out.form
        obtain ⟨us, h1, h2, h3⟩ := (HO.out.below hb5).ex
        have hlj : ((List.range j).map (R.mvl s)).length = j := by simp
        have Hu := Lib.hid (hown5.weak (B := w3.heap.size) Hbw.out.size)
        have H1 := Lib.hid h1
        have H2 := Lib.hid h2
        have H3 := Lib.hid h3
        have Hb5 := Lib.hid (Hbw.out.trans (hb5.mono Hbw.out.size))
        rw [hlj] at H1 H3 ⊢
        clear hown5 hb5 h1 h2 h3 hix hlj
        go_wp2_with (at_builtin; refine wpList_append_one' rfl (.tmp 35) (.tmp 38) 46 rfl 22 (.slice none 0 0) 24 Tryd.underlying46 infoNs rfl _ j us rfl H1.out _ rfl 22 w5.heap.size rfl rfl (by omega) (by omega) ?_; intro v' w6 hown' hgr hat; have Hown' := Lib.hid hown'; have Hgr := Lib.hid hgr; have Hat := Lib.hid hat; clear hown' hgr hat)
        go_roundg (gk - 1)
        case measure => have := Hgk.out; omega
        case rel =>
          have := Hgk.out
          have hlj : ((List.range j).map (R.mvl s)).length = j := by simp
          have hp := OwnNs.push (ls := (List.range j).map (R.mvl s)) (l := R.mvl s j) (by rw [hlj]; exact H1.out) H2.out H3.out Hb5.out.size Hu.out (by rw [hlj]; exact Hown'.out) Hgr.out Hat.out
          refine ⟨j + 1, by omega, by go_num, by omega, Lib.hid ?_, Lib.hid ?_⟩
          · have hb := Hb5.out.alloc Hb5.out.size (.cells #[.slice A5 (R.mvl s j).length c5] 22)
            exact hb.grown Hgr.out hb.size H3.out
          · rw [List.range_succ, List.map_append]; exact hp
      · obtain rfl : j = 4 := by omega
        obtain ⟨Av, cv, rfl⟩ := HO.out.form
        have HB := Lib.hid (Hbd3.out.below Hbw.out)
        have hsh := HB.out.hs
        obtain ⟨us, hul, hus, hur⟩ := hsh.cells
        have hB := HB.out.lt
        have Hcl := Lib.hid (cloneU_any (A := some ⟨gb, 7, none⟩) (n := 2) (c := 2) (us := us) (W := wr) (by rw [hul]) hus (fun u hu => by
          obtain ⟨k, hk⟩ := List.mem_iff_getElem?.1 hu
          have hkl : k < 2 := by have := (List.getElem?_eq_some_iff.1 hk).1; omega
          obtain ⟨x, hx⟩ : ∃ x, s.hs[k]? = some x := ⟨_, List.getElem?_eq_getElem (by rw [hsh.len]; exact hkl)⟩
          have := hur k x u hx hk
          rw [this]; rfl) (fun ad _ e => by injection e with e; rw [← e]; exact hB) (by omega))
        have Hur := Lib.hid (show ∀ (k : Nat) (x : Int) (u : Value), s.hs[k]? = some x → us[k]? = some u → u = .int .u32 x from hur)
        clear hidx hsh hul hus hur hB
        go_wp2_with fail
        (with_reducible refine Hcl.out.mono ?_)
        rintro e w5 ⟨v5, rfl, hown5, hb5, _⟩
        have HO5 := Lib.hid (HO.out.below hb5)
        have Hown5 := Lib.hid hown5
        have Hb5 := Lib.hid (Hb3.out.trans ((Hbw.out.trans (hb5.mono Hbw.out.size)).mono Hb3.out.size))
        clear hown5 hb5
        go_wp2
        (try simp only [Exit.inBlock, Exit.then])
        refine bodyPost_ret (results_tmp4 rfl _ _ _) rfl ?_
        obtain ⟨A5, c5, rfl⟩ := Hown5.out.form
        unfold MatPost
        rw [R.mat_some He.out Hmr.out]
        refine ⟨_, _, rfl, ?_, ⟨A5, c5, rfl, Hown5.out.slAt (by have := Hown5.out.1; show 2 = us.length; omega) fun k x u hx hu => Hur.out k x u hx hu⟩, Hb5.out⟩
        have e : (List.range 4).map (R.mvl s) = [R.mvl s 0, R.mvl s 1, R.mvl s 2, R.mvl s 3] := rfl
        have h := HO5.out
        rw [e] at h
        exact h.weak Hb3.out.size
end Go.Proofs.YtmebpgggfppmhaaDoor
