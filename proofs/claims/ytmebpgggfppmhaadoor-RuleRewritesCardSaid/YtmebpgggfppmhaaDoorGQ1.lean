/- Rules: numbers for holes, preconditions and sides (the program's sized, Meets, Sides). -/
import Derived.Test.YtmebpgggfppmhaaDoorG36
import Derived.Test.YtmebpgggfppmhaaDoorG21
import Derived.Test.YtmebpgggfppmhaaDoorG07
import Derived.Test.YtmebpgggfppmhaaDoorG33
import Derived.Deep.DeepCutAuto
set_option linter.unusedVariables false
set_option linter.unusedSimpArgs false
section
namespace Go.Proofs.YtmebpgggfppmhaaDoor
open Go.RowKit
set_option linter.unusedVariables false
set_option linter.unusedSimpArgs false

namespace R
/-- numbers for holes are right -/
def hsOk (w : Int) (hs : List Int) : Bool := decide (1 ≤ w) && decide (w ≤ 32) && decide (hs.length = 2) && !hs.any fun x => !B.isW w x
def serr (r : Rl) (w : Int) (hs : List Int) : Int := if rvalid r ≠ 0 then rvalid r else if hsOk w hs = true then 0 else 1
theorem hsOk_iff {w : Int} {hs : List Int} (h : hsOk w hs = true) (h0 : ∀ x ∈ hs, 0 ≤ x) : B.isWd w = true ∧ HsOk w hs := by
  unfold hsOk at h
  simp only [Bool.and_eq_true, decide_eq_true_eq, Bool.not_eq_true', List.any_eq_false] at h
  obtain ⟨⟨⟨h1, h2⟩, h3⟩, h4⟩ := h
  exact ⟨B.isWd_iff.2 ⟨h1, h2⟩, h3, fun n hn => ⟨h0 n hn, by simpa using h4 n hn⟩⟩
theorem serr_ok {r : Rl} {w : Int} {hs : List Int} (h : serr r w hs = 0) : ROk r ∧ hsOk w hs = true := by
  unfold serr at h
  split at h
  · rename_i h1; exact absurd h h1
  · rename_i h1
    split at h
    · rename_i h2; exact ⟨rok_of (Decidable.byContradiction h1), h2⟩
    · cases h
end R

/-- the program's Meets -/
def R.mts (r : R.Rl) (w : Int) (hs : List Int) : Bool := if R.serr r w hs = 0 then r.pre.all (R.cond w hs) else false

/-- the sides at a width -/
def R.sds (r : R.Rl) (w : Int) (hs : List Int) : List T.Nd × List T.Nd := if R.serr r w hs = 0 then (R.inst r.left w hs, R.inst r.right w hs) else ([], [])

end Go.Proofs.YtmebpgggfppmhaaDoor
end
section
namespace Go.Proofs.YtmebpgggfppmhaaDoor
open Go.RowKit
set_option linter.unusedVariables false
set_option linter.unusedSimpArgs false

theorem infoNs : (Tryd.prog.info? 22).map (fun i => (i.zero, i.size, i.bytes)) = some (some (.slice none 0 0), 1, 24) := by kernel_rfl

/-- a list of nodes behind a value -/
def NdsR (W : World) (u : Value) (l : List T.Nd) : Prop := ∃ A c, u = .slice A l.length c ∧ StAt 5 NdR W A l.length l
theorem monoNds : MonoR NdsR := fun w w' u l hb h => by
  obtain ⟨A, c, e, h⟩ := h
  exact ⟨A, c, e, h.below monoNd hb⟩

/-- another block turns: no block of nodes, nor of numbers -/
theorem NdF.other {B : Nat} {w w' : World} {us : List Value} {x : T.Nd} {row : Option Nat} (h : NdF B w us x) (hg : w.grownBy w' row) (hr : ∀ g cur T fr, row = some g → w.heap[g]? = some (.cells cur T fr) → T ≠ 3 ∧ T ≠ 41) : NdF B w' us x := by
  obtain ⟨A, c, h1, h2, h3, h4, h5⟩ := h
  refine ⟨A, c, h1, h2.same fun g hg' => ?_, h3, h4, h5⟩
  rcases h2.2 with ⟨e, _⟩ | ⟨g', off, cap, cur, e, hcur, _⟩
  · rw [e] at hg'; simp [Value.ownBlock] at hg'
  · rw [e] at hg'
    simp [Value.ownBlock] at hg'
    subst hg'
    exact hg.block _ (Array.getElem?_eq_some_iff.1 hcur).1 (fun e => (hr _ cur _ _ e.symm hcur).1 rfl)
theorem OwnR.other {B : Nat} {w w' : World} {v : Value} {l : List T.Nd} {row : Option Nat} (h : OwnR (NdF B) B w v l) (hg : w.grownBy w' row) (hr : ∀ g cur T fr, row = some g → w.heap[g]? = some (.cells cur T fr) → T ≠ 3 ∧ T ≠ 41) : OwnR (NdF B) B w' v l := by
  obtain ⟨cells, h1, h2, h3⟩ := h
  refine ⟨cells, h1.same fun g hg' => ?_, fun k x hx => (h2 k x hx).other hg hr, h3⟩
  rcases h1.2 with ⟨rfl, _⟩ | ⟨g', off, cap, cur, rfl, hcur, _⟩
  · simp [Value.ownBlock] at hg'
  · simp [Value.ownBlock] at hg'
    subst hg'
    exact hg.block _ (Array.getElem?_eq_some_iff.1 hcur).1 (fun e => (hr _ cur _ _ e.symm hcur).2 rfl)

/-- lists of nodes in memory of the call's own -/
structure OwnNs (B : Nat) (w : World) (v : Value) (ls : List (List T.Nd)) : Prop where
  ex : ∃ us : List Value, OwnAt w 22 1 v ls.length us ∧ (∀ (k : Nat) (l : List T.Nd), ls[k]? = some l → ∃ u, us[k]? = some u ∧ OwnR (NdF B) B w u l) ∧ ∀ g, v.ownBlock = some g → B ≤ g
theorem OwnNs.weak {B B' : Nat} {w : World} {v : Value} {ls : List (List T.Nd)} (h : OwnNs B' w v ls) (hb : B ≤ B') : OwnNs B w v ls := by
  obtain ⟨us, h1, h2, h3⟩ := h.ex
  refine ⟨⟨us, h1, fun k l hl => ?_, fun g hg => Nat.le_trans hb (h3 g hg)⟩⟩
  obtain ⟨u, hu, ho⟩ := h2 k l hl
  exact ⟨u, hu, ho.weak hb⟩
theorem OwnNs.nil_ (B : Nat) (w : World) : OwnNs B w (.slice none 0 0) [] := ⟨⟨[], OwnAt.nil_ _ _ _, fun k l h => by simp at h, fun g h => by simp [Value.ownBlock] at h⟩⟩
theorem OwnNs.form {B : Nat} {w : World} {v : Value} {ls : List (List T.Nd)} (h : OwnNs B w v ls) : ∃ A c, v = .slice A ls.length c := by
  obtain ⟨us, h1, _⟩ := h.ex
  exact h1.form
theorem OwnNs.below {B : Nat} {w w' : World} {v : Value} {ls : List (List T.Nd)} (h : OwnNs B w v ls) (hb : Below w.heap.size w w') : OwnNs B w' v ls := by
  obtain ⟨us, h1, h2, h3⟩ := h.ex
  refine ⟨⟨us, h1.below hb h1.lt, fun k l hl => ?_, h3⟩⟩
  obtain ⟨u, hu, ho⟩ := h2 k l hl
  exact ⟨u, hu, ho.below (ndF_rel _) hb⟩
theorem OwnNs.sl {B : Nat} {w : World} {A : Option Addr} {n c : Nat} {ls : List (List T.Nd)} (h : OwnNs B w (.slice A n c) ls) (hn : ls.length = n) : SlAt NdsR w A n ls := by
  obtain ⟨us, h1, h2, h3⟩ := h.ex
  subst hn
  refine h1.slAt (by have := h1.1; omega) fun k l u hl hu => ?_
  obtain ⟨u', hu', ho⟩ := h2 k l hl
  rw [hu] at hu'
  cases hu'
  obtain ⟨A', c', rfl⟩ := ho.form
  exact ⟨A', c', rfl, ho.stAt (ndF_rel _) rfl⟩

/-- one list more -/
theorem OwnNs.push {B : Nat} {w w' : World} {v v' u : Value} {ls : List (List T.Nd)} {l : List T.Nd} {us : List Value} {E : TypeId} (h1 : OwnAt w 22 1 v ls.length us) (h2 : ∀ (k : Nat) (l : List T.Nd), ls[k]? = some l → ∃ u, us[k]? = some u ∧ OwnR (NdF B) B w u l) (h3 : ∀ g, v.ownBlock = some g → B ≤ g)
    (hB : B ≤ w.heap.size) (hu : OwnR (NdF B) B w u l) (hown : OwnAt w' 22 1 v' (ls.length + 1) (us ++ [u])) (hgr : (w.alloc (.cells #[u] E)).grownBy w' v.ownBlock) (hat : v'.ownBlock = v.ownBlock ∨ v'.ownBlock = some (w.heap.size + 1)) : OwnNs B w' v' (ls ++ [l]) := by
  have hba : Below w.heap.size w (w.alloc (.cells #[u] E)) := (Below.refl _ _).alloc (Nat.le_refl _) _
  have hrow : ∀ g cur T fr, v.ownBlock = some g → (w.alloc (.cells #[u] E)).heap[g]? = some (.cells cur T fr) → T ≠ 3 ∧ T ≠ 41 := fun g cur T fr hg hc => by
    rcases h1.2 with ⟨rfl, _⟩ | ⟨g', off, cap, cur', rfl, hcur, _⟩
    · simp [Value.ownBlock] at hg
    · simp [Value.ownBlock] at hg
      subst hg
      have := (hba.block _ (Array.getElem?_eq_some_iff.1 hcur).1).trans hcur
      rw [this] at hc
      injection hc with hc
      injection hc with _ hc _
      subst hc
      exact ⟨by decide, by decide⟩
  have hl : us.length = ls.length := by have := h1.1; omega
  refine ⟨⟨us ++ [u], by rw [List.length_append]; exact hown, fun k l' hl' => ?_, fun g hg => ?_⟩⟩
  · rcases Nat.lt_or_ge k ls.length with hk | hk
    · rw [List.getElem?_append_left hk] at hl'
      obtain ⟨u', hu', ho⟩ := h2 k l' hl'
      exact ⟨u', by rw [List.getElem?_append_left (by omega)]; exact hu', (ho.below (ndF_rel _) hba).other hgr hrow⟩
    · rw [List.getElem?_append_right hk] at hl'
      have hk0 : k - ls.length = 0 := by
        rcases Nat.eq_zero_or_pos (k - ls.length) with e | e
        · exact e
        · rw [List.getElem?_eq_none (by simp; omega)] at hl'; cases hl'
      rw [hk0] at hl'
      cases hl'
      exact ⟨u, by rw [List.getElem?_append_right (by omega), hl, hk0]; rfl, (hu.below (ndF_rel _) hba).other hgr hrow⟩
  · rcases hat with e | e
    · rw [e] at hg; exact h3 g hg
    · rw [e] at hg
      injection hg with hg
      omega

namespace R
/-- what a variable stands for, as a list -/
def mvl (s : St) (k : Nat) : List T.Nd := match (if k < 2 then s.v k else none) with
  | some f => T.canon f
  | none => []
end R

theorem results_tmp4 {fn : Func} {t u v x : Tmp} (h : fn.results = #[.tmp t, .tmp u, .tmp v, .tmp x]) (tmps : Array Value) (P : Program) (w : World) :
    (results fn tmps).run P w = .ok (.tuple #[tmps.getD t undef, tmps.getD u undef, tmps.getD v undef, tmps.getD x undef]) w := by
  simp [results, h]

end Go.Proofs.YtmebpgggfppmhaaDoor
end
section
namespace Go.Proofs.YtmebpgggfppmhaaDoor
open Go.RowKit
set_option linter.unusedVariables false
set_option linter.unusedSimpArgs false

section
variable {B B' : Nat} {w w' : World} {v : Value} {cs : List R.Cd}
end

theorem rl_cells {w : World} {g : Nat} {T : TypeId} {a0 a1 a2 : Value} (h : w.heap[g]? = some (.cells #[a0, a1, a2] T (0, 0))) : w.cell? ⟨g, 0, none⟩ = some a0 ∧ w.cell? ⟨g, 1, none⟩ = some a1 ∧ w.cell? ⟨g, 2, none⟩ = some a2 ∧ ∀ k, w.frozen? ⟨g, k, none⟩ = false := by
  refine ⟨?_, ?_, ?_, fun k => frozen_row h k⟩
  all_goals rw [cell_of_row _ _ _ _ _ (0, 0) h]; rfl
namespace R
end R

end Go.Proofs.YtmebpgggfppmhaaDoor
end
section
namespace Go.Proofs.YtmebpgggfppmhaaDoor
open Go.RowKit
set_option linter.unusedVariables false
set_option linter.unusedSimpArgs false

namespace T
def long (t : List Nd) : Bool := decide (400 < t.length) || t.any fun x => decide (20 < x.args.length)
end T

theorem Long_any (t : List T.Nd) (n ct : Nat) (At : Option Addr) (W : World) (hT : StAt 5 NdR W At n t) :
    Calls Tryd.prog 11 #[.slice At n ct] W fun e w' => e = .returned (.bool (T.long t)) ∧ W = w' := by
  have HT := Lib.hid hT
  have hle := hT.le
  have hln := hT.len
  by_cases h4 : 400 < n
  · have e : T.long t = true := by unfold T.long; rw [hln, decide_eq_true h4]; rfl
    rw [e]
    clear e hT hln
    go_enter Tryd.func11, Tryd.ntmps11
    go_wp2
    go_ret
    exact ⟨rfl, rfl⟩
  · have e : T.long t = t.any fun x => decide (20 < x.args.length) := by unfold T.long; rw [hln, decide_eq_false h4]; rfl
    rw [e]
    have Hln := Lib.hid hln
    obtain ⟨r, hr⟩ : ∃ r, r = t.any fun x => decide (20 < x.args.length) := ⟨_, rfl⟩
    rw [← hr]
    have Hr := Lib.hid hr
    clear e hT hln hr
    go_enter Tryd.func11, Tryd.ntmps11
    go_wp2
    go_loop [3] (fun i => ∃ j : Nat, j ≤ n ∧ i = .int .i64 (j : Int) ∧ Hid ((t.take j).any (fun x => decide (20 < x.args.length)) = false)) (fun i => n - (intOf i).toNat)
    case atStart => exact ⟨0, Nat.zero_le _, rfl, Lib.hid rfl⟩
    case round =>
      obtain ⟨j, hj, rfl, Hany⟩ := hrel
      by_cases hlt : j < n
      · obtain ⟨x, b, off, A, c, hx, rfl, hb, _, _, _, h3, _, hs, _, _⟩ := nd_cells HT.out hlt
        have hle3 := hs.le
        by_cases h20 : 20 < x.args.length
        · have Ht := Lib.hid (show r = true from by rw [Hr.out]; exact any_true_at hx (by simpa using h20))
          clear hx hs hb
          go_wp2
          go_ret
          exact ⟨by rw [Ht.out]; rfl, rfl⟩
        · have Ht := Lib.hid (show (t.take (j + 1)).any (fun x => decide (20 < x.args.length)) = false from any_take_step hx Hany.out (by simpa using h20))
          clear hx hs hb
          go_wp2
          go_round
          case rel => exact ⟨j + 1, by omega, by go_num, Ht⟩
          case measure => simp [intOf]; omega
      · obtain rfl : j = n := by omega
        have Ht := Lib.hid (show r = false from by
          have := Hany.out
          rw [List.take_of_length_le (by rw [Hln.out]; exact Nat.le_refl _)] at this
          rw [Hr.out]; exact this)
        go_wp2
        go_ret
        exact ⟨by rw [Ht.out]; rfl, rfl⟩

theorem SameInts_any (A B : Option Addr) (n m c d : Nat) (xs ys : List Int) (W : World) (hA : SlAt (IntR .i64) W A n xs) (hB : SlAt (IntR .i64) W B m ys) :
    Calls Tryd.prog 78 #[.slice A n c, .slice B m d] W fun e w' => e = .returned (.bool (decide (xs = ys))) ∧ Dr W w' := by
  have HA := Lib.hid hA
  have HB := Lib.hid hB
  have h1 := hA.le
  have h2 := hB.le
  have Hl1 := Lib.hid hA.len
  have Hl2 := Lib.hid hB.len
  clear hA hB
  obtain ⟨r, hr⟩ : ∃ r, r = decide (xs = ys) := ⟨_, rfl⟩
  rw [← hr]
  have Hr := Lib.hid hr
  clear hr
  by_cases hnm : n = m
  · subst hnm
    have q : ((n : Int) != (n : Int)) = false := by simp
    go_enter Tryd.func78, Tryd.ntmps78
    go_wp2
    go_loopg [5] (n + 1) (fun g i wr => ∃ j : Nat, j ≤ n ∧ i = .int .i64 (j : Int) ∧ g + j = n + 1 ∧ Hid (xs.take j = ys.take j) ∧ Hid (Dr W wr))
    case atStart => exact ⟨0, Nat.zero_le _, rfl, rfl, Lib.hid rfl, Lib.hid (Dr.refl _)⟩
    case round =>
      obtain ⟨j, hj, rfl, hgk, Heq, HD⟩ := hrel
      have Hgk := Lib.hid hgk; clear hgk
      by_cases hlt : j < n
      · obtain ⟨x, b, off, u, hx, rfl, hb, hc, hu⟩ := (HA.out.dr (monoInt _) HD.out).at_ hlt
        obtain rfl : u = .int .i64 x := hu
        obtain ⟨y, b2, off2, u2, hy, rfl, hb2, hc2, hu2⟩ := (HB.out.dr (monoInt _) HD.out).at_ hlt
        obtain rfl : u2 = .int .i64 y := hu2
        by_cases hxy : x = y
        · have Ht := Lib.hid (show xs.take (j + 1) = ys.take (j + 1) from by rw [K.take_succ_at hx, K.take_succ_at hy, Heq.out, hxy])
          have q : (x != y) = false := by simpa using hxy
          clear hx hy hb hb2 hxy
          go_wp2
          go_quiet (fail)
          generalize hW3 : wr.drewN _ = w3
          have Hd3 := Lib.hid (HD.out.trans ⟨_, hW3.symm⟩)
          clear hW3 hc hc2
          go_wp2
          go_roundg (gk - 1)
          case measure => have := Hgk.out; omega
          case rel => have := Hgk.out; exact ⟨j + 1, by omega, by go_num, by omega, Ht, Hd3⟩
        · have Ht := Lib.hid (show r = false from by
            rw [Hr.out, decide_eq_false_iff_not]
            intro e
            subst e
            rw [hx] at hy
            exact hxy (Option.some.inj hy))
          have q : (x != y) = true := by simpa using hxy
          clear hx hy hb hb2 hxy
          go_wp2
          go_quiet (fail)
          generalize hW3 : wr.drewN _ = w3
          have Hd3 := Lib.hid (HD.out.trans ⟨_, hW3.symm⟩)
          clear hW3 hc hc2
          go_wp2
          go_ret
          exact ⟨by rw [Ht.out]; rfl, Hd3.out⟩
      · obtain rfl : j = n := by omega
        have Ht := Lib.hid (show r = true from by
          have := Heq.out
          rw [List.take_of_length_le (by rw [Hl1.out]; exact Nat.le_refl _), List.take_of_length_le (by rw [Hl2.out]; exact Nat.le_refl _)] at this
          rw [Hr.out, decide_eq_true this])
        go_wp2
        go_ret
        exact ⟨by rw [Ht.out]; rfl, HD.out⟩
  · have Ht := Lib.hid (show r = false from by
      rw [Hr.out, decide_eq_false_iff_not]
      intro e
      exact hnm (by rw [← Hl1.out, ← Hl2.out, e]))
    have q : ((n : Int) != (m : Int)) = true := by rw [bne_iff_ne]; omega
    clear hnm
    go_enter Tryd.func78, Tryd.ntmps78
    go_wp2
    go_ret
    exact ⟨by rw [Ht.out]; rfl, Dr.refl _⟩

set_option maxRecDepth 100000 in
set_option maxHeartbeats 2000000 in
theorem rsameNode_any {x y : T.Nd} {A A' : Option Addr} {c c' : Nat} {W : World} (hx : SlAt (IntR .i64) W A x.args.length x.args) (hy : SlAt (IntR .i64) W A' y.args.length y.args) :
    Calls Tryd.prog 47 #[ndV x A c, ndV y A' c'] W fun e W' => e = .returned (.bool (decide (x = y))) ∧ Below W.heap.size W W' := by
  obtain ⟨W2, hW2⟩ : ∃ W2, W2 = (W.alloc (.cells #[.int .i64 x.op, .int .i64 x.w, .int .i64 x.fl, .slice A x.args.length c, .int .u32 x.imm] 41)).alloc (.cells #[.int .i64 y.op, .int .i64 y.w, .int .i64 y.fl, .slice A' y.args.length c', .int .u32 y.imm] 41) := ⟨_, rfl⟩
  have hb2 : Below W.heap.size W W2 := by rw [hW2]; exact ((Below.refl _ _).alloc (Nat.le_refl _) _).alloc (by simp) _
  have hrx : W2.heap[W.heap.size]? = some (.cells #[.int .i64 x.op, .int .i64 x.w, .int .i64 x.fl, .slice A x.args.length c, .int .u32 x.imm] 41 (0, 0)) := by rw [hW2]; exact row_alloc (heap_alloc_new W _) _
  have hry : W2.heap[W.heap.size + 1]? = some (.cells #[.int .i64 y.op, .int .i64 y.w, .int .i64 y.fl, .slice A' y.args.length c', .int .u32 y.imm] 41 (0, 0)) := by rw [hW2]; exact new_two W _ _
  have Heq := Lib.hid (SameInts_any A A' _ _ c c' _ _ W2 (hx.below (monoInt _) hb2) (hy.below (monoInt _) hb2))
  obtain ⟨op, w, fl, args, imm⟩ := x
  obtain ⟨op', w', fl', args', imm'⟩ := y
  dsimp only at *
  obtain ⟨x0, x1, x2, x3, x4⟩ := nd5_cells hrx
  obtain ⟨y0, y1, y2, y3, y4⟩ := nd5_cells hry
  have Hb2 := Lib.hid hb2
  unfold ndV
  dsimp only
  rw [hW2] at x0 x1 x2 x3 x4 y0 y1 y2 y3 y4
  obtain ⟨r, hr⟩ : ∃ r, decide (args = args') = r := ⟨_, rfl⟩
  rw [hr] at Heq
  have Hr := Lib.hid hr
  subst hW2
  clear hx hy hb2 hrx hry hr
  by_cases e0 : op = op'
  rotate_left
  · have q : (op == op') = false := by simpa using e0
    have Hne := Lib.hid (show decide ((⟨op, w, fl, args, imm⟩ : T.Nd) = ⟨op', w', fl', args', imm'⟩) = false from by simp [e0])
    clear e0 Heq
    go_enter Tryd.func47, Tryd.ntmps47
    go_wp2
    go_ret
    exact ⟨ret_bool Hne.out.symm, Hb2.out⟩
  subst e0
  have q0 : (op == op) = true := by simp
  by_cases e1 : w = w'
  rotate_left
  · have q : (w == w') = false := by simpa using e1
    have Hne := Lib.hid (show decide ((⟨op, w, fl, args, imm⟩ : T.Nd) = ⟨op, w', fl', args', imm'⟩) = false from by simp [e1])
    clear e1 Heq
    go_enter Tryd.func47, Tryd.ntmps47
    go_wp2
    go_ret
    exact ⟨ret_bool Hne.out.symm, Hb2.out⟩
  subst e1
  have q1 : (w == w) = true := by simp
  by_cases e2 : fl = fl'
  rotate_left
  · have q : (fl == fl') = false := by simpa using e2
    have Hne := Lib.hid (show decide ((⟨op, w, fl, args, imm⟩ : T.Nd) = ⟨op, w, fl', args', imm'⟩) = false from by simp [e2])
    clear e2 Heq
    go_enter Tryd.func47, Tryd.ntmps47
    go_wp2
    go_ret
    exact ⟨ret_bool Hne.out.symm, Hb2.out⟩
  subst e2
  have q2 : (fl == fl) = true := by simp
  by_cases e3 : imm = imm'
  rotate_left
  · have q : (imm == imm') = false := by simpa using e3
    have Hne := Lib.hid (show decide ((⟨op, w, fl, args, imm⟩ : T.Nd) = ⟨op, w, fl, args', imm'⟩) = false from by simp [e3])
    clear e3 Heq
    go_enter Tryd.func47, Tryd.ntmps47
    go_wp2
    go_ret
    exact ⟨ret_bool Hne.out.symm, Hb2.out⟩
  subst e3
  have q3 : (imm == imm) = true := by simp
  have Hd := Lib.hid (show decide ((⟨op, w, fl, args, imm⟩ : T.Nd) = ⟨op, w, fl, args', imm⟩) = r from by rw [← Hr.out]; simp)
  go_enter Tryd.func47, Tryd.ntmps47
  go_wp2_with fail
  (with_reducible refine Heq.out.mono ?_)
  rintro e w3 ⟨rfl, hb3⟩
  have Hb3 := Lib.hid (Hb2.out.dr hb3)
  clear hb3 x0 x1 x2 x3 x4 y0 y1 y2 y3 y4
  go_wp2
  go_ret
  exact ⟨ret_bool Hd.out.symm, Hb3.out⟩

set_option maxRecDepth 100000 in
set_option maxHeartbeats 2000000 in
theorem SameNodes_any {t u : List T.Nd} {A A' : Option Addr} {n n' c c' : Nat} {W : World} (hx : StAt 5 NdR W A n t) (hy : StAt 5 NdR W A' n' u) :
    Calls Tryd.prog 15 #[.slice A n c, .slice A' n' c'] W fun e W' => e = .returned (.bool (decide (t = u))) ∧ Below W.heap.size W W' := by
  have hlx := hx.len
  have hly := hy.len
  have hlex := hx.le
  have hley := hy.le
  have HX := Lib.hid hx
  have HY := Lib.hid hy
  have Hlx := Lib.hid hlx
  have Hly := Lib.hid hly
  clear hx hy hlx hly
  by_cases hn : n = n'
  rotate_left
  · have q : ((n : Int) != (n' : Int)) = true := by simp; omega
    have Hne := Lib.hid (show decide (t = u) = false from by simp; rintro rfl; exact hn (Hlx.out.symm.trans Hly.out))
    clear hn
    go_enter Tryd.func15, Tryd.ntmps15
    go_wp2
    go_ret
    exact ⟨ret_bool Hne.out.symm, Below.refl _ _⟩
  subst hn
  have q : ((n : Int) != (n : Int)) = false := by simp
  go_enter Tryd.func15, Tryd.ntmps15
  go_wp2
  clear q
  go_loopg [5] (n + 1) (fun gg i wr => ∃ (j : Nat), j ≤ n ∧ i = .int .i64 (j : Int) ∧ gg + j = n + 1 ∧ Hid (Below W.heap.size W wr) ∧ Hid (t.take j = u.take j))
  case atStart => exact ⟨0, Nat.zero_le _, rfl, rfl, Lib.hid (Below.refl _ _), Lib.hid rfl⟩
  case round =>
    obtain ⟨j, hj, rfl, hgk, Hbw, HO⟩ := hrel
    have Hgk := Lib.hid hgk; clear hgk
    by_cases hjn : j < n
    · obtain ⟨x, b, off, Ax, cx, ex, rfl, hb, h0, h1, h2, h3, h4, hs, i0, i1⟩ := nd_cells HX.out hjn
      obtain ⟨y, b', off', Ay, cy, ey, rfl, hb', h0', h1', h2', h3', h4', hs', i0', i1'⟩ := nd_cells HY.out hjn
      have hbel := Hbw.out
      have k0 := (hbel.cell (p := ⟨b, off + j * 5, none⟩) hb).trans h0
      have k1 := (hbel.cell (p := ⟨b, off + j * 5 + 1, none⟩) hb).trans h1
      have k2 := (hbel.cell (p := ⟨b, off + j * 5 + 2, none⟩) hb).trans h2
      have k3 := (hbel.cell (p := ⟨b, off + j * 5 + 3, none⟩) hb).trans h3
      have k4 := (hbel.cell (p := ⟨b, off + j * 5 + 4, none⟩) hb).trans h4
      have l0 := (hbel.cell (p := ⟨b', off' + j * 5, none⟩) hb').trans h0'
      have l1 := (hbel.cell (p := ⟨b', off' + j * 5 + 1, none⟩) hb').trans h1'
      have l2 := (hbel.cell (p := ⟨b', off' + j * 5 + 2, none⟩) hb').trans h2'
      have l3 := (hbel.cell (p := ⟨b', off' + j * 5 + 3, none⟩) hb').trans h3'
      have l4 := (hbel.cell (p := ⟨b', off' + j * 5 + 4, none⟩) hb').trans h4'
      obtain ⟨r, hr⟩ : ∃ r, decide (x = y) = r := ⟨_, rfl⟩
      have Hr := Lib.hid hr
      obtain ⟨ov⟩ := ov_ex wr
      have HQ := Lib.hid (show ∀ z, Calls Tryd.prog 47 #[.agg #[.int .i64 x.op, .int .i64 x.w, .int .i64 x.fl, .slice Ax x.args.length cx, .int .u32 x.imm], .agg #[.int .i64 y.op, .int .i64 y.w, .int .i64 y.fl, .slice Ay y.args.length cy, .int .u32 y.imm]] (ov.f z) (fun e w' => e = .returned (.bool r) ∧ ∃ m, w' = ov.f m) from fun z => by
        have := rsameNode_any (x := x) (y := y) (c := cx) (c' := cy) (W := ov.f z) ((hs.below (monoInt _) hbel).below (monoInt _) (ov.below z)) ((hs'.below (monoInt _) hbel).below (monoInt _) (ov.below z))
        rw [hr] at this
        exact calls_over this)
      have o0 := ov.cell k0
      have o1 := ov.cell k1
      have o2 := ov.cell k2
      have o3 := ov.cell k3
      have o4 := ov.cell k4
      have p0 := ov.cell l0
      have p1 := ov.cell l1
      have p2 := ov.cell l2
      have p3 := ov.cell l3
      have p4 := ov.cell l4
      have Hex := Lib.hid ex
      have Hey := Lib.hid ey
      clear h0 h1 h2 h3 h4 h0' h1' h2' h3' h4' hs hs' i0 i1 i0' i1' hbel hb hb' ex ey hr
      cases r
      · go_wp2
        refine wp_region_ovq ov (by kernel_rfl) (by kernel_rfl) ?_
        repeat (go_big_quiet_step ((go_at_call 47; with_reducible exact HQ.out _)))
        refine wpQuiet_nil ?_
        rintro _ ⟨z, rfl⟩
        have Hb3 := Lib.hid (Hbw.out.trans ((ov.below z).mono Hbw.out.size))
        have Hne := Lib.hid (show decide (t = u) = false from by
          simp
          rintro rfl
          have e := Option.some.inj (Hex.out.symm.trans Hey.out)
          have := Hr.out
          simp [e] at this)
        clear o0 o1 o2 o3 o4 p0 p1 p2 p3 p4 k0 k1 k2 k3 k4 l0 l1 l2 l3 l4
        generalize ov.f z = w3 at *
        go_wp2
        go_ret
        exact ⟨ret_bool Hne.out.symm, Hb3.out⟩
      · go_wp2
        refine wp_region_ovq ov (by kernel_rfl) (by kernel_rfl) ?_
        repeat (go_big_quiet_step ((go_at_call 47; with_reducible exact HQ.out _)))
        refine wpQuiet_nil ?_
        rintro _ ⟨z, rfl⟩
        have Hb3 := Lib.hid (Hbw.out.trans ((ov.below z).mono Hbw.out.size))
        have Hst := Lib.hid (show t.take (j + 1) = u.take (j + 1) from by
          have e : x = y := of_decide_eq_true Hr.out
          exact take_eq_step HO.out Hex.out (e ▸ Hey.out))
        clear o0 o1 o2 o3 o4 p0 p1 p2 p3 p4 k0 k1 k2 k3 k4 l0 l1 l2 l3 l4
        generalize ov.f z = w3 at *
        go_wp2
        go_roundg (gk - 1)
        case measure => have := Hgk.out; omega
        case rel =>
          have := Hgk.out
          exact ⟨j + 1, by omega, by go_num, by omega, Hb3, Hst⟩
    · obtain rfl : j = n := by omega
      have he := HO.out
      rw [List.take_of_length_le (by rw [Hlx.out]; exact Nat.le_refl _), List.take_of_length_le (by rw [Hly.out]; exact Nat.le_refl _)] at he
      have Heq := Lib.hid (show decide (t = u) = true from by simpa using he)
      clear he
      go_wp2
      go_ret
      exact ⟨ret_bool Heq.out.symm, Hbw.out⟩
end Go.Proofs.YtmebpgggfppmhaaDoor
end
section
namespace Go.Proofs.YtmebpgggfppmhaaDoor
open Go.RowKit
set_option linter.unusedVariables false
set_option linter.unusedSimpArgs false

theorem dec_beq (a b : Int) : decide (a = b) = (a == b) := by rw [Bool.eq_iff_iff]; simp
theorem nd_box (W : World) (op w fl imm : Int) (A : Option Addr) (n c : Nat) : Below W.heap.size W (W.alloc (.cells #[.int .i64 op, .int .i64 w, .int .i64 fl, .slice A n c, .int .u32 imm] 41)) := (Below.refl _ _).alloc (Nat.le_refl _) _

set_option maxRecDepth 100000 in
set_option maxHeartbeats 1000000 in
theorem rflagsOf_any (x : T.Nd) (A : Option Addr) (c : Nat) (W : World) :
    Calls Tryd.prog 63 #[ndV x A c] W fun e W' => e = .returned (.bool (R.flOk x.op x.fl)) ∧ Below W.heap.size W W' := by
  obtain ⟨op, w, fl, args, imm⟩ := x
  unfold ndV
  dsimp only
  have Hb := Lib.hid (nd_box W op w fl imm A args.length c)
  by_cases h1 : op = 1 ∨ op = 2 ∨ op = 3 ∨ op = 11
  · have Hv := Lib.hid (show R.flOk op fl = (decide (0 ≤ fl) && decide (fl ≤ 3)) from by unfold R.flOk; rw [if_pos h1])
    by_cases h0 : 0 ≤ fl
    · have q : decide (0 ≤ fl) = true := by simpa using h0
      have Hv2 := Lib.hid (show R.flOk op fl = decide (fl ≤ 3) from by rw [Hv.out, q]; rfl)
      clear Hv h0
      rcases h1 with rfl | rfl | rfl | rfl
      all_goals
        go_enter Tryd.func63, Tryd.ntmps63
        go_wp2
        go_ret
        exact ⟨ret_bool Hv2.out.symm, Hb.out⟩
    · have q : decide (0 ≤ fl) = false := by simpa using h0
      have Hv2 := Lib.hid (show R.flOk op fl = false from by rw [Hv.out, q]; rfl)
      clear Hv h0
      rcases h1 with rfl | rfl | rfl | rfl
      all_goals
        go_enter Tryd.func63, Tryd.ntmps63
        go_wp2
        go_ret
        exact ⟨ret_bool Hv2.out.symm, Hb.out⟩
  by_cases h2 : op = 4 ∨ op = 6 ∨ op = 12 ∨ op = 13
  · have Hv := Lib.hid (show R.flOk op fl = (decide (fl = 0) || decide (fl = 4)) from by unfold R.flOk; rw [if_neg h1, if_pos h2])
    clear h1
    by_cases h0 : fl = 0
    · have q : (fl == 0) = true := by simpa using h0
      have Hv2 := Lib.hid (show R.flOk op fl = true from by rw [Hv.out, decide_eq_true h0]; rfl)
      clear Hv h0
      rcases h2 with rfl | rfl | rfl | rfl
      all_goals
        go_enter Tryd.func63, Tryd.ntmps63
        go_wp2
        go_ret
        exact ⟨ret_bool Hv2.out.symm, Hb.out⟩
    · have q : (fl == 0) = false := by simpa using h0
      have Hv2 := Lib.hid (show R.flOk op fl = (fl == 4) from by rw [Hv.out, decide_eq_false h0, Bool.false_or, dec_beq])
      clear Hv h0
      rcases h2 with rfl | rfl | rfl | rfl
      all_goals
        go_enter Tryd.func63, Tryd.ntmps63
        go_wp2
        go_ret
        exact ⟨ret_bool Hv2.out.symm, Hb.out⟩
  have Hv := Lib.hid (show R.flOk op fl = (fl == 0) from by unfold R.flOk; rw [if_neg h1, if_neg h2, dec_beq])
  have q1 : (op == 1) = false := by simp; omega
  have q2 : (op == 2) = false := by simp; omega
  have q3 : (op == 3) = false := by simp; omega
  have q4 : (op == 11) = false := by simp; omega
  have q5 : (op == 4) = false := by simp; omega
  have q6 : (op == 6) = false := by simp; omega
  have q7 : (op == 12) = false := by simp; omega
  have q8 : (op == 13) = false := by simp; omega
  clear h1 h2
  go_enter Tryd.func63, Tryd.ntmps63
  go_wp2
  go_ret
  exact ⟨ret_bool Hv.out.symm, Hb.out⟩

set_option maxRecDepth 100000 in
theorem rargs_any (op : Int) (W : World) : Calls Tryd.prog 86 #[.int .i64 op] W fun e W' => e = .returned (.int .i64 (R.par op)) ∧ W = W' := by
  by_cases h0 : op = 0 ∨ op = 33 ∨ op = 34 ∨ op = 35 ∨ op = 15
  · rcases h0 with rfl | rfl | rfl | rfl | rfl
    all_goals
      go_enter Tryd.func86, Tryd.ntmps86
      go_wp2
      go_ret
      exact ⟨ret_int (by decide), rfl⟩
  have q1 : (op == 0) = false := by simp; omega
  have q2 : (op == 33) = false := by simp; omega
  have q3 : (op == 34) = false := by simp; omega
  have q4 : (op == 35) = false := by simp; omega
  have q5 : (op == 15) = false := by simp; omega
  by_cases h1 : 1 ≤ op
  · have p1 : decide (1 ≤ op) = true := by simpa using h1
    by_cases h2 : op ≤ 14
    · have p2 : decide (op ≤ 14) = true := by simpa using h2
      have Hv := Lib.hid (show R.par op = 2 from by unfold R.par T.ar; rw [if_neg (by omega), if_neg (by omega), if_neg (by omega), if_neg (by omega), if_pos (by omega)])
      clear h0 h1 h2
      go_enter Tryd.func86, Tryd.ntmps86
      go_wp2
      go_ret
      exact ⟨ret_int Hv.out.symm, rfl⟩
    · have p2 : decide (op ≤ 14) = false := by simpa using h2
      have Hv := Lib.hid (show R.par op = -1 from by
        unfold R.par T.ar
        rw [if_neg (by omega), if_neg (by omega)]
        split
        · rfl
        · rw [if_neg (by omega), if_neg (by omega), if_neg (by omega)])
      clear h0 h1 h2
      go_enter Tryd.func86, Tryd.ntmps86
      go_wp2
      go_ret
      exact ⟨ret_int Hv.out.symm, rfl⟩
  · have p1 : decide (1 ≤ op) = false := by simpa using h1
    have Hv := Lib.hid (show R.par op = -1 from by unfold R.par T.ar; rw [if_neg (by omega), if_neg (by omega), if_neg (by omega), if_neg (by omega), if_neg (by omega), if_neg (by omega), if_neg (by omega)])
    clear h0 h1
    go_enter Tryd.func86, Tryd.ntmps86
    go_wp2
    go_ret
    exact ⟨ret_int Hv.out.symm, rfl⟩

set_option maxRecDepth 100000 in
theorem rcond_any (x : R.Cd) (W : World) : Calls Tryd.prog 59 #[.agg #[.int .i64 x.kind, .int .i64 x.hole, .int .u32 x.imm]] W fun e W' => e = .returned (.bool (R.cdOk x)) ∧ Below W.heap.size W W' := by
  obtain ⟨kd, ho, im⟩ := x
  dsimp only
  have Hb := Lib.hid (show Below W.heap.size W (W.alloc (.cells #[.int .i64 kd, .int .i64 ho, .int .u32 im] 85)) from (Below.refl _ _).alloc (Nat.le_refl _) _)
  by_cases h0 : 0 ≤ kd
  rotate_left
  · have q : decide (0 ≤ kd) = false := by simpa using h0
    have Hv := Lib.hid (show R.cdOk ⟨kd, ho, im⟩ = false from by unfold R.cdOk; simp [h0])
    clear h0
    go_enter Tryd.func59, Tryd.ntmps59
    go_wp2
    go_ret
    exact ⟨ret_bool Hv.out.symm, Hb.out⟩
  have q0 : decide (0 ≤ kd) = true := by simpa using h0
  by_cases h1 : kd ≤ 4
  rotate_left
  · have q : decide (kd ≤ 4) = false := by simpa using h1
    have Hv := Lib.hid (show R.cdOk ⟨kd, ho, im⟩ = false from by unfold R.cdOk; simp [h1])
    clear h0 h1
    go_enter Tryd.func59, Tryd.ntmps59
    go_wp2
    go_ret
    exact ⟨ret_bool Hv.out.symm, Hb.out⟩
  have q1 : decide (kd ≤ 4) = true := by simpa using h1
  by_cases h2 : 0 ≤ ho
  rotate_left
  · have q : decide (0 ≤ ho) = false := by simpa using h2
    have Hv := Lib.hid (show R.cdOk ⟨kd, ho, im⟩ = false from by unfold R.cdOk; simp [h2])
    clear h0 h1 h2
    go_enter Tryd.func59, Tryd.ntmps59
    go_wp2
    go_ret
    exact ⟨ret_bool Hv.out.symm, Hb.out⟩
  have q2 : decide (0 ≤ ho) = true := by simpa using h2
  by_cases h3 : ho < 2
  rotate_left
  · have q : decide (ho < 2) = false := by simpa using h3
    have Hv := Lib.hid (show R.cdOk ⟨kd, ho, im⟩ = false from by unfold R.cdOk; simp [h3])
    clear h0 h1 h2 h3
    go_enter Tryd.func59, Tryd.ntmps59
    go_wp2
    go_ret
    exact ⟨ret_bool Hv.out.symm, Hb.out⟩
  have q3 : decide (ho < 2) = true := by simpa using h3
  by_cases h4 : kd = 4
  · have q4 : (kd == 4) = true := by simpa using h4
    have Hv := Lib.hid (show R.cdOk ⟨kd, ho, im⟩ = true from by unfold R.cdOk; simp [h0, h1, h2, h3, h4])
    clear h0 h1 h2 h3 h4
    go_enter Tryd.func59, Tryd.ntmps59
    go_wp2
    go_ret
    exact ⟨ret_bool Hv.out.symm, Hb.out⟩
  · have q4 : (kd == 4) = false := by simpa using h4
    have Hv := Lib.hid (show R.cdOk ⟨kd, ho, im⟩ = (im == 0) from by unfold R.cdOk; rw [← dec_beq]; simp [h0, h1, h2, h3, h4])
    clear h0 h1 h2 h3 h4
    go_enter Tryd.func59, Tryd.ntmps59
    go_wp2
    go_ret
    exact ⟨ret_bool Hv.out.symm, Hb.out⟩

/-- a label stands in a list -/
def R.names (l : List T.Nd) (op imm : Int) : Bool := l.any fun x => decide (x.op = op) && decide (x.imm = imm)

set_option maxRecDepth 100000 in
theorem rnames_any (l : List T.Nd) (n c : Nat) (A : Option Addr) (op imm : Int) (W : World) (hL : StAt 5 NdR W A n l) :
    Calls Tryd.prog 61 #[.slice A n c, .int .i64 op, .int .u32 imm] W fun e W' => e = .returned (.bool (R.names l op imm)) ∧ W = W' := by
  have HL := Lib.hid hL
  have hle := hL.le
  have Hln := Lib.hid hL.len
  obtain ⟨r, hr⟩ : ∃ r, r = R.names l op imm := ⟨_, rfl⟩
  rw [← hr]
  have Hr := Lib.hid hr
  clear hL hr
  go_enter Tryd.func61, Tryd.ntmps61
  go_wp2
  go_loop [7] (fun i => ∃ j : Nat, j ≤ n ∧ i = .int .i64 (j : Int) ∧ Hid ((l.take j).any (fun x => decide (x.op = op) && decide (x.imm = imm)) = false)) (fun i => n - (intOf i).toNat)
  case atStart => exact ⟨0, Nat.zero_le _, rfl, Lib.hid rfl⟩
  case round =>
    obtain ⟨j, hj, rfl, Hany⟩ := hrel
    by_cases hlt : j < n
    · obtain ⟨x, b, off, A, c, hx, rfl, hb, h0, _, _, _, h4, _, _, _⟩ := nd_cells HL.out hlt
      by_cases e1 : x.op = op
      · have q1 : (x.op == op) = true := by simpa using e1
        by_cases e2 : x.imm = imm
        · have q2 : (x.imm == imm) = true := by simpa using e2
          have Ht := Lib.hid (show r = true from by rw [Hr.out]; exact any_true_at hx (by simp [e1, e2]))
          clear hx hb e1 e2
          go_wp2
          go_ret
          exact ⟨ret_bool Ht.out.symm, rfl⟩
        · have q2 : (x.imm == imm) = false := by simpa using e2
          have Ht := Lib.hid (show (l.take (j + 1)).any (fun x => decide (x.op = op) && decide (x.imm = imm)) = false from any_take_step hx Hany.out (by simp [e2]))
          clear hx hb e1 e2
          go_wp2
          go_round
          case rel => exact ⟨j + 1, by omega, by go_num, Ht⟩
          case measure => simp [intOf]; omega
      · have q1 : (x.op == op) = false := by simpa using e1
        have Ht := Lib.hid (show (l.take (j + 1)).any (fun x => decide (x.op = op) && decide (x.imm = imm)) = false from any_take_step hx Hany.out (by simp [e1]))
        clear hx hb e1
        go_wp2
        go_round
        case rel => exact ⟨j + 1, by omega, by go_num, Ht⟩
        case measure => simp [intOf]; omega
    · obtain rfl : j = n := by omega
      have Ht := Lib.hid (show r = false from by
        have := Hany.out
        rw [List.take_of_length_le (by rw [Hln.out]; exact Nat.le_refl _)] at this
        rw [Hr.out]; exact this)
      go_wp2
      go_ret
      exact ⟨ret_bool Ht.out.symm, rfl⟩

set_option maxRecDepth 100000 in
theorem rtyped_any (t : List T.Nd) (x : T.Nd) (n ct : Nat) (At A : Option Addr) (c : Nat) (W : World) (hT : StAt 5 NdR W At n t) (hA : SlAt (IntR .i64) W A x.args.length x.args) (hlen : (x.args.length : Int) = R.par x.op) (har : 0 ≤ R.par x.op) (harg : ∀ a ∈ x.args, 0 ≤ a ∧ a < (n : Int)) :
    Calls Tryd.prog 60 #[.slice At n ct, ndV x A c] W fun e W' => e = .returned (.bool (T.typed t x)) ∧ Below W.heap.size W W' := by
  by_cases ho : x.op = 34 ∨ x.op = 35
  · have Hv := Lib.hid (show T.typed t x = true from by unfold T.typed; rw [if_neg (by omega), if_neg (by omega), if_neg (by omega), if_neg (by omega), if_neg (by omega)])
    clear hT hA hlen har harg
    obtain ⟨op, w, fl, args, imm⟩ := x
    unfold ndV
    dsimp only at ho Hv ⊢
    have Hb := Lib.hid (nd_box W op w fl imm A args.length c)
    rcases ho with rfl | rfl
    all_goals
      go_enter Tryd.func60, Tryd.ntmps60
      go_wp2
      go_ret
      exact ⟨ret_bool Hv.out.symm, Hb.out⟩
  · have hp : R.par x.op = T.ar x.op := by
      unfold R.par at har ⊢
      rw [if_neg (by omega), if_neg (by omega)] at har ⊢
      split at har
      · omega
      · rename_i h; rw [if_neg h]
    obtain ⟨W1, hW1⟩ : ∃ W1, W1 = W.alloc (.cells #[.int .i64 x.op, .int .i64 x.w, .int .i64 x.fl, .slice A x.args.length c, .int .u32 x.imm] 41) := ⟨_, rfl⟩
    have hb1 : Below W.heap.size W W1 := by rw [hW1]; exact (Below.refl _ _).alloc (Nat.le_refl _) _
    have Hcall := Lib.hid (rTyped_any t x n ct At A c W1 (hT.below monoNd hb1) (hA.below (monoInt _) hb1) (by rw [← hp]; exact hlen) (by rw [← hp]; exact har) harg)
    obtain ⟨r, hr⟩ : ∃ r, T.typed t x = r := ⟨_, rfl⟩
    rw [hr] at Hcall ⊢
    have q1 : (x.op == 34) = false := by simp; omega
    have q2 : (x.op == 35) = false := by simp; omega
    have Hb1 := Lib.hid hb1
    have HW1 := Lib.hid hW1
    clear hT hA hlen har harg ho hp hb1 hW1 hr
    unfold ndV at Hcall ⊢
    go_enter Tryd.func60, Tryd.ntmps60
    go_wp2_with fail
    rw [← HW1.out]
    (with_reducible refine Hcall.out.mono ?_)
    rintro e w2 ⟨rfl, hb2⟩
    have Hb2 := Lib.hid (Hb1.out.trans (hb2.mono Hb1.out.size))
    clear hb2
    go_wp2
    go_ret
    exact ⟨rfl, Hb2.out⟩

/-- a rule is much longer than the limits -/
def R.rlong (r : R.Rl) : Bool := decide (60 < r.left.length) || decide (60 < r.right.length) || decide (60 < r.pre.length) || T.long r.left || T.long r.right

set_option maxRecDepth 100000 in
set_option maxHeartbeats 1000000 in
theorem rLong_any {r : R.Rl} {nl cl nr cr np cp : Nat} {AL AR AP : Option Addr} {W : World} (hR : RlAt W r nl nr np AL AR AP) :
    Calls Tryd.prog 10 #[.agg #[.slice AL nl cl, .slice AR nr cr, .slice AP np cp]] W fun e W' => e = .returned (.bool (R.rlong r)) ∧ Below W.heap.size W W' := by
  obtain ⟨W1, hW1⟩ : ∃ W1, W1 = W.alloc (.cells #[.slice AL nl cl, .slice AR nr cr, .slice AP np cp] 25) := ⟨_, rfl⟩
  have hb1 : Below W.heap.size W W1 := by rw [hW1]; exact (Below.refl _ _).alloc (Nat.le_refl _) _
  have hrow : W1.heap[W.heap.size]? = some (.cells #[.slice AL nl cl, .slice AR nr cr, .slice AP np cp] 25 (0, 0)) := by rw [hW1]; exact heap_alloc_new W _
  obtain ⟨c0, c1, c2, _⟩ := rl_cells hrow
  have Hb1 := Lib.hid hb1
  have hR1 := hR.below hb1
  have HL := Lib.hid (Long_any r.left nl cl AL W1 hR1.sl)
  have HR := Lib.hid (Long_any r.right nr cr AR W1 hR1.sr)
  have HW1 := Lib.hid hW1
  have e1 := hR.sl.len
  have e2 := hR.sr.len
  have e3 := hR.sp.len
  have l1 := hR.sl.le
  have l2 := hR.sr.le
  have l3 := hR.sp.le
  have Hv := Lib.hid (show R.rlong r = (decide (60 < nl) || decide (60 < nr) || decide (60 < np) || T.long r.left || T.long r.right) from by unfold R.rlong; rw [e1, e2, e3])
  rw [hW1] at c0 c1 c2
  clear hR hb1 hW1 hrow hR1 e1 e2 e3
  by_cases h1 : 60 < nl
  · have q1 : decide (60 < (nl : Int)) = true := by simp; omega
    have He := Lib.hid (show R.rlong r = true from by rw [Hv.out, decide_eq_true h1]; rfl)
    clear h1
    go_enter Tryd.func10, Tryd.ntmps10
    go_wp2
    go_ret
    rw [← HW1.out]
    exact ⟨ret_bool He.out.symm, Hb1.out⟩
  have q1 : decide (60 < (nl : Int)) = false := by simp; omega
  by_cases h2 : 60 < nr
  · have q2 : decide (60 < (nr : Int)) = true := by simp; omega
    have He := Lib.hid (show R.rlong r = true from by rw [Hv.out, decide_eq_true h2]; simp)
    clear h1 h2
    go_enter Tryd.func10, Tryd.ntmps10
    go_wp2
    go_ret
    rw [← HW1.out]
    exact ⟨ret_bool He.out.symm, Hb1.out⟩
  have q2 : decide (60 < (nr : Int)) = false := by simp; omega
  by_cases h3 : 60 < np
  · have q3 : decide (60 < (np : Int)) = true := by simp; omega
    have He := Lib.hid (show R.rlong r = true from by rw [Hv.out, decide_eq_true h3]; simp)
    clear h1 h2 h3
    go_enter Tryd.func10, Tryd.ntmps10
    go_wp2
    go_ret
    rw [← HW1.out]
    exact ⟨ret_bool He.out.symm, Hb1.out⟩
  have q3 : decide (60 < (np : Int)) = false := by simp; omega
  have Hv2 := Lib.hid (show R.rlong r = (T.long r.left || T.long r.right) from by rw [Hv.out, decide_eq_false h1, decide_eq_false h2, decide_eq_false h3]; rfl)
  clear h1 h2 h3 Hv
  obtain ⟨a, ha⟩ : ∃ a, T.long r.left = a := ⟨_, rfl⟩
  obtain ⟨b, hb⟩ : ∃ b, T.long r.right = b := ⟨_, rfl⟩
  rw [ha] at HL Hv2
  rw [hb] at HR Hv2
  clear ha hb
  cases a
  · go_enter Tryd.func10, Tryd.ntmps10
    go_wp2_with fail
    rw [← HW1.out]
    rw [← HW1.out] at c0 c1 c2
    (with_reducible refine HL.out.mono ?_)
    rintro e w2 ⟨rfl, rfl⟩
    go_wp2_with fail
    (with_reducible refine HR.out.mono ?_)
    rintro e w3 ⟨rfl, rfl⟩
    go_wp2
    go_ret
    exact ⟨ret_bool (by rw [Hv2.out]; rfl), Hb1.out⟩
  · go_enter Tryd.func10, Tryd.ntmps10
    go_wp2_with fail
    rw [← HW1.out]
    (with_reducible refine HL.out.mono ?_)
    rintro e w2 ⟨rfl, rfl⟩
    go_wp2
    go_ret
    exact ⟨ret_bool (by rw [Hv2.out]; rfl), Hb1.out⟩
end Go.Proofs.YtmebpgggfppmhaaDoor
end
section
namespace Go.Proofs.YtmebpgggfppmhaaDoor
open Go.RowKit
set_option linter.unusedVariables false
set_option linter.unusedSimpArgs false

/-- the first half of the question -/
def R.pre1 (x : T.Nd) : Bool := decide (0 ≤ R.par x.op) && decide ((x.args.length : Int) = R.par x.op) && decide (0 ≤ x.w) && decide (x.w ≤ 32) && R.flOk x.op x.fl
theorem R.pnode_pre (p : List T.Nd) (right : Bool) (k : Nat) (x : T.Nd) : R.pnode p right k x = (R.pre1 x && T.argsOk k x.args && R.pimmOk p right x) := rfl

set_option maxRecDepth 100000 in
set_option maxHeartbeats 4000000 in
theorem rargument_pat {p : List T.Nd} {n cp k : Nat} {Ap : Option Addr} {left : Bool} {W : World} (hP : StAt 5 NdR W Ap n p) (hk : k < n) (x : T.Nd) (hx : p[k]? = some x) :
    Calls Tryd.prog 58 #[.slice Ap n cp, .int .i64 (k : Int), .bool left] W fun e W' => e = .returned (.bool (R.pnode p (!left) k x)) ∧ Below W.heap.size W W' := by
  have hle := hP.le
  obtain ⟨x', b, off, A, c, hx', rfl, hb, h0, h1, h2, h3, h4, hs, i0, i1⟩ := nd_cells hP hk
  rw [hx] at hx'
  cases hx'
  obtain ⟨W1, hW1⟩ : ∃ W1, W1 = W.alloc (.cells #[.int .i64 x.op, .int .i64 x.w, .int .i64 x.fl, .slice A x.args.length c, .int .u32 x.imm] 41) := ⟨_, rfl⟩
  have hb1 : Below W.heap.size W W1 := by rw [hW1]; exact (Below.refl _ _).alloc (Nat.le_refl _) _
  have hrow : W1.heap[W.heap.size]? = some (.cells #[.int .i64 x.op, .int .i64 x.w, .int .i64 x.fl, .slice A x.args.length c, .int .u32 x.imm] 41 (0, 0)) := by rw [hW1]; exact heap_alloc_new W _
  have Hrow := Lib.hid (fun (X : World) (h : Below W1.heap.size W1 X) => (h.block _ (Array.getElem?_eq_some_iff.1 hrow).1).trans hrow)
  have Hb1 := Lib.hid hb1
  have HP := Lib.hid (hP.below monoNd hb1)
  have HA := Lib.hid (hs.below (monoInt _) hb1)
  have HW1 := Lib.hid hW1
  have Hv := Lib.hid (R.pnode_pre p (!left) k x)
  have Hpre := Lib.hid (show R.pre1 x = (decide (0 ≤ R.par x.op) && decide ((x.args.length : Int) = R.par x.op) && decide (0 ≤ x.w) && decide (x.w ≤ 32) && R.flOk x.op x.fl) from rfl)
  have Hfl := Lib.hid (fun X => rflagsOf_any x A c X)
  have Hi := Lib.hid (show 0 ≤ x.imm ∧ x.imm < 4294967296 from ⟨i0, i1⟩)
  have Him := Lib.hid (show R.pimmOk p (!left) x = if x.op = 0 then decide (x.w = 0) || B.isW x.w x.imm
    else if x.op = 33 ∨ x.op = 34 then decide (x.w = 0) && decide (x.imm < 2)
    else if x.op = 35 then (!left) && decide (x.w = 0) && decide (x.imm = 0) && decide ((p.getD (x.args.getD 0 0).toNat default).op = 34)
    else if x.op = 14 then decide (x.w = 1) && decide (x.imm ≤ 9)
    else decide (x.imm = 0) from rfl)
  have Hpar := Lib.hid (show R.par 35 = 1 from by decide)
  obtain ⟨op, w, fl, args, imm⟩ := x
  unfold ndV at Hfl
  dsimp only at *
  obtain ⟨pr, hpr⟩ : ∃ pr, R.par op = pr := ⟨_, rfl⟩
  obtain ⟨fo, hfo⟩ : ∃ fo, R.flOk op fl = fo := ⟨_, rfl⟩
  rw [hpr, hfo] at Hpre
  rw [hfo] at Hfl
  have Hpr := Lib.hid hpr
  have hall : args.length ≤ 9223372036854775807 := HA.out.le
  clear hP hb1 hW1 hrow hb hs i0 i1 hx hpr hfo
  go_enter Tryd.func58, Tryd.ntmps58
  go_upto_region 2 with (fail)
  rw [← HW1.out]
  clear h0 h1 h2 h3 h4
  obtain ⟨pb, hpb⟩ : ∃ pb, R.pre1 ⟨op, w, fl, args, imm⟩ = pb := ⟨_, rfl⟩
  rw [hpb] at Hpre Hv
  clear hpb
  go_cut [40] (fun s40 wx => s40 = .bool (!pb) ∧ Hid (Below W1.heap.size W1 wx))
  case first =>
    obtain ⟨x0, x1, x2, x3, x4⟩ := nd5_cells (Hrow.out W1 (Below.refl _ _))
    obtain ⟨ov⟩ := ov_ex W1
    have o0 := ov.cell x0
    have o1 := ov.cell x1
    have o2 := ov.cell x2
    have o3 := ov.cell x3
    have o4 := ov.cell x4
    have HQ1 := Lib.hid (show ∀ u, Calls Tryd.prog 86 #[.int .i64 op] (ov.f u) (fun e w' => e = .returned (.int .i64 pr) ∧ ∃ m, w' = ov.f m) from fun u => by
      have := rargs_any op (ov.f u)
      rw [Hpr.out] at this
      exact calls_over_same this)
    have HQ2 := Lib.hid (fun u => calls_over (ov := ov) (Hfl.out (ov.f u)))
    have Hov := Lib.hid (fun u => ov.below u)
    clear x0 x1 x2 x3 x4
    by_cases c1 : pr < 0
    · have q : decide (pr < 0) = true := by simpa using c1
      have He := Lib.hid (show pb = false from by rw [Hpre.out, decide_eq_false (by omega)]; simp)
      clear c1
      refine wp_region_ovq ov (by kernel_rfl) (by kernel_rfl) ?_
      repeat (go_big_quiet_step ((first | (go_at_call 86; with_reducible exact HQ1.out _) | (go_at_call 63; with_reducible exact HQ2.out _))))
      refine wpQuiet_nil ?_
      rintro _ ⟨u, rfl⟩
      go_wp2_with fail
      go_meet
      exact ⟨by rw [He.out]; rfl, Lib.hid (Hov.out u)⟩
    have q1 : decide (pr < 0) = false := by simpa using c1
    by_cases c2 : pr = (args.length : Int)
    rotate_left
    · have q2 : (pr != (args.length : Int)) = true := by simpa using c2
      have He := Lib.hid (show pb = false from by rw [Hpre.out, decide_eq_false (show ¬ (args.length : Int) = pr from fun h => c2 h.symm)]; simp)
      clear c1 c2
      refine wp_region_ovq ov (by kernel_rfl) (by kernel_rfl) ?_
      repeat (go_big_quiet_step ((first | (go_at_call 86; with_reducible exact HQ1.out _) | (go_at_call 63; with_reducible exact HQ2.out _))))
      refine wpQuiet_nil ?_
      rintro _ ⟨u, rfl⟩
      go_wp2_with fail
      go_meet
      exact ⟨by rw [He.out]; rfl, Lib.hid (Hov.out u)⟩
    have q2 : (pr != (args.length : Int)) = false := by simpa using c2
    by_cases c3 : w < 0
    · have q3 : decide (w < 0) = true := by simpa using c3
      have He := Lib.hid (show pb = false from by rw [Hpre.out, decide_eq_false (show ¬ 0 ≤ w by omega)]; simp)
      clear c1 c2 c3
      refine wp_region_ovq ov (by kernel_rfl) (by kernel_rfl) ?_
      repeat (go_big_quiet_step ((first | (go_at_call 86; with_reducible exact HQ1.out _) | (go_at_call 63; with_reducible exact HQ2.out _))))
      refine wpQuiet_nil ?_
      rintro _ ⟨u, rfl⟩
      go_wp2_with fail
      go_meet
      exact ⟨by rw [He.out]; rfl, Lib.hid (Hov.out u)⟩
    have q3 : decide (w < 0) = false := by simpa using c3
    by_cases c4 : 32 < w
    · have q4 : decide (32 < w) = true := by simpa using c4
      have He := Lib.hid (show pb = false from by rw [Hpre.out, decide_eq_false (show ¬ w ≤ 32 by omega)]; simp)
      clear c1 c2 c3 c4
      refine wp_region_ovq ov (by kernel_rfl) (by kernel_rfl) ?_
      repeat (go_big_quiet_step ((first | (go_at_call 86; with_reducible exact HQ1.out _) | (go_at_call 63; with_reducible exact HQ2.out _))))
      refine wpQuiet_nil ?_
      rintro _ ⟨u, rfl⟩
      go_wp2_with fail
      go_meet
      exact ⟨by rw [He.out]; rfl, Lib.hid (Hov.out u)⟩
    have q4 : decide (32 < w) = false := by simpa using c4
    have He := Lib.hid (show pb = fo from by rw [Hpre.out, decide_eq_true (show 0 ≤ pr by omega), decide_eq_true c2.symm, decide_eq_true (show 0 ≤ w by omega), decide_eq_true (show w ≤ 32 by omega)]; rfl)
    clear c1 c2 c3 c4
    refine wp_region_ovq ov (by kernel_rfl) (by kernel_rfl) ?_
    repeat (go_big_quiet_step ((first | (go_at_call 86; with_reducible exact HQ1.out _) | (go_at_call 63; with_reducible exact HQ2.out _))))
    refine wpQuiet_nil ?_
    rintro _ ⟨u, rfl⟩
    go_wp2_with fail
    go_meet
    exact ⟨by rw [He.out], Lib.hid (Hov.out u)⟩
  case rest =>
  obtain ⟨rfl, Hb2⟩ := hcut
  obtain ⟨W2, hW2⟩ : ∃ W2, W2 = wc := ⟨_, rfl⟩
  rw [← hW2] at Hb2 ⊢
  clear hW2
  have Hb02 := Lib.hid (Hb1.out.trans (Hb2.out.mono Hb1.out.size))
  cases pb with
  | false =>
    have He := Lib.hid (show R.pnode p (!left) k ⟨op, w, fl, args, imm⟩ = false from by rw [Hv.out]; simp)
    go_wp2
    go_ret
    exact ⟨ret_bool He.out.symm, Hb02.out⟩
  | true =>
  have Hv2 := Lib.hid (show R.pnode p (!left) k ⟨op, w, fl, args, imm⟩ = (T.argsOk k args && R.pimmOk p (!left) ⟨op, w, fl, args, imm⟩) from by rw [Hv.out]; simp)
  have Hlen := Lib.hid (show (args.length : Int) = pr ∧ 0 ≤ w from by
    have := Hpre.out.symm
    simp only [Bool.and_eq_true, decide_eq_true_eq] at this
    exact ⟨this.1.1.1.2, this.1.1.2⟩)
  obtain ⟨x0, x1, x2, x3, x4⟩ := nd5_cells (Hrow.out W2 Hb2.out)
  have HA2 := Lib.hid (HA.out.below (monoInt _) Hb2.out)
  have HP2 := Lib.hid (HP.out.below monoNd Hb2.out)
  have HX1 := Lib.hid x1
  have HX0 := Lib.hid x0
  have HX4 := Lib.hid x4
  have HX3 := Lib.hid x3
  go_wp2
  clear x0 x1 x2 x4
  go_loop [8] (fun i => ∃ j : Nat, j ≤ args.length ∧ i = .int .i64 (j : Int) ∧ Hid ((args.take j).all (fun a => decide (0 ≤ a) && decide (a < (k : Int))) = true)) (fun i => args.length - (intOf i).toNat)
  case atStart => exact ⟨0, Nat.zero_le _, rfl, Lib.hid rfl⟩
  case round =>
    obtain ⟨j, hj, rfl, Hall⟩ := hrel
    by_cases hlt : j < args.length
    · obtain ⟨a, ba, offa, ua, ha, rfl, hba, hca, rfl⟩ := HA2.out.at_ hlt
      by_cases a0 : a < 0
      · have q1 : decide (a < 0) = true := by simpa using a0
        have Ht := Lib.hid (show R.pnode p (!left) k ⟨op, w, fl, args, imm⟩ = false from by
          have : T.argsOk k args = false := by
            unfold T.argsOk
            rw [List.all_eq_false]
            exact ⟨a, List.mem_of_getElem? ha, by simp; omega⟩
          rw [Hv2.out, this]; rfl)
        clear ha hba a0
        go_wp2
        go_ret
        exact ⟨ret_bool Ht.out.symm, Hb02.out⟩
      have q1 : decide (a < 0) = false := by simpa using a0
      by_cases a1 : (k : Int) ≤ a
      · have q2 : decide ((k : Int) ≤ a) = true := by simpa using a1
        have Ht := Lib.hid (show R.pnode p (!left) k ⟨op, w, fl, args, imm⟩ = false from by
          have : T.argsOk k args = false := by
            unfold T.argsOk
            rw [List.all_eq_false]
            exact ⟨a, List.mem_of_getElem? ha, by simp; omega⟩
          rw [Hv2.out, this]; rfl)
        clear ha hba a0 a1
        go_wp2
        go_ret
        exact ⟨ret_bool Ht.out.symm, Hb02.out⟩
      · have q2 : decide ((k : Int) ≤ a) = false := by simpa using a1
        have Ht := Lib.hid (show (args.take (j + 1)).all (fun a => decide (0 ≤ a) && decide (a < (k : Int))) = true from by
          rw [take_next ha, List.all_append, Hall.out]
          simp; omega)
        clear ha hba a0 a1
        go_wp2
        go_round
        case rel => exact ⟨j + 1, by omega, by go_num, Ht⟩
        case measure => simp [intOf]; omega
    · obtain rfl : j = args.length := by omega
      have Hargs := Lib.hid (show T.argsOk k args = true from by
        have := Hall.out
        rw [List.take_of_length_le (Nat.le_refl _)] at this
        exact this)
      have Hv3 := Lib.hid (show R.pnode p (!left) k ⟨op, w, fl, args, imm⟩ = R.pimmOk p (!left) ⟨op, w, fl, args, imm⟩ from by rw [Hv2.out, Hargs.out]; rfl)
      have x0 := HX0.out
      have x1 := HX1.out
      have x4 := HX4.out
      by_cases e0 : op = 0
      · subst e0
        have Hv4 := Lib.hid (show R.pnode p (!left) k ⟨0, w, fl, args, imm⟩ = (decide (w = 0) || B.isW w imm) from by rw [Hv3.out, Him.out]; rfl)
        by_cases w0 : w = 0
        · have q : (w == 0) = true := by simpa using w0
          have He := Lib.hid (show R.pnode p (!left) k ⟨0, w, fl, args, imm⟩ = true from by rw [Hv4.out, decide_eq_true w0]; rfl)
          clear w0 hlt
          go_wp2
          go_ret
          exact ⟨ret_bool He.out.symm, Hb02.out⟩
        · have q : (w == 0) = false := by simpa using w0
          have He := Lib.hid (show R.pnode p (!left) k ⟨0, w, fl, args, imm⟩ = B.isW w imm from by rw [Hv4.out, decide_eq_false w0]; rfl)
          have HI := Lib.hid (isWord_any w imm W2 Hi.out.1 Hi.out.2)
          clear w0 hlt
          go_wp2_with fail
          (with_reducible refine HI.out.mono ?_)
          rintro e w3 ⟨rfl, rfl⟩
          go_wp2
          go_ret
          exact ⟨ret_bool He.out.symm, Hb02.out⟩
      have qo0 : (op == 0) = false := by simpa using e0
      by_cases e1 : op = 33 ∨ op = 34
      · have Hv4 := Lib.hid (show R.pnode p (!left) k ⟨op, w, fl, args, imm⟩ = (decide (w = 0) && decide (imm < 2)) from by rw [Hv3.out, Him.out, if_neg e0, if_pos e1])
        by_cases w0 : w = 0
        · have q : (w == 0) = true := by simpa using w0
          have He := Lib.hid (show R.pnode p (!left) k ⟨op, w, fl, args, imm⟩ = decide (imm < 2) from by rw [Hv4.out, decide_eq_true w0]; rfl)
          have He2 := Lib.hid (show R.pnode p (!left) k ⟨op, w, fl, args, imm⟩ = decide (imm ≤ 1) from by rw [He.out, decide_eq_decide]; omega)
          clear w0 hlt
          by_cases e2 : op = 33
          · have qo1 : (op == 33) = true := by simpa using e2
            clear e0 e1 e2
            go_wp2
            go_ret
            exact ⟨ret_bool He2.out.symm, Hb02.out⟩
          · have qo1 : (op == 33) = false := by simpa using e2
            have qo2 : (op == 34) = true := by simp; omega
            clear e0 e1 e2
            go_wp2
            go_ret
            exact ⟨ret_bool He.out.symm, Hb02.out⟩
        · have q : (w == 0) = false := by simpa using w0
          have He := Lib.hid (show R.pnode p (!left) k ⟨op, w, fl, args, imm⟩ = false from by rw [Hv4.out, decide_eq_false w0]; rfl)
          clear w0 hlt
          by_cases e2 : op = 33
          · have qo1 : (op == 33) = true := by simpa using e2
            clear e0 e1 e2
            go_wp2
            go_ret
            exact ⟨ret_bool He.out.symm, Hb02.out⟩
          · have qo1 : (op == 33) = false := by simpa using e2
            have qo2 : (op == 34) = true := by simp; omega
            clear e0 e1 e2
            go_wp2
            go_ret
            exact ⟨ret_bool He.out.symm, Hb02.out⟩
      have qo1 : (op == 33) = false := by simp; omega
      have qo2 : (op == 34) = false := by simp; omega
      by_cases e2 : op = 35
      · subst e2
        have Hv4 := Lib.hid (show R.pnode p (!left) k ⟨35, w, fl, args, imm⟩ = ((!left) && decide (w = 0) && decide (imm = 0) && decide ((p.getD (args.getD 0 0).toNat default).op = 34)) from by rw [Hv3.out, Him.out]; rfl)
        have hl1 : args.length = 1 := by have h1 := Hlen.out.1; have h2 := Hpr.out; have h3 := Hpar.out; omega
        obtain ⟨a, ba, offa, ua, ha, rfl, hba, hca, rfl⟩ := HA2.out.at_ (show 0 < args.length by omega)
        have hax : 0 ≤ a ∧ a < (k : Int) := by
          have := Hargs.out
          unfold T.argsOk at this
          have := List.all_eq_true.1 this a (List.mem_of_getElem? ha)
          simpa using this
        obtain ⟨an, rfl⟩ : ∃ an : Nat, a = an := ⟨a.toNat, by omega⟩
        obtain ⟨y, by_, offy, Ay, cy, hy, hbe, hby, y0, _, _, _, _, _, _, _⟩ := nd_cells HP2.out (show an < n by omega)
        injection hbe with hbe
        injection hbe with hbe1 hbe2 _
        subst hbe1
        subst hbe2
        have hag : (p.getD (args.getD 0 0).toNat default).op = y.op := by
          have e : args.getD 0 0 = (an : Int) := by rw [List.getD_eq_getElem?_getD, ha]; rfl
          rw [e, Int.toNat_natCast, List.getD_eq_getElem?_getD, hy]; rfl
        rw [hag] at Hv4
        rw [Nat.add_zero] at hca
        have hl2 : (0 : Int) < (args.length : Int) := by omega
        have x3 := HX3.out
        clear ha hba hy hby hag hlt hl1
        cases left with
        | true =>
          have He := Lib.hid (show R.pnode p (!true) k ⟨35, w, fl, args, imm⟩ = false from by rw [Hv4.out]; rfl)
          go_wp2
          go_ret
          exact ⟨ret_bool He.out.symm, Hb02.out⟩
        | false =>
          by_cases w0 : w = 0
          rotate_left
          · have q : (w == 0) = false := by simpa using w0
            have He := Lib.hid (show R.pnode p (!false) k ⟨35, w, fl, args, imm⟩ = false from by rw [Hv4.out, decide_eq_false w0]; rfl)
            clear w0
            go_wp2
            go_ret
            exact ⟨ret_bool He.out.symm, Hb02.out⟩
          have q : (w == 0) = true := by simpa using w0
          by_cases m0 : imm = 0
          rotate_left
          · have q2 : (imm == 0) = false := by simpa using m0
            have He := Lib.hid (show R.pnode p (!false) k ⟨35, w, fl, args, imm⟩ = false from by rw [Hv4.out, decide_eq_false m0]; simp)
            clear w0 m0
            go_wp2
            go_ret
            exact ⟨ret_bool He.out.symm, Hb02.out⟩
          have q2 : (imm == 0) = true := by simpa using m0
          have He := Lib.hid (show R.pnode p (!false) k ⟨35, w, fl, args, imm⟩ = (y.op == 34) from by rw [Hv4.out, decide_eq_true w0, decide_eq_true m0, dec_beq]; rfl)
          clear w0 m0
          go_wp2
          go_ret
          exact ⟨ret_bool He.out.symm, Hb02.out⟩
      have qo3 : (op == 35) = false := by simpa using e2
      by_cases e3 : op = 14
      · subst e3
        have Hv4 := Lib.hid (show R.pnode p (!left) k ⟨14, w, fl, args, imm⟩ = (decide (w = 1) && decide (imm ≤ 9)) from by rw [Hv3.out, Him.out]; rfl)
        clear hlt e0 e1 e2
        by_cases w0 : w = 1
        · have q : (w == 1) = true := by simpa using w0
          have He := Lib.hid (show R.pnode p (!left) k ⟨14, w, fl, args, imm⟩ = decide (imm ≤ 9) from by rw [Hv4.out, decide_eq_true w0]; rfl)
          clear w0
          go_wp2
          go_ret
          exact ⟨ret_bool He.out.symm, Hb02.out⟩
        · have q : (w == 1) = false := by simpa using w0
          have He := Lib.hid (show R.pnode p (!left) k ⟨14, w, fl, args, imm⟩ = false from by rw [Hv4.out, decide_eq_false w0]; rfl)
          clear w0
          go_wp2
          go_ret
          exact ⟨ret_bool He.out.symm, Hb02.out⟩
      · have qo4 : (op == 14) = false := by simpa using e3
        have He := Lib.hid (show R.pnode p (!left) k ⟨op, w, fl, args, imm⟩ = (imm == 0) from by rw [Hv3.out, Him.out, if_neg e0, if_neg e1, if_neg e2, if_neg e3, dec_beq])
        clear hlt e0 e1 e2 e3
        go_wp2
        go_ret
        exact ⟨ret_bool He.out.symm, Hb02.out⟩
end Go.Proofs.YtmebpgggfppmhaaDoor
end
section
namespace Go.Proofs.YtmebpgggfppmhaaDoor
open Go.RowKit
set_option linter.unusedVariables false
set_option linter.unusedSimpArgs false

theorem sl_src {A : Option Addr} {n : Nat} {xs : List Int} {W : World} (h : SlAt (IntR .i64) W A n xs) : (xs.map (Value.int .i64)).length = n * 1 ∧ (∀ j u, (xs.map (Value.int .i64))[j]? = some u → ∃ ad : Addr, A = some ad ∧ W.cell? (ad.add j) = some u) ∧ ∀ u ∈ xs.map (Value.int .i64), u.oneCell' = true := by
  refine ⟨by rw [List.length_map, h.len, Nat.mul_one], fun j u hu => ?_, fun u hu => ?_⟩
  · rw [List.getElem?_map] at hu
    obtain ⟨x, hx, rfl⟩ := Option.map_eq_some_iff.1 hu
    obtain ⟨b, off, u, rfl, hb, hc, rfl⟩ := h.2.2 j x hx
    exact ⟨_, rfl, by rw [addr_add_zero]; exact hc⟩
  · obtain ⟨x, _, rfl⟩ := List.mem_map.1 hu
    rfl

set_option maxRecDepth 100000 in
set_option maxHeartbeats 2000000 in
theorem CopyNodes_any {t : List T.Nd} {n ct : Nat} {At : Option Addr} {W : World} (hT : StAt 5 NdR W At n t) (hn : n ≤ 900000) (ha : ∀ x ∈ t, x.args.length ≤ 900000) :
    Calls Tryd.prog 48 #[.slice At n ct] W fun e W' => ∃ v, e = .returned v ∧ OwnR (NdF W.heap.size) W.heap.size W' v t ∧ Below W.heap.size W W' := by
  have hl := hT.len
  have HT := Lib.hid hT
  have Ha := Lib.hid ha
  have Hl := Lib.hid hl
  clear hT ha hl
  go_enter Tryd.func48, Tryd.ntmps48
  go_wp2
  go_loopg [4, 3] (n + 1) (fun gg i v wr => ∃ (j : Nat), j ≤ n ∧ i = .int .i64 (j : Int) ∧ gg + j = n + 1 ∧ Hid (Below W.heap.size W wr) ∧ Hid (OwnR (NdF W.heap.size) W.heap.size wr v (t.take j)))
  case atStart => exact ⟨0, Nat.zero_le _, rfl, rfl, Lib.hid (Below.refl _ _), Lib.hid (OwnR.nil_ _ _ _)⟩
  case round =>
    obtain ⟨j, hj, rfl, hgk, Hbw, Hown⟩ := hrel
    have Hgk := Lib.hid hgk; clear hgk
    obtain ⟨Av, cv, hv⟩ := Hown.out.form
    have hlj : (t.take j).length = j := by rw [List.length_take, Hl.out]; omega
    rw [hlj] at hv
    subst hv
    by_cases hjn : j < n
    · obtain ⟨x, b, off, A, c, hx, rfl, hb, h0, h1, h2, h3, h4, hs, i0, i1⟩ := nd_cells HT.out hjn
      have hbel := Hbw.out
      have k0 := (hbel.cell (p := ⟨b, off + j * 5, none⟩) hb).trans h0
      have k1 := (hbel.cell (p := ⟨b, off + j * 5 + 1, none⟩) hb).trans h1
      have k2 := (hbel.cell (p := ⟨b, off + j * 5 + 2, none⟩) hb).trans h2
      have k3 := (hbel.cell (p := ⟨b, off + j * 5 + 3, none⟩) hb).trans h3
      have k4 := (hbel.cell (p := ⟨b, off + j * 5 + 4, none⟩) hb).trans h4
      obtain ⟨w1, hw1⟩ : ∃ w1, w1 = wr.alloc (.cells #[.int .i64 x.op, .int .i64 x.w, .int .i64 x.fl, .slice A x.args.length c, .int .u32 x.imm] 41) := ⟨_, rfl⟩
      have hb1 : Below wr.heap.size wr w1 := by rw [hw1]; exact (Below.refl _ _).alloc (Nat.le_refl _) _
      have hr1 : w1.heap[wr.heap.size]? = some (.cells #[.int .i64 x.op, .int .i64 x.w, .int .i64 x.fl, .slice A x.args.length c, .int .u32 x.imm] 41 (0, 0)) := by rw [hw1]; exact heap_alloc_new wr _
      have Hsz1 := Lib.hid (show w1.heap.size = wr.heap.size + 1 from by rw [hw1]; simp)
      obtain ⟨w2, hw2⟩ : ∃ w2, w2 = w1.alloc (.cells #[] 3) := ⟨_, rfl⟩
      have hb12 : Below w1.heap.size w1 w2 := by rw [hw2]; exact (Below.refl _ _).alloc (Nat.le_refl _) _
      have hb2 : Below wr.heap.size wr w2 := hb1.trans (hb12.mono (by rw [Hsz1.out]; omega))
      have hr2 : w2.heap[wr.heap.size]? = some (.cells #[.int .i64 x.op, .int .i64 x.w, .int .i64 x.fl, .slice A x.args.length c, .int .u32 x.imm] 41 (0, 0)) := (hb12.block _ (by rw [Hsz1.out]; omega)).trans hr1
      obtain ⟨q1, q2, q3⟩ := sl_src ((hs.below (monoInt _) hbel).below (monoInt _) hb2)
      have Q1 := Lib.hid q1
      have Q2 := Lib.hid q2
      have Q3 := Lib.hid q3
      have HE := Lib.hid (show OwnAt w2 3 1 (.slice (some ⟨wr.heap.size + 1, 0, none⟩) 0 0) 0 [] from by rw [hw2, ← Hsz1.out]; exact ownAt_empty w1 3 1)
      have Hx := Lib.hid hx
      have Hi := Lib.hid (show 0 ≤ x.imm ∧ x.imm < 4294967296 from ⟨i0, i1⟩)
      have Hr2 := Lib.hid hr2
      have Hb2 := Lib.hid hb2
      have Hb12 := Lib.hid hb12
      have hal : 0 + x.args.length ≤ 1000000000 := by have := Ha.out x (List.mem_of_getElem? hx); omega
      have n3 : w1.cell? ⟨wr.heap.size, 3, none⟩ = some (.slice A x.args.length c) := by rw [cell_of_row _ _ _ _ _ (0, 0) hr1]; rfl
      have n3' : w2.cell? ⟨wr.heap.size, 3, none⟩ = some (.slice A x.args.length c) := by rw [cell_of_row _ _ _ _ _ (0, 0) hr2]; rfl
      have Hsz2 := Lib.hid (show w2.heap.size = wr.heap.size + 2 from by rw [hw2]; simp [Hsz1.out])
      have HW1 := Lib.hid hw1
      have HW2 := Lib.hid hw2
      rw [hw2, hw1] at n3'
      rw [hw1] at n3
      clear hx h0 h1 h2 h3 h4 hb hs i0 i1 hbel hb1 hr1 hr2 hb2 hb12 q1 q2 q3 hw1 hw2
      have hsW := Hbw.out.size
      go_wp2_with (first
        | (at_builtin
           rw [← HW1.out, ← HW2.out]
           clear n3 n3' k0 k1 k2 k3 k4
           refine wpList_append_src _ rfl (.tmp 16) (.tmp 18) 38 rfl 3 (.int .i64 0) 1 8 Tryd.underlying38 infoI rfl (by decide) (.slice (some ⟨wr.heap.size + 1, 0, none⟩) 0 0) 0 [] rfl HE.out A x.args.length c (x.args.map (Value.int .i64)) rfl Q1.out Q2.out Q3.out hal (by decide) ?_
           intro v' w3 hown' hgr hat
           rw [Nat.zero_add, List.nil_append] at hown'
           (obtain ⟨A2, c2, rfl⟩ := hown'.form)
           have hr3 : w3.heap[wr.heap.size]? = some (.cells #[.int .i64 x.op, .int .i64 x.w, .int .i64 x.fl, .slice A x.args.length c, .int .u32 x.imm] 41 (0, 0)) := (hgr.block _ (by rw [Hsz2.out]; omega) (fun e => by simp [Value.ownBlock] at e)).trans Hr2.out
           have n3 : w3.cell? ⟨wr.heap.size, 3, none⟩ = some (.slice A x.args.length c) := (by rw [cell_of_row _ _ _ _ _ (0, 0) hr3]; rfl)
           have nf : w3.frozen? ⟨wr.heap.size, 3, none⟩ = false := frozen_row hr3 _
           have hr4 := heap_setCell_same w3 wr.heap.size 3 _ _ (.slice A2 x.args.length c2) hr3
           (obtain ⟨m0, m1, m2, m3, m4⟩ := nd5_cells (show (w3.setCell ⟨wr.heap.size, 3, none⟩ (.slice A2 x.args.length c2)).heap[wr.heap.size]? = some (.cells #[.int .i64 x.op, .int .i64 x.w, .int .i64 x.fl, .slice A2 x.args.length c2, .int .u32 x.imm] 41 (0, 0)) from hr4))
           have hsz2 := Hsz2.out
           have hb23 : Below wr.heap.size wr w3 := Hb2.out.grown hgr Hb2.out.size (fun g hg => by simp [Value.ownBlock] at hg; omega)
           have hB3 : Below wr.heap.size wr (w3.setCell ⟨wr.heap.size, 3, none⟩ (.slice A2 x.args.length c2)) := hb23.setCell (p := ⟨wr.heap.size, 3, none⟩) (Nat.le_refl _) _
           have hv2 : ∀ g, (Value.slice A2 x.args.length c2).ownBlock = some g → wr.heap.size + 1 ≤ g := (fun g hg => by
             rcases hat with e | e
             · rw [e] at hg; simp [Value.ownBlock] at hg; omega
             · rw [e] at hg; injection hg with hg; omega)
           have Hnd := Lib.hid (show NdF W.heap.size (w3.setCell ⟨wr.heap.size, 3, none⟩ (.slice A2 x.args.length c2)) (ndC x A2 c2) x from (by
             refine ⟨A2, c2, rfl, hown'.setCell (p := ⟨wr.heap.size, 3, none⟩) (fun e => ?_) _, Hi.out.1, Hi.out.2, fun g hg => ?_⟩
             · have := hv2 _ e
               simp only at this
               omega
             · have := hv2 g hg
               omega))
           have Hown3 := Lib.hid (Hown.out.below (ndF_rel _) hB3)
           have HB3 := Lib.hid (Hbw.out.trans (hB3.mono hsW))
           have hsz3 : W.heap.size ≤ (w3.setCell ⟨wr.heap.size, 3, none⟩ (.slice A2 x.args.length c2)).heap.size := HB3.out.size
           clear hown' hgr hat hr3 hr4 hsz2 hb23 hB3 hv2)
        | (at_builtin
           refine wpList_append_nodeR (ndF_rel W.heap.size) rfl (.tmp 21) (.tmp 23) rfl _ (t.take j) rfl (by assumption : Hid _).out (ndC x _ _) x (by assumption : Hid _).out _ (by simp) rfl (by omega) (by assumption) ?_
           intro v' w5 hown' hbel'
           have Hown5 := Lib.hid hown'
           have Hb5 := Lib.hid (hbel' _ (by assumption : Hid (Below W.heap.size W _)).out)
           clear hown' hbel'))
      go_roundg (gk - 1)
      case measure => have := Hgk.out; omega
      case rel =>
        have := Hgk.out
        exact ⟨j + 1, by omega, by go_num, by omega, Hb5, Lib.hid (by rw [take_next Hx.out]; exact Hown5.out)⟩
    · obtain rfl : j = n := by omega
      have e : t.take j = t := List.take_of_length_le (by rw [Hl.out]; exact Nat.le_refl _)
      rw [e] at Hown
      go_wp2
      go_ret
      exact ⟨_, rfl, Hown.out, Hbw.out⟩
end Go.Proofs.YtmebpgggfppmhaaDoor
end
section
namespace Go.Proofs.YtmebpgggfppmhaaDoor
open Go.RowKit
set_option linter.unusedVariables false
set_option linter.unusedSimpArgs false

set_option maxRecDepth 100000 in
set_option maxHeartbeats 1000000 in
theorem rValidateFlagged_any (t : List T.Nd) (n ct : Nat) (At : Option Addr) (W : World) (hT : StAt 5 NdR W At n t) :
    Calls Tryd.prog 25 #[.slice At n ct] W fun e W' => e = .returned (.int .i64 (R.fvalid t)) ∧ Below W.heap.size W W' := by
  have HT := Lib.hid hT
  have hle := hT.le
  have hlen := hT.len
  have Hlen := Lib.hid hlen
  obtain ⟨r, hr⟩ : ∃ r, R.fvalid t = r := ⟨_, rfl⟩
  have Hv := Lib.hid (show r = if n < 1 ∨ 300 < n then 3 else if (t.all fun x => R.flOk x.op x.fl) = false then 1 else T.valid false t from by rw [← hr]; unfold R.fvalid; rw [hlen])
  rw [hr]
  clear hT hlen hr
  by_cases h1 : n < 1
  · have q1 : decide ((n : Int) < 1) = true := by simp; omega
    have He := Lib.hid (show r = 3 from by rw [Hv.out, if_pos (.inl h1)])
    clear h1
    go_enter Tryd.func25, Tryd.ntmps25
    go_wp2
    go_ret
    exact ⟨ret_int He.out.symm, Below.refl _ _⟩
  have q1 : decide ((n : Int) < 1) = false := by simp; omega
  by_cases h2 : 300 < n
  · have q2 : decide (300 < (n : Int)) = true := by simp; omega
    have He := Lib.hid (show r = 3 from by rw [Hv.out, if_pos (.inr h2)])
    clear h1 h2
    go_enter Tryd.func25, Tryd.ntmps25
    go_wp2
    go_ret
    exact ⟨ret_int He.out.symm, Below.refl _ _⟩
  have q2 : decide (300 < (n : Int)) = false := by simp; omega
  have Hv2 := Lib.hid (show r = if (t.all fun x => R.flOk x.op x.fl) = false then 1 else T.valid false t from by rw [Hv.out, if_neg (by omega)])
  clear h1 h2 Hv
  go_enter Tryd.func25, Tryd.ntmps25
  go_wp2
  go_loopg [3] (n + 1) (fun gg i wr => ∃ (j : Nat), j ≤ n ∧ i = .int .i64 (j : Int) ∧ gg + j = n + 1 ∧ Hid (Below W.heap.size W wr) ∧ Hid ((t.take j).all (fun x => R.flOk x.op x.fl) = true))
  case atStart => exact ⟨0, Nat.zero_le _, rfl, rfl, Lib.hid (Below.refl _ _), Lib.hid rfl⟩
  case round =>
    obtain ⟨j, hj, rfl, hgk, Hbw, Hall⟩ := hrel
    have Hgk := Lib.hid hgk; clear hgk
    by_cases hjn : j < n
    · obtain ⟨x, b, off, A, c, hx, rfl, hb, h0, h1, h2, h3, h4, hs, i0, i1⟩ := nd_cells HT.out hjn
      have hbel := Hbw.out
      have k0 := (hbel.cell (p := ⟨b, off + j * 5, none⟩) hb).trans h0
      have k1 := (hbel.cell (p := ⟨b, off + j * 5 + 1, none⟩) hb).trans h1
      have k2 := (hbel.cell (p := ⟨b, off + j * 5 + 2, none⟩) hb).trans h2
      have k3 := (hbel.cell (p := ⟨b, off + j * 5 + 3, none⟩) hb).trans h3
      have k4 := (hbel.cell (p := ⟨b, off + j * 5 + 4, none⟩) hb).trans h4
      have Hcall := Lib.hid (rflagsOf_any x A c wr)
      unfold ndV at Hcall
      have Hx := Lib.hid hx
      obtain ⟨f, hf⟩ : ∃ f, R.flOk x.op x.fl = f := ⟨_, rfl⟩
      rw [hf] at Hcall
      have Hf := Lib.hid hf
      clear hx h0 h1 h2 h3 h4 hb hs i0 i1 hbel hf
      cases f with
      | false =>
        have He := Lib.hid (show r = 1 from by
          rw [Hv2.out, if_pos]
          rw [List.all_eq_false]
          exact ⟨x, List.mem_of_getElem? Hx.out, by rw [Hf.out]; simp⟩)
        go_wp2_with fail
        (with_reducible refine Hcall.out.mono ?_)
        rintro e w3 ⟨rfl, hb3⟩
        have Hb3 := Lib.hid (Hbw.out.trans (hb3.mono Hbw.out.size))
        clear hb3 k0 k1 k2 k3 k4
        go_wp2
        go_ret
        exact ⟨ret_int He.out.symm, Hb3.out⟩
      | true =>
        have Ht := Lib.hid (show (t.take (j + 1)).all (fun x => R.flOk x.op x.fl) = true from by rw [take_next Hx.out, List.all_append, Hall.out]; simp [Hf.out])
        go_wp2_with fail
        (with_reducible refine Hcall.out.mono ?_)
        rintro e w3 ⟨rfl, hb3⟩
        have Hb3 := Lib.hid (Hbw.out.trans (hb3.mono Hbw.out.size))
        clear hb3 k0 k1 k2 k3 k4
        go_wp2
        go_roundg (gk - 1)
        case measure => have := Hgk.out; omega
        case rel =>
          have := Hgk.out
          exact ⟨j + 1, by omega, by go_num, by omega, Hb3, Ht⟩
    · obtain rfl : j = n := by omega
      have He := Lib.hid (show r = T.valid false t from by
        have := Hall.out
        rw [List.take_of_length_le (by rw [Hlen.out]; exact Nat.le_refl _)] at this
        rw [Hv2.out, if_neg (by rw [this]; simp)])
      have Hcall := Lib.hid (rChecked_any false t j ct At wr (HT.out.below monoNd Hbw.out))
      go_wp2_with fail
      (with_reducible refine Hcall.out.mono ?_)
      rintro e w3 ⟨rfl, hb3⟩
      have Hb3 := Lib.hid (Hbw.out.trans (hb3.mono Hbw.out.size))
      clear hb3
      go_wp2
      go_ret
      exact ⟨ret_int He.out.symm, Hb3.out⟩

/-- a block of nodes turns: what the operands are stays -/
theorem NdF.other' {B : Nat} {w w' : World} {us : List Value} {x : T.Nd} {row : Option Nat} (h : NdF B w us x) (hg : w.grownBy w' row) (hr : ∀ g cur T fr, row = some g → w.heap[g]? = some (.cells cur T fr) → T = 41) : NdF B w' us x := by
  obtain ⟨A, c, h1, h2, h3, h4, h5⟩ := h
  refine ⟨A, c, h1, h2.same fun g hg' => ?_, h3, h4, h5⟩
  rcases h2.2 with ⟨e, _⟩ | ⟨g', off, cap, cur, e, hcur, _⟩
  · rw [e] at hg'; simp [Value.ownBlock] at hg'
  · rw [e] at hg'
    simp [Value.ownBlock] at hg'
    subst hg'
    exact hg.block _ (Array.getElem?_eq_some_iff.1 hcur).1 (fun e => by have := hr _ cur _ _ e.symm hcur; revert this; decide)

/-- a node of an own list is put anew -/
theorem OwnR.put {B g off n c k : Nat} {w w' : World} {nds : List T.Nd} {cur cur' : Array Value} {y : T.Nd} {A2 : Option Addr} {c2 : Nat} (h : OwnR (NdF B) B w (.slice (some ⟨g, off, none⟩) n c) nds) (hn : nds.length = n) (hk : k < n) (hg : w.heap[g]? = some (.cells cur 41 (0, 0))) (hw : w.grownBy w' (some g)) (hrow : w'.heap[g]? = some (.cells cur' 41 (0, 0)))
    (hsz : cur'.size = cur.size) (hsame : ∀ j, (j < off + k * 5 ∨ off + k * 5 + 5 ≤ j) → cur'[j]? = cur[j]?) (hnew : ∀ i u, (ndC y A2 c2)[i]? = some u → cur'[off + k * 5 + i]? = some u) (hy : NdF B w' (ndC y A2 c2) y) :
    OwnR (NdF B) B w' (.slice (some ⟨g, off, none⟩) n c) (nds.set k y) := by
  subst hn
  obtain ⟨cells, h1, h2, h3⟩ := h
  have hcl := h1.1
  rcases h1.2 with ⟨e, _⟩ | ⟨g', off', cap, cur0, e, hg0, q1, q2, q3, q4⟩
  · cases e
  cases e
  rw [hg] at hg0
  cases hg0
  have hlen5 : (ndC y A2 c2).length = 5 := rfl
  have hks : k * 5 + 5 ≤ nds.length * 5 := by omega
  have hother : ∀ g' cur T fr, some g = some g' → w.heap[g']? = some (.cells cur T fr) → T = 41 := fun g' cur T fr e hc => by
    injection e with e
    subst e
    rw [hg] at hc
    injection hc with hc
    injection hc with _ hc _
    exact hc.symm
  have key : ∀ j, (cells.take (k * 5) ++ ndC y A2 c2 ++ cells.drop (k * 5 + 5))[j]? = if j < k * 5 then cells[j]? else if j < k * 5 + 5 then (ndC y A2 c2)[j - k * 5]? else cells[j]? := fun j => by
    by_cases j1 : j < k * 5
    · rw [if_pos j1, List.append_assoc, List.getElem?_append_left (by rw [List.length_take]; omega), List.getElem?_take, if_pos j1]
    · rw [if_neg j1]
      by_cases j2 : j < k * 5 + 5
      · rw [if_pos j2, List.append_assoc, List.getElem?_append_right (by rw [List.length_take]; omega), List.getElem?_append_left (by rw [List.length_take, hlen5]; omega), List.length_take, Nat.min_eq_left (by omega)]
      · rw [if_neg j2, List.getElem?_append_right (by rw [List.length_append, List.length_take, hlen5]; omega), List.length_append, List.length_take, hlen5, Nat.min_eq_left (by omega), List.getElem?_drop]
        congr 1
        omega
  refine ⟨cells.take (k * 5) ++ ndC y A2 c2 ++ cells.drop (k * 5 + 5), ⟨?_, .inr ⟨g, off, c, cur', by rw [List.length_set], hrow, by rw [List.length_set]; exact q1, q2, by rw [hsz]; exact q3, fun j u hu => ?_⟩⟩, fun i x hx => ?_, h3⟩
  · rw [List.length_set, List.length_append, List.length_append, List.length_take, List.length_drop, hlen5]; omega
  · rw [key] at hu
    split at hu
    · rename_i j1
      rw [hsame _ (.inl (by omega))]
      exact q4 j u hu
    · rename_i j1
      split at hu
      · rename_i j2
        have := hnew (j - k * 5) u hu
        rw [show off + k * 5 + (j - k * 5) = off + j by omega] at this
        exact this
      · rename_i j2
        rw [hsame _ (.inr (by omega))]
        exact q4 j u hu
  · have hkl : ∀ i, ((cells.take (k * 5) ++ ndC y A2 c2 ++ cells.drop (k * 5 + 5)).drop (i * 5)).take 5 = if i = k then ndC y A2 c2 else (cells.drop (i * 5)).take 5 := fun i => by
      apply List.ext_getElem?
      intro q
      rw [List.getElem?_take, List.getElem?_drop, key]
      by_cases hq : q < 5
      · rw [if_pos hq]
        by_cases hik : i = k
        · subst hik
          rw [if_pos rfl, if_neg (by omega), if_pos (by omega)]
          congr 1
          omega
        · rw [if_neg hik, List.getElem?_take, if_pos hq, List.getElem?_drop]
          by_cases hlt : i < k
          · rw [if_pos (by omega)]
          · rw [if_neg (by omega), if_neg (by omega)]
      · rw [if_neg hq]
        split
        · rw [List.getElem?_eq_none (by rw [hlen5]; omega)]
        · rw [List.getElem?_take, if_neg hq]
    rw [hkl]
    by_cases hik : i = k
    · subst hik
      rw [if_pos rfl]
      rw [List.getElem?_set, if_pos rfl, if_pos (by omega)] at hx
      cases hx
      exact hy
    · rw [if_neg hik]
      rw [List.getElem?_set_ne (fun e => hik e.symm)] at hx
      exact NdF.other' (h2 i x hx) hw hother
end Go.Proofs.YtmebpgggfppmhaaDoor
end
