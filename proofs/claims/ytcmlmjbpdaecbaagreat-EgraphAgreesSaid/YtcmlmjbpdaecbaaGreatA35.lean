/- Merged: QG19, QG20, QG21, QG22, QPlainEE, QG23. -/
import Derived.Test.YtcmlmjbpdaecbaaGreatA21
import Derived.Test.YtcmlmjbpdaecbaaGreatA07
import Derived.Test.YtcmlmjbpdaecbaaGreatA20
import Derived.Test.YtcmlmjbpdaecbaaGreatA14
set_option linter.unusedVariables false
set_option linter.unusedSimpArgs false
section
namespace Go.Proofs.YtcmlmjbpdaecbaaGreat
open Go.RowKit
set_option linter.unusedVariables false
set_option linter.unusedSimpArgs false

namespace T
def long (t : List Nd) : Bool := decide (400 < t.length) || t.any fun x => decide (20 < x.args.length)
end T

set_option maxRecDepth 100000 in
set_option maxHeartbeats 1000000 in
theorem Long_any (t : List T.Nd) (n ct : Nat) (At : Option Addr) (W : World) (hT : StAt 5 NdR W At n t) :
    Calls Tryz.prog 25 #[.slice At n ct] W fun e w' => e = .returned (.bool (T.long t)) ∧ W = w' := by
  have HT := Lib.hid hT
  have hle := hT.le
  have hln := hT.len
  by_cases h4 : 400 < n
  · have e : T.long t = true := by unfold T.long; rw [hln, decide_eq_true h4]; rfl
    rw [e]
    clear e hT hln
    go_enter Tryz.func25, Tryz.ntmps25
    go_wp2
    go_ret
    exact ⟨rfl, rfl⟩
  · have e : T.long t = t.any fun x => decide (20 < x.args.length) := by unfold T.long; rw [hln, decide_eq_false h4]; rfl
    rw [e]
    have Hln := Lib.hid hln
    obtain ⟨r, hr⟩ : ∃ r, r = t.any fun x => decide (20 < x.args.length) := ⟨_, rfl⟩
    rw [← hr]
    have Hr := Lib.hid hr
    clear e hT hln hr
    go_enter Tryz.func25, Tryz.ntmps25
    go_wp2
    go_loop [3] (fun i => ∃ j : Nat, j ≤ n ∧ i = .int .i64 (j : Int) ∧ Hid ((t.take j).any (fun x => decide (20 < x.args.length)) = false)) (fun i => n - (intOf i).toNat)
    case atStart => exact ⟨0, Nat.zero_le _, rfl, Lib.hid rfl⟩
    case round =>
      obtain ⟨j, hj, rfl, Hany⟩ := hrel
      by_cases hlt : j < n
      · obtain ⟨x, b, off, A, c, hx, rfl, hb, _, _, _, h3, _, hs, _, _⟩ := nd_cells HT.out hlt
        have hle3 := hs.le
        by_cases h20 : 20 < x.args.length
        · have Ht := Lib.hid (show r = true from by rw [Hr.out]; exact any_true_at hx (by simpa using h20))
          clear hx hs hb
          go_wp2
          go_ret
          exact ⟨by rw [Ht.out]; rfl, rfl⟩
        · have Ht := Lib.hid (show (t.take (j + 1)).any (fun x => decide (20 < x.args.length)) = false from any_take_step hx Hany.out (by simpa using h20))
          clear hx hs hb
          go_wp2
          go_round
          case rel => exact ⟨j + 1, by omega, by go_num, Ht⟩
          case measure => simp [intOf]; omega
      · obtain rfl : j = n := by omega
        have Ht := Lib.hid (show r = false from by
          have := Hany.out
          rw [List.take_of_length_le (by rw [Hln.out]; exact Nat.le_refl _)] at this
          rw [Hr.out]; exact this)
        go_wp2
        go_ret
        exact ⟨by rw [Ht.out]; rfl, rfl⟩
end Go.Proofs.YtcmlmjbpdaecbaaGreat
end
section
namespace Go.Proofs.YtcmlmjbpdaecbaaGreat
open Go.RowKit Go.MapKept Go.Maps Go.WideMaps
set_option linter.unusedVariables false
set_option linter.unusedSimpArgs false

/-- a variable plus 1 -/
def moreL (v : Int) : List T.Nd := [⟨33, 8, 0, [], v⟩, ⟨0, 8, 0, [], 1⟩, ⟨1, 8, 0, [0, 1], 0⟩]
theorem sl_none {W : World} : SlAt (IntR .i64) W none 0 [] := SlAt.nil_ none
theorem more_st {w : World} {g g' : Nat} {v : Int} (hv : 0 ≤ v ∧ v < 4294967296) (h : w.heap[g]? = some (.cells #[.int .i64 0, .int .i64 1] 3 (0, 0)))
    (h' : w.heap[g']? = some (.cells #[.int .i64 33, .int .i64 8, .int .i64 0, .slice none 0 0, .int .u32 v, .int .i64 0, .int .i64 8, .int .i64 0, .slice none 0 0, .int .u32 1, .int .i64 1, .int .i64 8, .int .i64 0, .slice (some ⟨g, 0, none⟩) 2 2, .int .u32 0] 63 (0, 0))) (m : Nat) (hm : m ≤ 3) :
    StAt 5 NdR w (some ⟨g', 0, none⟩) m ((moreL v).take m) := by
  have hlt := (Array.getElem?_eq_some_iff.1 h').1
  have hs : SlAt (IntR .i64) w (some ⟨g, 0, none⟩) 2 [0, 1] := sl_lit (l := [0, 1]) h rfl (by decide)
  refine ⟨by rw [List.length_take]; simp [moreL]; omega, by omega, fun k x hx => ?_⟩
  have hk : k < m := by have := (List.getElem?_eq_some_iff.1 hx).1; rw [List.length_take] at this; omega
  rw [List.getElem?_take_of_lt hk] at hx
  have cell : ∀ j, w.cell? ⟨g', j, none⟩ = _ := fun j => cell_of_row w g' j _ _ (0, 0) h'
  rcases (show k = 0 ∨ k = 1 ∨ k = 2 by omega) with rfl | rfl | rfl
  · cases hx
    refine ⟨g', 0, [.int .i64 33, .int .i64 8, .int .i64 0, .slice none 0 0, .int .u32 v], rfl, hlt, rfl, fun j u hu => ?_, none, 0, rfl, sl_none, hv⟩
    rw [cell]
    rcases j with _ | _ | _ | _ | _ | j
    all_goals first | exact hu | (simp at hu)
  · cases hx
    refine ⟨g', 0, [.int .i64 0, .int .i64 8, .int .i64 0, .slice none 0 0, .int .u32 1], rfl, hlt, rfl, fun j u hu => ?_, none, 0, rfl, sl_none, by decide, by decide⟩
    rw [cell]
    rcases j with _ | _ | _ | _ | _ | j
    all_goals first | exact hu | (simp at hu)
  · cases hx
    refine ⟨g', 0, [.int .i64 1, .int .i64 8, .int .i64 0, .slice (some ⟨g, 0, none⟩) 2 2, .int .u32 0], rfl, hlt, rfl, fun j u hu => ?_, some ⟨g, 0, none⟩, 2, rfl, hs, by decide, by decide⟩
    rw [cell]
    rcases j with _ | _ | _ | _ | _ | j
    all_goals first | exact hu | (simp at hu)

set_option maxRecDepth 100000 in
set_option maxHeartbeats 1000000 in
theorem more_any (v : Int) (hv : 0 ≤ v ∧ v < 4294967296) (W : World) :
    Calls Tryz.prog 32 #[.int .u32 v] W fun e W' => e = .returned (.slice (some ⟨W.heap.size + 1, 0, none⟩) 3 3) ∧ Below W.heap.size W W' ∧ ∀ m, m ≤ 3 → StAt 5 NdR W' (some ⟨W.heap.size + 1, 0, none⟩) m ((moreL v).take m) := by
  go_enter Tryz.func32, Tryz.ntmps32
  go_wp2
  go_ret
  exact ⟨rfl, ((Below.refl _ _).alloc (Nat.le_refl _) _).alloc (by simp) _, fun m hm => more_st hv (row_alloc (heap_alloc_new W _) _) (new_two W _ _) m hm⟩
end Go.Proofs.YtcmlmjbpdaecbaaGreat
end
section
namespace Go.Proofs.YtcmlmjbpdaecbaaGreat
open Go.RowKit Go.MapKept Go.Maps Go.WideMaps
set_option linter.unusedVariables false
set_option linter.unusedSimpArgs false

/-- a graph of the call's own -/
structure GS (W : World) (s : E.Gr) (b : Nat) (v1 v2 v3 v4 : Value) (kb : Nat) (w : World) : Prop where
  gr : GrC w b s.p s.wd s.es s.es s.nm s.vr v1 v2 v3 v4 kb
  ok : s.Ok
  owf : ∀ e ∈ s.es, OWf e.1
  bel : Below W.heap.size W w
  new : ∀ i, MG b v1 v2 v3 v4 kb i → W.heap.size ≤ i
section
variable {W w w' : World} {s : E.Gr} {b : Nat} {v1 v2 v3 v4 : Value} {kb : Nat}
theorem GS.below (h : GS W s b v1 v2 v3 v4 kb w) (hb : Below w.heap.size w w') : GS W s b v1 v2 v3 v4 kb w' := ⟨h.gr.below hb, h.ok, h.owf, h.bel.trans (hb.mono h.bel.size), h.new⟩
theorem GS.add (h : GS W s b v1 v2 v3 v4 kb w) {t : List T.Nd} {e : Ending} {s' : E.Gr} {no er : Int} {v1' v2' v3' v4' : Value} {kb' : Nat} (ha : GAdd w b s t v1 v2 v3 v4 kb e w' s' no er v1' v2' v3' v4' kb') : GS W s' b v1' v2' v3' v4' kb' w' :=
  ⟨ha.gr, ha.ok, ha.owf, h.bel.trans (ha.kp.below h.bel.size (fun i e => e ▸ h.new b (.inl rfl))), fun i hi => by
    rcases ha.new i hi with h1 | h1
    · exact h.new i h1
    · have := h.bel.size; omega⟩
theorem GS.uni (h : GS W s b v1 v2 v3 v4 kb w) {x y : Int} {e : Ending} {er : Int} {p1 : List Nat} {es1 : List (E.Opn × Nat)} {v3' : Value} {kb' : Nat} (hu : UniPost w b s.p s.wd s.es s.nm s.vr v1 v2 v3 v4 kb x y e w' er p1 es1 v3' kb') : GS W { s with p := p1, es := es1 } b v1 v2 v3' v4 kb' w' :=
  ⟨hu.gr, hu.ok, hu.owf, h.bel.trans (hu.kp.below h.bel.size h.new), fun i hi => by
    rcases hu.new i hi with h1 | h1
    · exact h.new i h1
    · have := h.bel.size; omega⟩
end

instance : DecidableEq E.Gr := fun a b =>
  decidable_of_iff (a.p = b.p ∧ a.wd = b.wd ∧ a.es = b.es ∧ a.nm = b.nm ∧ a.vr = b.vr) (by
    cases a; cases b; simp)

namespace E
def o0 : Opn := ⟨33, 8, 0, -1, -1, -1⟩
def o1 : Opn := ⟨33, 8, 1, -1, -1, -1⟩
def o2 : Opn := ⟨0, 8, 1, -1, -1, -1⟩
def o3 : Opn := ⟨1, 8, 0, 0, 2, -1⟩
def o4 : Opn := ⟨1, 8, 0, 1, 2, -1⟩
def k1 : Gr := ⟨[0], [8], [(o0, 0)], [0], ⟨8, 0, 0, 0⟩⟩
def k2 : Gr := ⟨[0, 1], [8, 8], [(o0, 0), (o1, 1)], [0, 1], ⟨8, 8, 0, 0⟩⟩
def k3 : Gr := ⟨[0, 1, 2, 3], [8, 8, 8, 8], [(o0, 0), (o1, 1), (o2, 2), (o3, 3)], [0, 1, 3], ⟨8, 8, 0, 0⟩⟩
def k4 : Gr := ⟨[0, 1, 2, 3, 4], [8, 8, 8, 8, 8], [(o0, 0), (o1, 1), (o2, 2), (o3, 3), (o4, 4)], [0, 1, 3, 4], ⟨8, 8, 0, 0⟩⟩
theorem addR_lit {s : Gr} {t L : List T.Nd} {s' : Gr} {no er : Int} {f : T.F} {r : Gr × Int × Int} (h : AddR s t s' no er) (hv : T.valid true t = 0) (hf : T.Rep t [((t.length - 1 : Nat) : Int)] f) (hL : T.canon f = L) (hr : s.addT L = r) : s' = r.1 ∧ no = r.2.1 ∧ er = r.2.2 := by
  rcases h with ⟨h1, _⟩ | ⟨_, g, hg, e⟩
  · exact absurd hv h1
  · have := hg.det hf
    subst this
    rw [hL, hr] at e
    rw [← e]
    exact ⟨rfl, rfl, rfl⟩
theorem rep_var (v : Int) : T.Rep [⟨33, 8, 0, [], v⟩] [0] (.cons 33 8 0 v .nil .nil) := .cons (x := ⟨33, 8, 0, [], v⟩) (by decide) rfl .nil .nil
theorem rep_more (v : Int) : T.Rep (moreL v) [2] (.cons 1 8 0 0 (.cons 33 8 0 v .nil (.cons 0 8 0 1 .nil .nil)) .nil) :=
  .cons (x := ⟨1, 8, 0, [0, 1], 0⟩) (by decide) rfl (.cons (x := ⟨33, 8, 0, [], v⟩) (by decide) rfl .nil (.cons (x := ⟨0, 8, 0, [], 1⟩) (by decide) rfl .nil .nil)) .nil
theorem step1 {s' : Gr} {no er : Int} (h : AddR Gr.new ((moreL 0).take 1) s' no er) : s' = k1 ∧ no = 0 ∧ er = 0 := addR_lit (r := (k1, 0, 0)) h (by decide +kernel) (rep_var 0) (L := (moreL 0).take 1) (by decide +kernel) (by decide +kernel)
theorem step2 {s' : Gr} {no er : Int} (h : AddR k1 ((moreL 1).take 1) s' no er) : s' = k2 ∧ no = 1 ∧ er = 0 := addR_lit (r := (k2, 1, 0)) h (by decide +kernel) (rep_var 1) (L := (moreL 1).take 1) (by decide +kernel) (by decide +kernel)
theorem step3 {s' : Gr} {no er : Int} (h : AddR k2 (moreL 0) s' no er) : s' = k3 ∧ no = 2 ∧ er = 0 := addR_lit (r := (k3, 2, 0)) h (by decide +kernel) (rep_more 0) (L := moreL 0) (by decide +kernel) (by decide +kernel)
theorem step4 {s' : Gr} {no er : Int} (h : AddR k3 (moreL 1) s' no er) : s' = k4 ∧ no = 3 ∧ er = 0 := addR_lit (r := (k4, 3, 0)) h (by decide +kernel) (rep_more 1) (L := moreL 1) (by decide +kernel) (by decide +kernel)
/-- the parents and operations when 0 and 1 are equal -/
theorem step5 {er : Int} {p1 : List Nat} {es1 : List (Opn × Nat)} (h : UniR k4.p k4.wd k4.es k4.nm 0 1 er p1 es1) : er = 0 ∧ p1 = [0, 0, 2, 3, 3] ∧ es1 = [(o0, 0), (o1, 0), (o2, 2), (o3, 3)] := by
  cases h with
  | none h => exact absurd h (by decide +kernel)
  | type h hw => exact absurd hw (by decide +kernel)
  | ok h hw hs hd =>
    have e : join k4.p (nr k4.p k4.nm 0) (nr k4.p k4.nm 1) = [0, 0, 2, 3, 4] := by decide +kernel
    rw [e] at hd
    have hd2 := hd.more_inv (by decide +kernel)
    have e1 : (pass [0, 0, 2, 3, 4] [] k4.es).1 = [0, 0, 2, 3, 3] := by decide +kernel
    have e2 : (pass [0, 0, 2, 3, 4] [] k4.es).2.1 = [(o0, 0), (o1, 0), (o2, 2), (o3, 3)] := by decide +kernel
    rw [e1, e2] at hd2
    obtain ⟨q1, q2⟩ := hd2.last_inv (by decide +kernel)
    refine ⟨rfl, q1.trans (by decide +kernel), q2.trans (by decide +kernel)⟩
end E
end Go.Proofs.YtcmlmjbpdaecbaaGreat
end
section
namespace Go.Proofs.YtcmlmjbpdaecbaaGreat
open Go.RowKit Go.MapKept Go.Maps Go.WideMaps
set_option linter.unusedVariables false
set_option linter.unusedSimpArgs false

theorem same_k4 : sameEnd E.k4.p E.k4.nm 2 3 = .returned (.tuple #[.bool false, .int .i64 0]) := by
  unfold sameEnd
  rw [if_pos (by decide +kernel), show decide (E.nr E.k4.p E.k4.nm 2 = E.nr E.k4.p E.k4.nm 3) = false by decide +kernel]
theorem same_k5 : sameEnd [0, 0, 2, 3, 3] E.k4.nm 2 3 = .returned (.tuple #[.bool true, .int .i64 0]) := by
  unfold sameEnd
  rw [if_pos (by decide +kernel), show decide (E.nr [0, 0, 2, 3, 3] E.k4.nm 2 = E.nr [0, 0, 2, 3, 3] E.k4.nm 3) = true by decide +kernel]
theorem roots_k5 : E.roots [0, 0, 2, 3, 3] = 3 := by decide +kernel

set_option maxRecDepth 100000 in
set_option maxHeartbeats 4000000 in
theorem known_any (W : World) : Calls Tryz.prog 9 #[] W fun e W' => e = .returned (.bool true) ∧ Below W.heap.size W W' := by
  have Hnew := Lib.hid (gNew_any W)
  go_enter Tryz.func9, Tryz.ntmps9
  go_wp2_with fail
  (with_reducible refine Hnew.out.mono ?_)
  rintro e w1 ⟨rfl, hg, hb⟩
  obtain ⟨b, hbe⟩ : ∃ b, b = W.heap.size + 1 := ⟨_, rfl⟩
  obtain ⟨kb, hke⟩ : ∃ kb, kb = W.heap.size := ⟨_, rfl⟩
  have Hs := Lib.hid (show GS W E.Gr.new b (.slice none 0 0) (.slice none 0 0) (.slice none 0 0) (.slice none 0 0) kb w1 from by
    rw [hbe, hke]
    refine ⟨hg, ⟨(fun c hc => by simp [E.Gr.new] at hc), rfl, (fun e he => by cases he), (fun e he => by cases he), (fun c hc => by cases hc)⟩, (fun e he => by cases he), hb, ?_⟩
    rintro i (rfl | rfl | e | e | e | e)
    · omega
    · exact Nat.le_refl _
    all_goals simp [Value.ownBlock] at e)
  rw [← hbe]
  clear hbe hke hg hb Hnew
  -- term 1
  have Hm := Lib.hid (more_any 0 (by decide) w1)
  go_wp2_with fail
  (with_reducible refine Hm.out.mono ?_)
  rintro e x1 ⟨rfl, hb2, hst⟩
  have Hs2 := Lib.hid (Hs.out.below hb2)
  have Ha := Lib.hid (gAdd_any (ct := 3) Hs2.out.gr Hs2.out.ok Hs2.out.owf (by decide) (by decide) (by decide) (hst 1 (by decide)))
  clear hb2 hst Hs Hm
  go_wp2_with fail
  (with_reducible refine Ha.out.mono ?_)
  rintro e w2 ⟨s', no, er, a1, a2, a3, a4, kb', ha⟩
  obtain ⟨rfl, rfl, rfl⟩ := E.step1 ha.told
  have hret := ha.ret
  subst hret
  have Hs := Lib.hid (Hs2.out.add ha)
  clear ha Hs2 Ha
  -- term 2
  have Hm := Lib.hid (more_any 1 (by decide) w2)
  go_wp2_with fail
  (with_reducible refine Hm.out.mono ?_)
  rintro e x2 ⟨rfl, hb2, hst⟩
  have Hs2 := Lib.hid (Hs.out.below hb2)
  have Ha := Lib.hid (gAdd_any (ct := 3) Hs2.out.gr Hs2.out.ok Hs2.out.owf (by decide) (by decide) (by decide) (hst 1 (by decide)))
  clear hb2 hst Hs Hm
  go_wp2_with fail
  (with_reducible refine Ha.out.mono ?_)
  rintro e w3 ⟨s', no, er, a1, a2, a3, a4, kb', ha⟩
  obtain ⟨rfl, rfl, rfl⟩ := E.step2 ha.told
  have hret := ha.ret
  subst hret
  have Hs := Lib.hid (Hs2.out.add ha)
  clear ha Hs2 Ha
  -- term 3
  have Hm := Lib.hid (more_any 0 (by decide) w3)
  go_wp2_with fail
  (with_reducible refine Hm.out.mono ?_)
  rintro e x3 ⟨rfl, hb2, hst⟩
  have Hs2 := Lib.hid (Hs.out.below hb2)
  have Ha := Lib.hid (gAdd_any (ct := 3) Hs2.out.gr Hs2.out.ok Hs2.out.owf (by decide) (by decide) (by decide) (hst 3 (by decide)))
  clear hb2 hst Hs Hm
  go_wp2_with fail
  (with_reducible refine Ha.out.mono ?_)
  rintro e w4 ⟨s', no, er, a1, a2, a3, a4, kb', ha⟩
  obtain ⟨rfl, rfl, rfl⟩ := E.step3 ha.told
  have hret := ha.ret
  subst hret
  have Hs := Lib.hid (Hs2.out.add ha)
  clear ha Hs2 Ha
  -- term 4
  have Hm := Lib.hid (more_any 1 (by decide) w4)
  go_wp2_with fail
  (with_reducible refine Hm.out.mono ?_)
  rintro e x4 ⟨rfl, hb2, hst⟩
  have Hs2 := Lib.hid (Hs.out.below hb2)
  have Ha := Lib.hid (gAdd_any (ct := 3) Hs2.out.gr Hs2.out.ok Hs2.out.owf (by decide) (by decide) (by decide) (hst 3 (by decide)))
  clear hb2 hst Hs Hm
  go_wp2_with fail
  (with_reducible refine Ha.out.mono ?_)
  rintro e w5 ⟨s', no, er, a1, a2, a3, a4, kb', ha⟩
  obtain ⟨rfl, rfl, rfl⟩ := E.step4 ha.told
  have hret := ha.ret
  subst hret
  have Hs := Lib.hid (Hs2.out.add ha)
  clear ha Hs2 Ha
  -- not yet one class
  have Hsm := Lib.hid (gSame_any Hs.out.gr Hs.out.ok 2 3)
  go_wp2_with fail
  (with_reducible refine Hsm.out.mono ?_)
  rintro e w6 ⟨hb6, rfl⟩
  rw [same_k4]
  have Hs6 := Lib.hid (Hs.out.below hb6)
  clear hb6 Hs Hsm
  have Hun := Lib.hid (gUnion_any Hs6.out.gr Hs6.out.ok Hs6.out.owf (by decide) (by decide) 0 1)
  go_wp2_with fail
  (with_reducible refine Hun.out.mono ?_)
  rintro e w7 ⟨er, p1, es1, v3', kb2, hu⟩
  have hret := hu.ret
  subst hret
  have Hs7 := Hs6.out.uni hu
  obtain ⟨rfl, rfl, rfl⟩ := E.step5 hu.told
  have Hs7 := Lib.hid Hs7
  clear hu Hs6 Hun
  have Hsm := Lib.hid (gSame_any Hs7.out.gr Hs7.out.ok 2 3)
  go_wp2_with fail
  (with_reducible refine Hsm.out.mono ?_)
  rintro e w8 ⟨hb8, he8⟩
  have he8' : e = .returned (.tuple #[.bool true, .int .i64 0]) := he8.trans same_k5
  subst he8'
  have Hs8 := Lib.hid (Hs7.out.below hb8)
  clear hb8 he8 Hs7 Hsm
  have Hcl := Lib.hid (gClasses_any Hs8.out.gr Hs8.out.ok.down (by decide))
  go_wp2_with fail
  (with_reducible refine Hcl.out.mono ?_)
  rintro e w9 ⟨he9, hb9⟩
  have he9' : e = .returned (.int .i64 3) := he9.trans (congrArg (fun n : Nat => Ending.returned (.int .i64 (n : Int))) roots_k5)
  subst he9'
  have Hs9 := Lib.hid (Hs8.out.below hb9)
  clear hb9 he9 Hs8 Hcl
  have Hno := Lib.hid (gNodes_any Hs9.out.gr)
  go_wp2_with fail
  (with_reducible refine Hno.out.mono ?_)
  rintro e w10 ⟨he10, rfl⟩
  have he10' : e = .returned (.int .i64 4) := he10
  subst he10'
  go_wp2
  go_ret
  exact ⟨rfl, Hs9.out.bel⟩
end Go.Proofs.YtcmlmjbpdaecbaaGreat
end
section
namespace Go.Proofs.YtcmlmjbpdaecbaaGreat
set_option linter.unusedVariables false
set_option linter.unusedSimpArgs false
namespace E
open T

/-- all pairs in range, the other way round -/
def back (n : Nat) (D : List (Int × Int)) : List (Int × Int) := (D.reverse.filter fun q => decide (0 ≤ q.1) && decide (q.1 < (n : Int)) && decide (0 ≤ q.2) && decide (q.2 < (n : Int))).map fun q => ((n : Int) - 1 - q.1, (n : Int) - 1 - q.2)
end E
end Go.Proofs.YtcmlmjbpdaecbaaGreat
end
section
namespace Go.Proofs.YtcmlmjbpdaecbaaGreat
open Go.RowKit Go.MapKept Go.Maps Go.WideMaps
set_option linter.unusedVariables false
set_option linter.unusedSimpArgs false

/-- a graph of the call's own, with its blocks -/
def Gx (W : World) (s : E.Gr) (b : Nat) (M : Nat → Prop) (w : World) : Prop := ∃ v1 v2 v3 v4 kb, GS W s b v1 v2 v3 v4 kb w ∧ M = MG b v1 v2 v3 v4 kb
section
variable {W w w' : World} {s s' : E.Gr} {b : Nat} {M M' : Nat → Prop}
theorem Gx.lt (h : Gx W s b M w) : ∀ i, M i → i < w.heap.size := by
  obtain ⟨v1, v2, v3, v4, kb, h1, rfl⟩ := h
  exact h1.gr.lt
theorem Gx.bel (h : Gx W s b M w) : Below W.heap.size W w := let ⟨_, _, _, _, _, h1, _⟩ := h; h1.bel
theorem Gx.ok (h : Gx W s b M w) : s.Ok := let ⟨_, _, _, _, _, h1, _⟩ := h; h1.ok
theorem Gx.frame (h : Gx W s b M w) (hb : Below W.heap.size W w') (hs : ∀ i, M i → w'.heap[i]? = w.heap[i]?) : Gx W s b M w' := by
  obtain ⟨v1, v2, v3, v4, kb, h1, rfl⟩ := h
  exact ⟨v1, v2, v3, v4, kb, ⟨h1.gr.frame hs, h1.ok, h1.owf, hb, h1.new⟩, rfl⟩
theorem Gx.below (h : Gx W s b M w) (hb : Below w.heap.size w w') : Gx W s b M w' := h.frame (h.bel.trans (hb.mono h.bel.size)) fun i hi => hb.block i (h.lt i hi)

theorem Gx.uni (h : Gx W s b M w) (hp : s.p.length ≤ 800000) (he : s.es.length ≤ 800000) (x y : Int) :
    Calls Tryz.prog 29 #[.pointer (some ⟨b, 0, none⟩), .int .i64 x, .int .i64 y] w fun e w' => ∃ er p1 es1 M', e = .returned (.int .i64 er) ∧ UniR s.p s.wd s.es s.nm x y er p1 es1 ∧ Gx W { s with p := p1, es := es1 } b M' w' ∧ Kpm M w w' ∧ (∀ i, M' i → M i ∨ w.heap.size ≤ i) ∧ p1.length = s.p.length ∧ es1.length ≤ s.es.length := by
  obtain ⟨v1, v2, v3, v4, kb, h1, rfl⟩ := h
  refine (gUnion_any h1.gr h1.ok h1.owf (by omega) (by omega) x y).mono ?_
  rintro e w' ⟨er, p1, es1, v3', k', ha⟩
  exact ⟨er, p1, es1, _, ha.ret, ha.told, ⟨v1, v2, v3', v4, k', h1.uni ha, rfl⟩, ha.kp, ha.new, ha.len, ha.le⟩
theorem Gx.same (h : Gx W s b M w) (x y : Int) : Calls Tryz.prog 24 #[.pointer (some ⟨b, 0, none⟩), .int .i64 x, .int .i64 y] w fun e w' => Below w.heap.size w w' ∧ e = sameEnd s.p s.nm x y := by
  obtain ⟨v1, v2, v3, v4, kb, h1, rfl⟩ := h
  exact gSame_any h1.gr h1.ok x y
theorem Gx.classes (h : Gx W s b M w) (hp : s.p.length ≤ 800000) : Calls Tryz.prog 21 #[.pointer (some ⟨b, 0, none⟩)] w fun e w' => e = .returned (.int .i64 (E.roots s.p : Nat)) ∧ Below w.heap.size w w' := by
  obtain ⟨v1, v2, v3, v4, kb, h1, rfl⟩ := h
  exact gClasses_any h1.gr h1.ok.down (by omega)
theorem Gx.nodes (h : Gx W s b M w) : Calls Tryz.prog 22 #[.pointer (some ⟨b, 0, none⟩)] w fun e w' => e = .returned (.int .i64 (s.es.length : Nat)) ∧ w' = w := by
  obtain ⟨v1, v2, v3, v4, kb, h1, rfl⟩ := h
  exact gNodes_any h1.gr
end

theorem Gx.new_ {W w : World} (hb : Below W.heap.size W w) : Calls Tryz.prog 30 #[] w fun e w' => ∃ b M, e = .returned (.pointer (some ⟨b, 0, none⟩)) ∧ Gx W E.Gr.new b M w' ∧ Below w.heap.size w w' ∧ ∀ i, M i → w.heap.size ≤ i := by
  refine (gNew_any w).mono ?_
  rintro e w' ⟨rfl, hg, hb2⟩
  have hnew : ∀ i, MG (w.heap.size + 1) (.slice none 0 0) (.slice none 0 0) (.slice none 0 0) (.slice none 0 0) w.heap.size i → w.heap.size ≤ i := by
    rintro i (rfl | rfl | e | e | e | e)
    · omega
    · exact Nat.le_refl _
    all_goals simp [Value.ownBlock] at e
  refine ⟨_, _, rfl, ⟨_, _, _, _, _, ⟨hg, ⟨(fun c hc => by simp [E.Gr.new] at hc), rfl, (fun e he => by cases he), (fun e he => by cases he), (fun c hc => by cases hc)⟩, (fun e he => by cases he), hb.trans (hb2.mono hb.size), fun i hi => Nat.le_trans hb.size (hnew i hi)⟩, rfl⟩, hb2, hnew⟩

section
variable {W w w' : World} {sg sh : E.Gr} {bg bh : Nat}
theorem gp_new (W : World) : Calls Tryz.prog 30 #[] W fun e w => ∃ b M, e = .returned (.pointer (some ⟨b, 0, none⟩)) ∧ Gx W E.Gr.new b M w :=
  (Gx.new_ (Below.refl _ W)).mono fun e w' ⟨b, M, h1, h2, _, _⟩ => ⟨b, M, h1, h2⟩
end

namespace E
end E
end Go.Proofs.YtcmlmjbpdaecbaaGreat
end
