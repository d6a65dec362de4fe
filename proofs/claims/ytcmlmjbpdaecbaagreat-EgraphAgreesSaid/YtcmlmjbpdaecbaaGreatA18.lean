/- Merged: QS5, QG13, QG14. -/
import Derived.Test.YtcmlmjbpdaecbaaGreatA17
set_option linter.unusedVariables false
set_option linter.unusedSimpArgs false
section
namespace Go.Proofs.YtcmlmjbpdaecbaaGreat
open Go.RowKit Go.MapKept Go.Maps Go.WideMaps
set_option linter.unusedVariables false
set_option linter.unusedSimpArgs false

theorem made_add (ks : List (Nat × Obj)) (W0 : World) (bb : Nat) : MadeOk ks 151 #[.pointer (some ⟨bb, 0, none⟩)] #[] T.mkA (fun _ => True) 1 W0 bb 900000 := by
  refine ⟨enters_of Tryz.func151 (by kernel_rfl) rfl, fun X out M x A c hb hbu harg hx _ hnd hord hlo hlen _ => ?_⟩
  refine (gadd_any W0.heap.size bb out M x A c X hbu hb.size harg hx hlen).mono ?_
  rintro e w' ⟨h1, h2⟩
  exact ⟨h1, T.addN_len, h2⟩

/-- a builder that is made anew, with a map of what was seen -/
theorem from_start {mk : T.Nd → List T.Nd → List T.Nd × Int} {t : List T.Nd} {g : Nat} {W X : World} (hX : X = (W.alloc (.cells #[.slice none 0 0, .map none] 220)).alloc (.map #[] 0)) :
    FromSt [] mk t g 0 W W.heap.size (W.heap.size + 1) X [] (fun i => i = W.heap.size) [] := by
  have hr : X.heap[W.heap.size]? = some (.cells #[.slice none 0 0, .map none] 220 (0, 0)) := by rw [hX]; exact row_alloc (heap_alloc_new W _) _
  have hs : X.heap.size = W.heap.size + 2 := by rw [hX]; simp
  have hm : MapAt Tryz.prog 3 ekI IntI X (W.heap.size + 1) [] := by
    have := MapAt.made (P := Tryz.prog) (kt := 3) (ek := ekI) (R := IntI) (W.alloc (.cells #[.slice none 0 0, .map none] 220))
    rw [← hX] at this
    simpa using this
  refine ⟨by rw [hX]; exact ((Below.refl _ _).alloc (Nat.le_refl _) _).alloc (by simp) _, ⟨fun i hi => by subst hi; omega, rfl, fun x hx => by simp at hx, _, _, hr, OwnM.nil_ _ _, .inl ⟨rfl, rfl⟩⟩, by omega, by omega, hm, fun k n h => by simp [AL.get] at h, fun p hp => by simp at hp, List.nodup_nil, T.ord_nil, by simp, fun p hp => by simp at hp⟩

set_option maxRecDepth 100000 in
set_option maxHeartbeats 1000000 in
theorem gpart_any {t : List T.Nd} {n ct : Nat} {At : Option Addr} {W : World} (hT : StAt 5 NdR W At n t) (hw : TWf t) (hn : n ≤ 900000) (k : Nat) (hk : k < n) (fr : T.F) (hfr : T.Rep t [(k : Int)] fr) :
    Calls Tryz.prog 110 #[.slice At n ct, .int .i64 (k : Int)] W fun e W' => ∃ A' c', e = .returned (.slice A' (T.canon fr).length c') ∧ StAt 5 NdR W' A' (T.canon fr).length (T.canon fr) ∧ Below W.heap.size W W' ∧ ∀ W'', (∀ i, W.heap.size ≤ i → i < W'.heap.size → W''.heap[i]? = W'.heap[i]?) → StAt 5 NdR W'' A' (T.canon fr).length (T.canon fr) := by
  obtain ⟨X, hX⟩ : ∃ X, X = (W.alloc (.cells #[.slice none 0 0, .map none] 220)).alloc (.map #[] 0) := ⟨_, rfl⟩
  have hmk := fun W => run_makeMap_any (P := Tryz.prog) Tryz.underlying122 W
  have hst := from_start (mk := T.mkA) (t := t) (g := 1) hX
  have Hcall := Lib.hid (gfrom_any (D := fun _ => True) hT hw (fun _ _ _ => trivial) (made_add [] W W.heap.size) T.mkA_ok (base := 0) (by omega) (by omega) (by omega) k hk (ct := ct) X (W.heap.size + 1) [] _ [] hst fr hfr)
  have HX := Lib.hid hX
  clear hT hw hst hfr
  go_enter Tryz.func110, Tryz.ntmps110
  go_wp2_with fail
  rw [← hX]
  clear hX hmk
  (with_reducible refine Hcall.out.mono ?_)
  rintro e w2 ⟨r, M', l', rfl, hr, hst, hkp, _, _, _⟩
  have hcn : (T.cnnG T.mkA fr []).1 = T.canon fr := by rw [T.cnnG_A]; rfl
  rw [hcn] at hst
  obtain ⟨v, fm, hrow, hown, _⟩ := hst.bu.cells
  obtain ⟨A', c', rfl⟩ := hown.form
  have k0 : w2.cell? ⟨W.heap.size, 0, none⟩ = some (.slice A' (T.canon fr).length c') := by rw [cell_of_row _ _ _ _ _ (0, 0) hrow]; rfl
  have Hown := Lib.hid hown
  have Hb := Lib.hid hst.bel
  have HM := Lib.hid hst.bu.in_
  clear hrow hown hst hkp hr hcn
  go_wp2
  go_ret
  exact ⟨A', c', rfl, Hown.out.stAt rfl, Hb.out, fun W'' h => OwnM.stAt (Hown.out.same fun i hi => h i (HM.out i hi).1 (HM.out i hi).2) rfl⟩
end Go.Proofs.YtcmlmjbpdaecbaaGreat
end
section
namespace Go.Proofs.YtcmlmjbpdaecbaaGreat
open Go.RowKit Go.MapKept Go.Maps Go.WideMaps
set_option linter.unusedVariables false
set_option linter.unusedSimpArgs false

/-- up to three numbers laid over the last three cells of a row -/
theorem copy3 {T : TypeId} {v0 v1 v2 : Value} {l : List Int} (hl : l.length ≤ 3) {A : Option Addr} {c : Nat} {w : World} {g : Nat} (hA : SlAt (IntR .i64) w A l.length l) (hg : w.heap[g]? = some (.cells #[v0, v1, v2, .int .i64 (-1), .int .i64 (-1), .int .i64 (-1)] T (0, 0))) (o : TypeId) :
    ∃ w', (Builtin.copy_ #[60, 60] o #[.slice (some ⟨g, 3, none⟩) 3 3, .slice A l.length c]).run Tryz.prog w = .ok (.int .i64 (l.length : Int)) w' ∧
      w.grownBy w' (some g) ∧ w'.heap.size = w.heap.size ∧ w'.heap[g]? = some (.cells #[v0, v1, v2, .int .i64 (l.getD 0 (-1)), .int .i64 (l.getD 1 (-1)), .int .i64 (l.getD 2 (-1))] T (0, 0)) := by
  cases A with
  | none =>
    have hn : l = [] := by
      cases h : l with
      | nil => rfl
      | cons a m =>
        obtain ⟨b, off, u, e, _⟩ := hA.2.2 0 a (by rw [h]; rfl)
        cases e
    subst hn
    refine ⟨w, ?_, ⟨rfl, rfl, rfl, Nat.le_refl _, fun _ _ _ => rfl⟩, rfl, ?_⟩
    · simp [Builtin.copy_, run_underlying Tryz.underlying60, Builtin.lenOf, Builtin.firstCells, storeCells]
      rfl
    · rw [hg]; simp
  | some a =>
    obtain ⟨us, hul, husrc, hur⟩ := hA.cells
    have huc : ∀ j v, us[j]? = some v → w.cell? (a.add j) = some v := fun j v hv => by
      obtain ⟨ad, e, hc⟩ := husrc j v hv
      cases e
      exact hc
    have hus : us = l.map (Value.int .i64) := by
      apply List.ext_getElem?
      intro i
      rw [List.getElem?_map]
      cases h : us[i]? with
      | none =>
        rw [List.getElem?_eq_none_iff] at h
        rw [List.getElem?_eq_none (by omega)]; rfl
      | some u =>
        have hi : i < l.length := by rw [← hul]; exact (List.getElem?_eq_some_iff.1 h).1
        rw [List.getElem?_eq_getElem hi]
        exact congrArg some (hur i _ u (List.getElem?_eq_getElem hi) h)
    have hrun := run_copy_row (P := Tryz.prog) w 60 60 o 3 g 3 3 3 a l.length c _ _ us Tryz.underlying60 infoInt1 hg (by rw [hul]; exact (Nat.min_eq_left hl).symm) huc (by simp; omega) (by
      rw [hus]; intro u hu; obtain ⟨n, _, rfl⟩ := List.mem_map.1 hu; rfl)
    rw [hul] at hrun
    refine ⟨_, hrun, ⟨rfl, rfl, rfl, by simp, fun k _ hk => setRow_other w g k _ (fun e => hk (by rw [e]))⟩, by simp, ?_⟩
    rw [setRow_heap w g _ _ _ _ hg, hus]
    rcases l with _ | ⟨a0, _ | ⟨a1, _ | ⟨a2, _ | ⟨a3, l⟩⟩⟩⟩
    · rfl
    · rfl
    · rfl
    · rfl
    · simp at hl

/-- the operation of a node over numbers -/
def opL (x : T.Nd) (l : List Int) : E.Opn := ⟨x.op, x.w, x.imm, l.getD 0 (-1), l.getD 1 (-1), l.getD 2 (-1)⟩

set_option maxRecDepth 100000 in
set_option maxHeartbeats 2000000 in
theorem goperationOf_any {x : T.Nd} {Ax : Option Addr} {cx : Nat} {l : List Int} {A : Option Addr} {c : Nat} {W : World} (hl : l.length ≤ 3) (hA : SlAt (IntR .i64) W A l.length l) :
    Calls Tryz.prog 68 #[ndV x Ax cx, .slice A l.length c] W fun e W' => e = .returned (opV (opL x l)) ∧ Below W.heap.size W W' := by
  obtain ⟨W3, hW3⟩ : ∃ W3, W3 = ((W.alloc (.cells #[.int .i64 x.op, .int .i64 x.w, .int .i64 x.fl, .slice Ax x.args.length cx, .int .u32 x.imm] 63)).alloc (.cells #[.int .i64 0, .int .i64 0, .int .u32 0, .int .i64 0, .int .i64 0, .int .i64 0] 85)).alloc (.cells #[.int .i64 x.op, .int .i64 x.w, .int .u32 x.imm, .int .i64 (-1), .int .i64 (-1), .int .i64 (-1)] 85) := ⟨_, rfl⟩
  have hb3 : Below W.heap.size W W3 := by rw [hW3]; exact (((Below.refl _ _).alloc (Nat.le_refl _) _).alloc (by simp) _).alloc (by simp; omega) _
  have hr1 : W3.heap[W.heap.size + 1]? = some (.cells #[.int .i64 0, .int .i64 0, .int .u32 0, .int .i64 0, .int .i64 0, .int .i64 0] 85 (0, 0)) := by rw [hW3]; exact row_alloc (new_two W _ _) _
  have hr2 : W3.heap[W.heap.size + 1 + 1]? = some (.cells #[.int .i64 x.op, .int .i64 x.w, .int .u32 x.imm, .int .i64 (-1), .int .i64 (-1), .int .i64 (-1)] 85 (0, 0)) := by
    have := new_two (W.alloc (.cells #[.int .i64 x.op, .int .i64 x.w, .int .i64 x.fl, .slice Ax x.args.length cx, .int .u32 x.imm] 63)) (.cells #[.int .i64 0, .int .i64 0, .int .u32 0, .int .i64 0, .int .i64 0, .int .i64 0] 85) (.cells #[.int .i64 x.op, .int .i64 x.w, .int .u32 x.imm, .int .i64 (-1), .int .i64 (-1), .int .i64 (-1)] 85)
    rw [hW3]
    simpa using this
  have HA := Lib.hid hA
  have Hb3 := Lib.hid hb3
  have Hr1 := Lib.hid hr1
  have Hr2 := Lib.hid hr2
  clear hA hb3 hr1 hr2
  unfold ndV
  go_enter Tryz.func68, Tryz.ntmps68
  go_upto_region 2 with (fail)
  rw [← hW3]
  clear hW3
  obtain ⟨w4, hcopy, hgr, hsz, hkrow⟩ := copy3 hl (c := c) (HA.out.below (monoInt _) Hb3.out) Hr2.out 3
  have hne : W.heap.size + 1 ≠ W.heap.size + 1 + 1 := by omega
  have hr1 : w4.heap[W.heap.size + 1]? = _ := grown_row hgr Hr1.out (fun e => by injection e with e; omega)
  have Hr1' := Lib.hid hr1
  have Hb4 := Lib.hid (Hb3.out.grown hgr Hb3.out.size (fun g hg => by cases hg; omega))
  obtain ⟨y0, y1, y2, y3, y4, y5⟩ := op6_cells hkrow
  have f0 := frozen_row hr1 0
  have f1 := frozen_row hr1 1
  have f2 := frozen_row hr1 2
  have f3 := frozen_row hr1 3
  have f4 := frozen_row hr1 4
  have f5 := frozen_row hr1 5
  obtain ⟨z0, z1, z2, z3, z4, z5⟩ := op6_cells hr1
  clear hgr hsz hkrow hr1 Hr1 Hr2 Hb3 HA
  go_wp2
  refine bodyPost_ret (results_cell_row rfl _ _ (W.heap.size + 1) 85 (opC (opL x l)) (0, 0) _ rfl (set6_row Hr1'.out _ _ _ _ _ _) Tryz.underlying85 rfl (by kernel_rfl)) rfl ?_
  exact ⟨rfl, set6_below Hb4.out (by omega) _ _ _ _ _ _⟩
end Go.Proofs.YtcmlmjbpdaecbaaGreat
end
section
namespace Go.Proofs.YtcmlmjbpdaecbaaGreat
open Go.RowKit
set_option linter.unusedVariables false
set_option linter.unusedSimpArgs false

theorem slice_nil_equalIn {P : Program} {t e : TypeId} (ht : P.underlying t = some (.slice e)) (A : Option Addr) (n c : Nat) (w : World) (d : Nat) : (Op.equalIn (d + 1) t (.slice A n c) (.slice none 0 0)).run P w = .ok A.isNone w := by
  cases A <;> simp [Op.equalIn, run_underlying ht]
theorem slice_nil_eq {P : Program} {t e : TypeId} (ht : P.underlying t = some (.slice e)) (A : Option Addr) (n c : Nat) (w : World) : (binOp .eql t (.slice A n c) (.slice none 0 0)).run P w = .ok (.bool A.isNone) w := by
  have h := slice_nil_equalIn ht A n c w 9999
  simp only [binOp]
  simp [Op.equal, show (Op.equalIn Op.maxDepth t (.slice A n c) (.slice none 0 0)).run P w = _ from h]

/-- a clone: the same cells, in new memory -/
def Cloned (e : TypeId) (s : Nat) (W : World) (n : Nat) (us : List Value) (en : Ending) (W' : World) : Prop :=
  ∃ v, en = .returned v ∧ OwnAt W' e s v n us ∧ Below W.heap.size W W' ∧ ∀ g, v.ownBlock = some g → W.heap.size ≤ g

theorem ownAt_empty (W : World) (e : TypeId) (s : Nat) : OwnAt (W.alloc (.cells #[] e)) e s (.slice (some ⟨W.heap.size, 0, none⟩) 0 0) 0 [] := ⟨by simp, .inr ⟨W.heap.size, 0, 0, #[], rfl, heap_alloc_new W _, Nat.le_refl _, by simp [maxLen], by simp, fun j u h => by simp at h⟩⟩

set_option maxRecDepth 100000 in
set_option maxHeartbeats 1000000 in
theorem cloneI_any {A : Option Addr} {n c : Nat} {us : List Value} {W : World} (hl : us.length = n * 1) (hsrc : ∀ j u, us[j]? = some u → ∃ ad : Addr, A = some ad ∧ W.cell? (ad.add j) = some u) (h1 : ∀ u ∈ us, u.oneCell' = true) (hlt : ∀ ad, us ≠ [] → A = some ad → ad.block < W.heap.size) (hn : n ≤ 900000000) :
    Calls Tryz.prog 92 #[.slice A n c] W (Cloned 3 1 W n us) := by
  have q0 := slice_nil_eq Tryz.underlying60 A n c W
  cases A with
  | none =>
    have hu : us = [] := by
      cases us with
      | nil => rfl
      | cons u l => obtain ⟨ad, e, _⟩ := hsrc 0 u rfl; cases e
    subst hu
    obtain rfl : n = 0 := by simp only [List.length_nil] at hl; omega
    rw [show (none : Option Addr).isNone = true from rfl] at q0
    clear hsrc h1 hlt hl
    go_enter Tryz.func92, Tryz.ntmps92
    go_wp2
    go_ret
    exact ⟨_, rfl, OwnAt.nil_ _ _ _, Below.refl _ _, fun g h => by simp [Value.ownBlock] at h⟩
  | some a =>
    rw [show (some a : Option Addr).isNone = false from rfl] at q0
    have Hsrc := Lib.hid (show ∀ j u, us[j]? = some u → ∃ ad : Addr, (some a : Option Addr) = some ad ∧ (W.alloc (.cells #[] 3)).cell? (ad.add j) = some u from fun j u hu => by
      obtain ⟨ad, e, hc⟩ := hsrc j u hu
      cases e
      refine ⟨a, rfl, ?_⟩
      have hb : a.block < W.heap.size := hlt a (fun e => by rw [e] at hu; simp at hu) rfl
      have hbl : (a.add j).block = a.block := by unfold Addr.add; split <;> rfl
      unfold World.cell? at hc ⊢
      rw [Below.heap_alloc W _ _ (by rw [hbl]; exact hb)]
      exact hc)
    have H1 := Lib.hid h1
    have Hl := Lib.hid hl
    clear hsrc h1 hlt hl
    have hn2 : 0 + n ≤ 1000000000 := by omega
    go_enter Tryz.func92, Tryz.ntmps92
    go_wp2_with (at_builtin; refine wpList_append_src _ rfl (.tmp 5) (.tmp 6) 60 rfl 3 (.int .i64 0) 1 8 Tryz.underlying60 infoInt rfl (by decide) (.slice (some ⟨W.heap.size, 0, none⟩) 0 0) 0 [] rfl (ownAt_empty W 3 1) (some a) n c us rfl Hl.out Hsrc.out H1.out hn2 (by decide) ?_; intro v' w3 hown' hgr hat; have Hown := Lib.hid hown'; have Hgr := Lib.hid hgr; have Hat := Lib.hid hat; clear hown' hgr hat)
    go_ret
    have hb : Below W.heap.size W (W.alloc (.cells #[] 3)) := (Below.refl _ _).alloc (Nat.le_refl _) _
    refine ⟨v', rfl, ?_, hb.grown Hgr.out hb.size (fun g hg => by simp [Value.ownBlock] at hg; omega), fun g hg => ?_⟩
    · have := Hown.out
      rw [Nat.zero_add, List.nil_append] at this
      exact this
    · rcases Hat.out with e | e
      · rw [e] at hg; simp [Value.ownBlock] at hg; omega
      · rw [e] at hg; simp at hg; omega

set_option maxRecDepth 100000 in
set_option maxHeartbeats 1000000 in
theorem cloneE_any {A : Option Addr} {n c : Nat} {us : List Value} {W : World} (hl : us.length = n * 7) (hsrc : ∀ j u, us[j]? = some u → ∃ ad : Addr, A = some ad ∧ W.cell? (ad.add j) = some u) (h1 : ∀ u ∈ us, u.oneCell' = true) (hlt : ∀ ad, us ≠ [] → A = some ad → ad.block < W.heap.size) (hn : n ≤ 900000000) :
    Calls Tryz.prog 93 #[.slice A n c] W (Cloned 87 7 W n us) := by
  have q0 := slice_nil_eq Tryz.underlying76 A n c W
  cases A with
  | none =>
    have hu : us = [] := by
      cases us with
      | nil => rfl
      | cons u l => obtain ⟨ad, e, _⟩ := hsrc 0 u rfl; cases e
    subst hu
    obtain rfl : n = 0 := by simp only [List.length_nil] at hl; omega
    rw [show (none : Option Addr).isNone = true from rfl] at q0
    clear hsrc h1 hlt hl
    go_enter Tryz.func93, Tryz.ntmps93
    go_wp2
    go_ret
    exact ⟨_, rfl, OwnAt.nil_ _ _ _, Below.refl _ _, fun g h => by simp [Value.ownBlock] at h⟩
  | some a =>
    rw [show (some a : Option Addr).isNone = false from rfl] at q0
    have Hsrc := Lib.hid (show ∀ j u, us[j]? = some u → ∃ ad : Addr, (some a : Option Addr) = some ad ∧ (W.alloc (.cells #[] 87)).cell? (ad.add j) = some u from fun j u hu => by
      obtain ⟨ad, e, hc⟩ := hsrc j u hu
      cases e
      refine ⟨a, rfl, ?_⟩
      have hb : a.block < W.heap.size := hlt a (fun e => by rw [e] at hu; simp at hu) rfl
      have hbl : (a.add j).block = a.block := by unfold Addr.add; split <;> rfl
      unfold World.cell? at hc ⊢
      rw [Below.heap_alloc W _ _ (by rw [hbl]; exact hb)]
      exact hc)
    have H1 := Lib.hid h1
    have Hl := Lib.hid hl
    clear hsrc h1 hlt hl
    have hn2 : 0 + n ≤ 1000000000 := by omega
    go_enter Tryz.func93, Tryz.ntmps93
    go_wp2_with (at_builtin; refine wpList_append_src _ rfl (.tmp 5) (.tmp 6) 76 rfl 87 (.agg #[.int .i64 0, .int .i64 0, .int .u32 0, .int .i64 0, .int .i64 0, .int .i64 0, .int .i64 0]) 7 56 Tryz.underlying76 infoEnt rfl (by decide) (.slice (some ⟨W.heap.size, 0, none⟩) 0 0) 0 [] rfl (ownAt_empty W 87 7) (some a) n c us rfl Hl.out Hsrc.out H1.out hn2 (by decide) ?_; intro v' w3 hown' hgr hat; have Hown := Lib.hid hown'; have Hgr := Lib.hid hgr; have Hat := Lib.hid hat; clear hown' hgr hat)
    go_ret
    have hb : Below W.heap.size W (W.alloc (.cells #[] 87)) := (Below.refl _ _).alloc (Nat.le_refl _) _
    refine ⟨v', rfl, ?_, hb.grown Hgr.out hb.size (fun g hg => by simp [Value.ownBlock] at hg; omega), fun g hg => ?_⟩
    · have := Hown.out
      rw [Nat.zero_add, List.nil_append] at this
      exact this
    · rcases Hat.out with e | e
      · rw [e] at hg; simp [Value.ownBlock] at hg; omega
      · rw [e] at hg; simp at hg; omega

/-- a clone of an own slice -/
theorem clone_own {e : TypeId} {s : Nat} {W : World} {A : Option Addr} {n c : Nat} {us : List Value} (h : OwnAt W e s (.slice A n c) n us) : us.length = n * s ∧ (∀ j u, us[j]? = some u → ∃ ad : Addr, A = some ad ∧ W.cell? (ad.add j) = some u) ∧ ∀ ad, us ≠ [] → A = some ad → ad.block < W.heap.size := by
  refine ⟨h.1, fun j u hu => ?_, fun ad _ hA => ?_⟩
  · rcases h.2 with ⟨e1, e2⟩ | ⟨g, off, cap, cur, e1, hc, _, _, _, i4⟩
    · have := h.1
      rw [e2, Nat.zero_mul] at this
      rw [List.length_eq_zero_iff.1 this] at hu
      cases hu
    · cases e1
      refine ⟨⟨g, off, none⟩, rfl, ?_⟩
      rw [addr_add_zero, cell_of_row _ _ _ _ _ (0, 0) hc]
      exact i4 j u hu
  · subst hA
    exact h.lt ad.block (by simp [Value.ownBlock])
end Go.Proofs.YtcmlmjbpdaecbaaGreat
end
