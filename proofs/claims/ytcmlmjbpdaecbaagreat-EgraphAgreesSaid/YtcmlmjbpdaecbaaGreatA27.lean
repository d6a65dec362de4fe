/- Graphs (the reference): Copy. -/
import Derived.Test.YtcmlmjbpdaecbaaGreatA25
import Derived.Test.YtcmlmjbpdaecbaaGreatA26
set_option linter.unusedVariables false
set_option linter.unusedSimpArgs false
namespace Go.Proofs.YtcmlmjbpdaecbaaGreat
open Go.RowKit Go.MapKept Go.Maps Go.WideMaps
set_option linter.unusedVariables false
set_option linter.unusedSimpArgs false

/-- a graph of its own -/
structure NewRG (W : World) (p : List Nat) (wd : List Int) (kn : List (E.Opn × Nat)) (nm : List Nat) (vr : E.Vr) (w : World) (gb : Nat) (u1 u2 u4 : Value) (km : Nat) : Prop where
  gr : RGC w gb p wd kn nm vr u1 u2 u4 km
  bel : Below W.heap.size W w
  new : ∀ i, MR gb u1 u2 u4 km i → W.heap.size ≤ i

theorem newRG_box {W w : World} {p : List Nat} {wd : List Int} {nm : List Nat} {vr : E.Vr} {v1 v2 v4 : Value} {gm : Nat} (o1 : OwnAt w 3 1 v1 p.length (ivs p)) (o2 : OwnAt w 3 1 v2 wd.length (wd.map (.int .i64))) (o4 : OwnAt w 3 1 v4 nm.length (ivs nm)) (hm : MapAt Tryz.prog 95 opV NatE w gm [])
    (n1 : ∀ i, v1.ownBlock = some i → W.heap.size ≤ i) (n2 : ∀ i, v2.ownBlock = some i → W.heap.size ≤ i) (n4 : ∀ i, v4.ownBlock = some i → W.heap.size ≤ i) (nm' : W.heap.size ≤ gm)
    (d12 : ∀ g, v1.ownBlock = some g → v2.ownBlock ≠ some g) (d14 : ∀ g, v1.ownBlock = some g → v4.ownBlock ≠ some g) (d24 : ∀ g, v2.ownBlock = some g → v4.ownBlock ≠ some g) (hb : Below W.heap.size W w) :
    NewRG W p wd [] nm vr (w.alloc (.cells #[v1, v2, .map (some gm), v4, .int .i64 vr.a, .int .i64 vr.b, .int .i64 vr.c, .int .i64 vr.d] 92)) w.heap.size v1 v2 v4 gm := by
  have hbx : Below w.heap.size w (w.alloc (.cells #[v1, v2, .map (some gm), v4, .int .i64 vr.a, .int .i64 vr.b, .int .i64 vr.c, .int .i64 vr.d] 92)) := (Below.refl _ _).alloc (Nat.le_refl _) _
  refine ⟨⟨heap_alloc_new w _, o1.below hbx o1.lt, o2.below hbx o2.lt, hm.keep (hbx.block gm hm.lt) (fun _ _ _ h => h), o4.below hbx o4.lt, d12, d14, d24⟩, hb.trans (hbx.mono hb.size), ?_⟩
  rintro i (rfl | rfl | e | e | e)
  · exact hb.size
  · exact nm'
  · exact n1 i e
  · exact n2 i e
  · exact n4 i e

namespace Cp
def al (k : Nat) : Bool := k == 0 || k == 5 || k == 6 || k == 11 || k == 12 || k == 13 || k == 18
def rt (k : Nat) : Nat := if k = 5 then 0 else if k = 11 then 6 else if k = 18 then 13 else k
def us (k : Nat) : Option Nat := if k = 5 then some 0 else if k = 11 then some 6 else if k = 18 then some 13 else none
def bl (v : Value) : Option Nat := match v with | .map (some g) => some g | v => v.ownBlock
def Φ (p : List Nat) (wd : List Int) (nm : List Nat) (k : Nat) (v : Value) (X : World) : Prop :=
  if k = 5 then OwnAt X 3 1 v p.length (ivs p) else if k = 11 then OwnAt X 3 1 v wd.length (wd.map (.int .i64)) else if k = 18 then OwnAt X 3 1 v nm.length (ivs nm)
  else if k = 12 then ∃ g, v = .map (some g) ∧ MapAt Tryz.prog 95 opV NatE X g [] else OwnAt X 3 1 v 0 []
theorem bl_own {X : World} {e : TypeId} {s n : Nat} {v : Value} {xs : List Value} (h : OwnAt X e s v n xs) : bl v = v.ownBlock := by
  rcases h.2 with ⟨rfl, _⟩ | ⟨g, off, cap, cur, rfl, _⟩ <;> rfl
theorem own_keep {X X' : World} {e : TypeId} {s n : Nat} {v : Value} {xs : List Value} {row : Option Nat} (h : OwnAt X e s v n xs) (hg : X.grownBy X' row) (hr : ∀ r, bl v = some r → r < X.heap.size ∧ row ≠ some r) : OwnAt X' e s v n xs :=
  h.same fun g hg' => let ⟨h1, h2⟩ := hr g (by rw [bl_own h]; exact hg'); hg.block g h1 h2.symm
theorem keep {p : List Nat} {wd : List Int} {nm : List Nat} : ∀ k v X X' row, Φ p wd nm k v X → X.grownBy X' row → (∀ r, bl v = some r → r < X.heap.size ∧ row ≠ some r) → Φ p wd nm k v X' := by
  intro k v X X' row h hg hr
  unfold Φ at h ⊢
  by_cases h5 : k = 5
  · rw [if_pos h5] at h ⊢; exact own_keep h hg hr
  rw [if_neg h5] at h ⊢
  by_cases h11 : k = 11
  · rw [if_pos h11] at h ⊢; exact own_keep h hg hr
  rw [if_neg h11] at h ⊢
  by_cases h18 : k = 18
  · rw [if_pos h18] at h ⊢; exact own_keep h hg hr
  rw [if_neg h18] at h ⊢
  by_cases h12 : k = 12
  · rw [if_pos h12] at h ⊢
    obtain ⟨g, rfl, hm⟩ := h
    obtain ⟨h1, h2⟩ := hr g rfl
    exact ⟨g, rfl, hm.keep (hg.block g h1 h2.symm) (fun _ _ _ h => h)⟩
  rw [if_neg h12] at h ⊢
  exact own_keep h hg hr
theorem rts : ∀ i b k, us i = some b → rt k = rt i → k = i ∨ k = b := by
  intro i b k h1 h2
  unfold us at h1
  unfold rt at h2
  repeat' split at h1
  all_goals first | (cases h1; done) | (cases h1; subst_vars; simp at h2; repeat' split at h2) | skip
  all_goals omega
theorem uss : ∀ j b, us j = some b → j < 23 := by
  intro j b h
  unfold us at h
  repeat' split at h
  all_goals first | omega | cases h
theorem used {k : Nat} (h0 : k ≠ 0) (h6 : k ≠ 6) (h13 : k ≠ 13) : ∀ j, us j ≠ some k := by
  intro j e
  unfold us at e
  repeat' split at e
  all_goals
    first
      | (injection e with e; omega)
      | cases e
theorem als {i : Nat} (h : al i = true) : i = 0 ∨ i = 5 ∨ i = 6 ∨ i = 11 ∨ i = 12 ∨ i = 13 ∨ i = 18 := by
  unfold al at h
  simp only [Bool.or_eq_true, beq_iff_eq] at h
  omega
theorem app_tail {X w' : World} {e : TypeId} {s n m : Nat} {u0 v' : Value} {xs ys : List Value} (f0 : OwnAt X e s u0 m ys) (hown : OwnAt w' e s v' n xs) (hat : v'.ownBlock = u0.ownBlock ∨ v'.ownBlock = some X.heap.size) : ∀ r, bl v' = some r → r < w'.heap.size ∧ (X.heap.size ≤ r ∨ bl u0 = some r) := by
  intro r hr
  rw [bl_own hown] at hr
  refine ⟨hown.lt r hr, ?_⟩
  rcases hat with h | h
  · exact .inr (by rw [bl_own f0, ← h]; exact hr)
  · rw [h] at hr; injection hr with hr; exact .inl (by omega)
theorem edg_of {md : Region.Mode} {o : Oper} {k : Nat} (h : (o.after.any fun e => Region.binds md e && e.on == k) = true) : Gro.Edg md o k := by
  rw [Array.any_eq_true'] at h
  obtain ⟨e, he, hb⟩ := h
  simp at hb
  exact ⟨e, he, hb.1, hb.2⟩
end Cp

set_option maxRecDepth 100000 in
set_option maxHeartbeats 4000000 in
theorem rCopy_any {W : World} {b : Nat} {p : List Nat} {wd : List Int} {kn : List (E.Opn × Nat)} {nm : List Nat} {vr : E.Vr} {v1 v2 v4 : Value} {kb : Nat} (h : RGC W b p wd kn nm vr v1 v2 v4 kb) (hw : ∀ k ∈ kn, OWf k.1) (hn : p.length ≤ 900000) (hwd : wd.length ≤ 900000) (hm : nm.length ≤ 900000) :
    Calls Tryz.prog 28 #[.pointer (some ⟨b, 0, none⟩)] W fun e W' => ∃ gb u1 u2 u4 km kn', e = .returned (.pointer (some ⟨gb, 0, none⟩)) ∧ NewRG W p wd kn' nm vr W' gb u1 u2 u4 km ∧ (kn'.map Prod.fst).Nodup ∧ ∀ x, x ∈ kn' ↔ x ∈ kn := by
  obtain ⟨A1, c1, rfl⟩ := h.o1.form
  obtain ⟨A2, c2, rfl⟩ := h.o2.form
  obtain ⟨A4, c4, rfl⟩ := h.o4.form
  have H := Lib.hid h
  have Hw := Lib.hid hw
  have Hcells := Lib.hid (show ∀ Y, Below W.heap.size W Y → Y.cell? ⟨b, 0, none⟩ = some (.slice A1 p.length c1) ∧ Y.cell? ⟨b, 1, none⟩ = some (.slice A2 wd.length c2) ∧ Y.cell? ⟨b, 3, none⟩ = some (.slice A4 nm.length c4) ∧ Y.cell? ⟨b, 4, none⟩ = some (.int .i64 vr.a) ∧ Y.cell? ⟨b, 5, none⟩ = some (.int .i64 vr.b) ∧ Y.cell? ⟨b, 6, none⟩ = some (.int .i64 vr.c) ∧ Y.cell? ⟨b, 7, none⟩ = some (.int .i64 vr.d) from fun Y hY => by
    have hr := (h.below hY).row
    refine ⟨?_, ?_, ?_, ?_, ?_, ?_, ?_⟩
    all_goals rw [cell_of_row _ _ _ _ _ (0, 0) hr]; rfl)
  clear h hw
  go_enter Tryz.func28, Tryz.ntmps28
  go_upto_region 1 with (fail)
  go_cut [3] (fun s3 wx => ∃ (gb : Nat) (u1 u2 u4 : Value) (km : Nat), s3 = .pointer (some ⟨gb, 0, none⟩) ∧ Hid (NewRG W p wd [] nm vr wx gb u1 u2 u4 km))
  case first =>
    refine wp_region_gro 23 Cp.al Cp.bl Cp.rt Cp.us (Cp.Φ p wd nm) ?af (by kernel_rfl) (by kernel_rfl) (by kernel_rfl) (by kernel_rfl) (by kernel_rfl) (by kernel_rfl) ?_ Cp.keep Cp.rts Cp.uss ?_ ?_
    rotate_left
    · intro X hX ov
      obtain ⟨y0, y1, y3, y4, y5, y6, y7⟩ := Hcells.out X hX
      have z0 := ov.cell y0
      have z1 := ov.cell y1
      have z3 := ov.cell y3
      have z4 := ov.cell y4
      have z5 := ov.cell y5
      have z6 := ov.cell y6
      have z7 := ov.cell y7
      clear y0 y1 y3 y4 y5 y6 y7
      simp only [List.take_succ_cons, List.take_zero, Gro.qlist, Cp.al, Nat.reduceAdd, Nat.reduceBEq, Bool.or_true, Bool.or_false, Bool.true_or, Bool.false_or, if_true, if_false, Bool.false_eq_true]
      repeat (go_big_quiet_step (fail))
      refine wpQuiet_nil ?_
      rfl
    · intro i hi hal
      rcases Cp.als hal with rfl | rfl | rfl | rfl | rfl | rfl | rfl
      · refine ⟨_, rfl, fun X act u hX hfa hev K hK => ?_⟩
        refine Gro.makes_run (v := .slice (some ⟨X.heap.size, 0, none⟩) 0 0) (X' := X.alloc (.cells #[] 3)) rfl rfl ?_ (hK _ _ ⟨rfl, rfl, rfl, by simp, fun k hk _ => Below.heap_alloc X _ k hk⟩ (ownAt_empty X 3 1) ?_)
        · go_simp
        · intro r hr
          cases hr
          exact ⟨by simp, .inl (Nat.le_refl _)⟩
      · refine ⟨_, rfl, fun X act u hX hfa hev K hK => ?_⟩
        have e1 : act.eval (.tmp 6) = u 0 := hev 6 0 (of_decide_eq_true (by kernel_rfl)) rfl (by show (_ : Nat) < 48; decide)
        have e2 : act.eval (.tmp 10) = .slice A1 p.length c1 := hev 10 4 (of_decide_eq_true (by kernel_rfl)) rfl (by show (_ : Nat) < 48; decide)
        obtain ⟨f0, _⟩ := hfa 0 (Cp.edg_of (by kernel_rfl)) rfl
        have f0 : OwnAt X 3 1 (u 0) 0 [] := f0
        obtain ⟨q1, q2, q3⟩ := clone_own (H.out.below hX).o1
        refine Gro.makes_list rfl (wpList_append_src X rfl (.tmp 6) (.tmp 10) 60 rfl 3 (.int .i64 0) 1 8 Tryz.underlying60 infoInt rfl (by decide) (u 0) 0 [] e1 f0 A1 p.length c1 (ivs p) e2 q1 q2 (ivs_one p) (by omega) (by decide) ?_)
        intro v' w' hown hgr hat
        rw [Nat.zero_add, List.nil_append] at hown
        refine hK v' w' ?_ hown ?_
        · show X.grownBy w' (Cp.bl (u 0))
          rw [Cp.bl_own f0]
          exact hgr
        · intro r hr
          obtain ⟨r1, r2⟩ := Cp.app_tail f0 hown hat r hr
          exact ⟨r1, r2.imp id fun h => ⟨0, Cp.edg_of (by kernel_rfl), rfl, rfl, h⟩⟩
      · refine ⟨_, rfl, fun X act u hX hfa hev K hK => ?_⟩
        refine Gro.makes_run (v := .slice (some ⟨X.heap.size, 0, none⟩) 0 0) (X' := X.alloc (.cells #[] 3)) rfl rfl ?_ (hK _ _ ⟨rfl, rfl, rfl, by simp, fun k hk _ => Below.heap_alloc X _ k hk⟩ (ownAt_empty X 3 1) ?_)
        · go_simp
        · intro r hr
          cases hr
          exact ⟨by simp, .inl (Nat.le_refl _)⟩
      · refine ⟨_, rfl, fun X act u hX hfa hev K hK => ?_⟩
        have e1 : act.eval (.tmp 12) = u 6 := hev 12 6 (of_decide_eq_true (by kernel_rfl)) rfl (by show (_ : Nat) < 48; decide)
        have e2 : act.eval (.tmp 16) = .slice A2 wd.length c2 := hev 16 10 (of_decide_eq_true (by kernel_rfl)) rfl (by show (_ : Nat) < 48; decide)
        obtain ⟨f0, _⟩ := hfa 6 (Cp.edg_of (by kernel_rfl)) rfl
        have f0 : OwnAt X 3 1 (u 6) 0 [] := f0
        obtain ⟨q1, q2, q3⟩ := clone_own (H.out.below hX).o2
        refine Gro.makes_list rfl (wpList_append_src X rfl (.tmp 12) (.tmp 16) 60 rfl 3 (.int .i64 0) 1 8 Tryz.underlying60 infoInt rfl (by decide) (u 6) 0 [] e1 f0 A2 wd.length c2 (wd.map (.int .i64)) e2 q1 q2 (ints_one wd) (by omega) (by decide) ?_)
        intro v' w' hown hgr hat
        rw [Nat.zero_add, List.nil_append] at hown
        refine hK v' w' ?_ hown ?_
        · show X.grownBy w' (Cp.bl (u 6))
          rw [Cp.bl_own f0]
          exact hgr
        · intro r hr
          obtain ⟨r1, r2⟩ := Cp.app_tail f0 hown hat r hr
          exact ⟨r1, r2.imp id fun h => ⟨6, Cp.edg_of (by kernel_rfl), rfl, rfl, h⟩⟩
      · refine ⟨_, rfl, fun X act u hX hfa hev K hK => ?_⟩
        have hmk := run_makeMap_any (P := Tryz.prog) Tryz.underlying90 X
        refine Gro.makes_run (v := .map (some X.heap.size)) (X' := X.alloc (.map #[] 0)) rfl rfl ?_ (hK _ _ ⟨rfl, rfl, rfl, by simp, fun k hk _ => Below.heap_alloc X _ k hk⟩ ⟨_, rfl, MapAt.made X⟩ ?_)
        · go_simp
        · intro r hr
          cases hr
          exact ⟨by simp, .inl (Nat.le_refl _)⟩
      · refine ⟨_, rfl, fun X act u hX hfa hev K hK => ?_⟩
        refine Gro.makes_run (v := .slice (some ⟨X.heap.size, 0, none⟩) 0 0) (X' := X.alloc (.cells #[] 3)) rfl rfl ?_ (hK _ _ ⟨rfl, rfl, rfl, by simp, fun k hk _ => Below.heap_alloc X _ k hk⟩ (ownAt_empty X 3 1) ?_)
        · go_simp
        · intro r hr
          cases hr
          exact ⟨by simp, .inl (Nat.le_refl _)⟩
      · refine ⟨_, rfl, fun X act u hX hfa hev K hK => ?_⟩
        have e1 : act.eval (.tmp 19) = u 13 := hev 19 13 (of_decide_eq_true (by kernel_rfl)) rfl (by show (_ : Nat) < 48; decide)
        have e2 : act.eval (.tmp 23) = .slice A4 nm.length c4 := hev 23 17 (of_decide_eq_true (by kernel_rfl)) rfl (by show (_ : Nat) < 48; decide)
        obtain ⟨f0, _⟩ := hfa 13 (Cp.edg_of (by kernel_rfl)) rfl
        have f0 : OwnAt X 3 1 (u 13) 0 [] := f0
        obtain ⟨q1, q2, q3⟩ := clone_own (H.out.below hX).o4
        refine Gro.makes_list rfl (wpList_append_src X rfl (.tmp 19) (.tmp 23) 60 rfl 3 (.int .i64 0) 1 8 Tryz.underlying60 infoInt rfl (by decide) (u 13) 0 [] e1 f0 A4 nm.length c4 (ivs nm) e2 q1 q2 (ivs_one nm) (by omega) (by decide) ?_)
        intro v' w' hown hgr hat
        rw [Nat.zero_add, List.nil_append] at hown
        refine hK v' w' ?_ hown ?_
        · show X.grownBy w' (Cp.bl (u 13))
          rw [Cp.bl_own f0]
          exact hgr
        · intro r hr
          obtain ⟨r1, r2⟩ := Cp.app_tail f0 hown hat r hr
          exact ⟨r1, r2.imp id fun h => ⟨13, Cp.edg_of (by kernel_rfl), rfl, rfl, h⟩⟩
    · intro g w hb hfa hlt hne
      have o1 : OwnAt w 3 1 (g 5) p.length (ivs p) := hfa 5 (by decide) rfl (Cp.used (by decide) (by decide) (by decide))
      have o2 : OwnAt w 3 1 (g 11) wd.length (wd.map (.int .i64)) := hfa 11 (by decide) rfl (Cp.used (by decide) (by decide) (by decide))
      have o4 : OwnAt w 3 1 (g 18) nm.length (ivs nm) := hfa 18 (by decide) rfl (Cp.used (by decide) (by decide) (by decide))
      have om : ∃ gm, g 12 = .map (some gm) ∧ MapAt Tryz.prog 95 opV NatE w gm [] := hfa 12 (by decide) rfl (Cp.used (by decide) (by decide) (by decide))
      obtain ⟨gm, em, om⟩ := om
      have HN := Lib.hid (newRG_box (W := W) (vr := vr) o1 o2 o4 om (fun i e => (hlt 5 (by decide) rfl i (by rw [Cp.bl_own o1]; exact e)).1) (fun i e => (hlt 11 (by decide) rfl i (by rw [Cp.bl_own o2]; exact e)).1) (fun i e => (hlt 18 (by decide) rfl i (by rw [Cp.bl_own o4]; exact e)).1) (hlt 12 (by decide) rfl gm (by rw [em]; rfl)).1
        (fun i e e' => hne 5 11 (by decide) (by decide) rfl rfl (by decide) i (by rw [Cp.bl_own o1]; exact e) (by rw [Cp.bl_own o2]; exact e')) (fun i e e' => hne 5 18 (by decide) (by decide) rfl rfl (by decide) i (by rw [Cp.bl_own o1]; exact e) (by rw [Cp.bl_own o4]; exact e')) (fun i e e' => hne 11 18 (by decide) (by decide) rfl rfl (by decide) i (by rw [Cp.bl_own o2]; exact e) (by rw [Cp.bl_own o4]; exact e')) hb)
      simp only [List.range, List.range.loop, List.foldl_cons, List.foldl_nil, Cp.al, Nat.reduceBEq, Bool.or_true, Bool.or_false, Bool.true_or, Bool.false_or, if_true, if_false, Bool.false_eq_true]
      rw [em]
      obtain ⟨B1, k1, e5⟩ := o1.form
      obtain ⟨B2, k2, e11⟩ := o2.form
      obtain ⟨B4, k4, e18⟩ := o4.form
      rw [e5, e11, e18] at HN ⊢
      generalize g 0 = ga0 at *
      generalize g 6 = ga6 at *
      generalize g 13 = ga13 at *
      clear hfa hlt hne o1 o2 o4 om em e5 e11 e18 hb
      simp only [List.drop_succ_cons, List.drop_zero]
      simp only [Rg.dst, Act.put]
      go_wp2_with fail
      go_meet
      exact ⟨_, _, _, _, _, rfl, HN⟩
  case rest =>
  obtain ⟨gb, t1, t2, t4, km, rfl, HN⟩ := hcut
  obtain ⟨es0, clock, hmp0, hst, hlen, hent⟩ := id H.out.km
  have hkeys := mapAt_nodup hst hlen hent
  have hmp : wc.heap[kb]? = some (.map es0 clock) := (HN.out.bel.block kb H.out.km.lt).trans hmp0
  have hrg := run_range_map (P := Tryz.prog) wc 90 _ _ kb es0 clock Tryz.underlying90 hmp
  have k2 : wc.cell? ⟨b, 2, none⟩ = some (.map (some kb)) := (H.out.below HN.out.bel).cells.2.2.1
  have Hst := Lib.hid hst
  have Hlen := Lib.hid hlen
  have Hent := Lib.hid hent
  have Hkeys := Lib.hid hkeys
  have Hmp0 := Lib.hid hmp0
  have hb1 : Below wc.heap.size wc (wc.alloc (.mapIter (some kb) clock #[] clock)) := (Below.refl _ _).alloc (Nat.le_refl _) _
  have HN1 := Lib.hid (show NewRG W p wd [] nm vr (wc.alloc (.mapIter (some kb) clock #[] clock)) gb t1 t2 t4 km from ⟨HN.out.gr.below hb1, HN.out.bel.trans (hb1.mono HN.out.bel.size), HN.out.new⟩)
  have Hit := Lib.hid (show (wc.alloc (.mapIter (some kb) clock #[] clock)).heap[wc.heap.size]? = some (.mapIter (some kb) clock #[] clock) from heap_alloc_new wc _)
  have Hrw := Lib.hid (show W.heap.size ≤ wc.heap.size from HN.out.bel.size)
  clear hst hlen hent hkeys hmp0 hmp hb1 HN
  go_wp2
  clear hrg k2
  obtain ⟨r, hr⟩ : ∃ r, r = wc.heap.size := ⟨_, rfl⟩
  rw [← hr] at Hit Hrw ⊢
  obtain ⟨w3, hw3⟩ : ∃ w3, w3 = wc.alloc (.mapIter (some kb) clock #[] clock) := ⟨_, rfl⟩
  rw [← hw3] at Hit HN1 ⊢
  clear hr hw3
  go_loopg [5] (es0.size + 1) (fun gg s5 wx => ∃ (kn' : List (E.Opn × Nat)) (seen : Array Nat) (c0 : Nat), (leftOf es0 seen).size + 1 ≤ gg ∧ clock ≤ c0 ∧ Hid (NewRG W p wd kn' nm vr wx gb t1 t2 t4 km) ∧ Hid (wx.heap[r]? = some (.mapIter (some kb) clock seen c0)) ∧ Hid (Vis kn es0 seen kn') ∧ Hid ((kn'.map Prod.fst).Nodup))
  case atStart =>
    refine ⟨[], #[], clock, ?_, Nat.le_refl _, HN1, Hit, Lib.hid (Vis.start _ _), Lib.hid List.nodup_nil⟩
    have : (leftOf es0 #[]).size ≤ es0.size := by unfold leftOf; exact Array.size_filter_le
    omega
  case round =>
    obtain ⟨kn', seen, c0, hgk, hcc, HN2, Hit2, Hv2, Hnd2⟩ := hrel
    have Hgk := Lib.hid hgk
    clear hgk HN1 Hit
    have hmr : wr.heap[kb]? = some (.map es0 clock) := (HN2.out.bel.block kb H.out.km.lt).trans Hmp0.out
    rcases run_next_at (P := Tryz.prog) wr 0 r kb clock c0 seen es0 clock Hit2.out hmr (fun x hx => (Hst.out.1 x hx)) hcc with ⟨hz, hnx⟩ | ⟨e, he, w5, hw5, hnx⟩
    · have Hs := Lib.hid (Hv2.out.done Hlen.out hz)
      clear hz hmr
      go_wp2
      go_ret
      exact ⟨gb, t1, t2, t4, km, kn', rfl, HN2.out, Hnd2.out, Hs.out⟩
    · have hel : e ∈ es0.toList ∧ seen.contains e.born = false := by
        have he2 := he
        unfold leftOf at he2
        simp only [Array.toList_filter, List.mem_filter] at he2
        exact ⟨he2.1, by simpa using he2.2⟩
      obtain ⟨i, hi⟩ := List.getElem?_of_mem hel.1
      obtain ⟨q0, c, hlk⟩ := mapAt_entry Hlen.out hi
      obtain ⟨e', h1, h2, h3, _⟩ := Hent.out i q0 c hlk
      rw [hi] at h1
      cases h1
      have h3' : e.val = .int .i64 (c : Int) := h3
      have Hstep := Lib.hid (leftOf_step he)
      have Hv3 := Lib.hid (Hv2.out.step Hst.out.2.1 hi hlk)
      have Hnew := Lib.hid (show q0 ∉ kn'.map Prod.fst from fun hm => by
        obtain ⟨x, hx, rfl⟩ := List.mem_map.1 hm
        obtain ⟨j, e2, g1, g2, g3⟩ := (Hv2.out.mem x).1 hx
        have k1 : (kn.map Prod.fst)[j]? = some x.1 := by rw [List.getElem?_map, g3]; rfl
        have k2 : (kn.map Prod.fst)[i]? = some x.1 := by rw [List.getElem?_map, hlk]; rfl
        obtain ⟨a1, a2⟩ := List.getElem?_eq_some_iff.1 k1
        obtain ⟨b1, b2⟩ := List.getElem?_eq_some_iff.1 k2
        have hij : j = i := by
          rcases Nat.lt_trichotomy j i with c | c | c
          · exact absurd (a2.trans b2.symm) (List.pairwise_iff_getElem.1 Hkeys.out j i a1 b1 c)
          · exact c
          · exact absurd (b2.trans a2.symm) (List.pairwise_iff_getElem.1 Hkeys.out i j b1 a1 c)
        subst hij
        rw [hi] at g1
        cases g1
        rw [hel.2] at g2
        cases g2)
      have hrl := (Array.getElem?_eq_some_iff.1 Hit2.out).1
      obtain ⟨w6, hw6⟩ : ∃ w6, w6 = putObj w5 r (.mapIter (some kb) clock (seen.push e.born) clock) := ⟨_, rfl⟩
      rw [← hw6] at hnx
      have hne : ∀ i, MR gb t1 t2 t4 km i → i ≠ r := HN2.out.gr.neIter Hit2.out
      have hb5 : Below W.heap.size W w5 := by rcases hw5 with rfl | rfl; exact HN2.out.bel; exact HN2.out.bel.drew
      have hh5 : w5.heap = wr.heap := by rcases hw5 with rfl | rfl <;> rfl
      have HN6 := Lib.hid (show NewRG W p wd kn' nm vr w6 gb t1 t2 t4 km from ⟨HN2.out.gr.frame fun i hm => by rw [hw6, putObj_other _ (hne i hm), hh5], by rw [hw6]; exact putObj_below _ hb5 Hrw.out, HN2.out.new⟩)
      have Hit6 := Lib.hid (show w6.heap[r]? = some (.mapIter (some kb) clock (seen.push e.born) clock) from by rw [hw6]; exact putObj_same _ (by rw [hh5]; exact hrl))
      have hm6 : w6.heap[kb]? = some (.map es0 clock) := (HN6.out.bel.block kb H.out.km.lt).trans Hmp0.out
      rw [h2, h3'] at hnx
      have hen := run_entry_at (P := Tryz.prog) w6 r kb clock seen es0 clock e Hit6.out hm6 hel.1 Hst.out.2.1
      rw [h2, h3'] at hen
      have Howq := Lib.hid (show OWf q0 from Hw.out (q0, c) (List.mem_of_getElem? hlk))
      clear hw5 hw6 h2 h3 h3' hi hlk he hel hrl hne hb5 hh5 hm6 hmr HN2 Hit2
      unfold opV at hnx hen
      go_upto_region 5 with (fail)
      clear hnx hen
      obtain ⟨g5, hg5⟩ : ∃ g5, g5 = w6.heap.size := ⟨_, rfl⟩
      obtain ⟨w7, hw7⟩ : ∃ w7, w7 = w6.alloc (.cells #[.int .i64 q0.op, .int .i64 q0.w, .int .u32 q0.imm, .int .i64 q0.a0, .int .i64 q0.a1, .int .i64 q0.a2] 95) := ⟨_, rfl⟩
      rw [← hw7, ← hg5]
      have hb7 : Below w6.heap.size w6 w7 := by rw [hw7]; exact (Below.refl _ _).alloc (Nat.le_refl _) _
      have hr7 : w7.heap[g5]? = some (.cells #[.int .i64 q0.op, .int .i64 q0.w, .int .u32 q0.imm, .int .i64 q0.a0, .int .i64 q0.a1, .int .i64 q0.a2] 95 (0, 0)) := by rw [hw7, hg5]; exact heap_alloc_new w6 _
      have HN7 := Lib.hid (show NewRG W p wd kn' nm vr w7 gb t1 t2 t4 km from ⟨HN6.out.gr.below hb7, HN6.out.bel.trans (hb7.mono HN6.out.bel.size), HN6.out.new⟩)
      have Hit7 := Lib.hid (show w7.heap[r]? = some (.mapIter (some kb) clock (seen.push e.born) clock) from (hb7.block r (Array.getElem?_eq_some_iff.1 Hit6.out).1).trans Hit6.out)
      obtain ⟨y0, y1, y2, y3, y4, y5⟩ := op6_cells hr7
      obtain ⟨_, _, k3, _⟩ := HN7.out.gr.cells
      obtain ⟨kl, hkl⟩ := keyOf_rk Howq.out
      obtain ⟨X9, hupd, hgr, hsz, hMp⟩ := (HN7.out.gr.km.keep (w' := w7.drew) (R' := NatE) rfl (fun _ _ _ h => h)).update rkKeyed opV_inj Tryz.underlying90 hkl (.int .i64 (c : Int))
      have hgr' := undrew hgr
      have hkmW := HN7.out.new km (.inr (.inl rfl))
      have HN9 := Lib.hid (show NewRG W p wd (kn' ++ [(q0, c)]) nm vr X9 gb t1 t2 t4 km from ⟨HN7.out.gr.know hgr' (by
        have := hMp NatE c (fun _ _ _ _ h => h) rfl
        rw [AL_put_new Hnew.out] at this
        exact this), HN7.out.bel.grown hgr' HN7.out.bel.size (fun k e => by cases e; exact hkmW), HN7.out.new⟩)
      have Hit9 := Lib.hid (show X9.heap[r]? = some (.mapIter (some kb) clock (seen.push e.born) clock) from grown_row hgr' Hit7.out (fun e => by
        injection e with e
        exact HN7.out.gr.neIter Hit7.out km (.inr (.inl rfl)) e))
      have Hnd9 := Lib.hid (show ((kn' ++ [(q0, c)]).map Prod.fst).Nodup from by
        rw [List.map_append, List.nodup_append]
        refine ⟨Hnd2.out, by simp, fun x hx y hy e => ?_⟩
        simp at hy
        subst hy e
        exact Hnew.out hx)
      unfold opV at hupd
      clear hgr hgr' hsz hMp hkl hw7 hg5 hb7 hr7 hkmW
      go_region
      clear hupd y0 y1 y2 y3 y4 y5 k3
      go_wp2
      go_roundg (gk - 1)
      case measure => have := Hgk.out; omega
      case rel =>
        have := Hgk.out
        have := Hstep.out
        exact ⟨kn' ++ [(q0, c)], seen.push e.born, clock, by omega, Nat.le_refl _, HN9, Hit9, Hv3, Hnd9⟩
end Go.Proofs.YtcmlmjbpdaecbaaGreat
