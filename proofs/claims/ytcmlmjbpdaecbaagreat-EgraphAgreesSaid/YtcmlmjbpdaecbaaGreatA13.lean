/- Graphs (the program): close, walked. -/
import Derived.Test.YtcmlmjbpdaecbaaGreatA12
set_option linter.unusedVariables false
set_option linter.unusedSimpArgs false
namespace Go.Proofs.YtcmlmjbpdaecbaaGreat
open Go.RowKit Go.MapKept Go.Maps Go.WideMaps
set_option linter.unusedVariables false
set_option linter.unusedSimpArgs false

/-- behind close -/
structure ClosePost (W : World) (b : Nat) (p : List Nat) (wd : List Int) (es : List (E.Opn × Nat)) (nm : List Nat) (vr : E.Vr) (v1 v2 v3 v4 : Value) (kb : Nat) (W' : World) (p1 : List Nat) (es1 : List (E.Opn × Nat)) (v3' : Value) (kb' : Nat) : Prop where
  shut : E.Shut p es p1 es1
  gr : GrC W' b p1 wd es1 es1 nm vr v1 v2 v3' v4 kb'
  kp : Kpm (MG b v1 v2 v3 v4 kb) W W'
  new : ∀ i, MG b v1 v2 v3' v4 kb' i → MG b v1 v2 v3 v4 kb i ∨ W.heap.size ≤ i
  ar : ∀ k ∈ es1, E.Ar p1.length k.1
  owf : ∀ k ∈ es1, OWf k.1
  le : es1.length ≤ es.length
  done : E.Done p es p1 es1

set_option maxRecDepth 100000 in
set_option maxHeartbeats 4000000 in
theorem gclose_any {W : World} {b : Nat} {p : List Nat} {wd : List Int} {es kn : List (E.Opn × Nat)} {nm : List Nat} {vr : E.Vr} {v1 v2 v3 v4 : Value} {kb : Nat} (h : GrC W b p wd es kn nm vr v1 v2 v3 v4 kb) (ok : E.Ok p wd es nm) (hw : ∀ e ∈ es, OWf e.1) (hn : p.length ≤ 900000) (he : es.length ≤ 900000) :
    Calls Tryz.prog 47 #[.pointer (some ⟨b, 0, none⟩)] W fun e W' => e = .returned (.tuple #[]) ∧ ∃ p1 es1 v3' kb', ClosePost W b p wd es nm vr v1 v2 v3 v4 kb W' p1 es1 v3' kb' := by
  obtain ⟨M, hM⟩ : ∃ M, M = MG b v1 v2 v3 v4 kb := ⟨_, rfl⟩
  have HMb := Lib.hid (show M b ∧ M kb ∧ (∀ i, v1.ownBlock = some i → M i) ∧ (∀ i, v2.ownBlock = some i → M i) ∧ (∀ i, v3.ownBlock = some i → M i) ∧ (∀ i, v4.ownBlock = some i → M i) from by rw [hM]; exact ⟨.inl rfl, .inr (.inl rfl), fun i e => .inr (.inr (.inl e)), fun i e => .inr (.inr (.inr (.inl e))), fun i e => .inr (.inr (.inr (.inr (.inl e)))), fun i e => .inr (.inr (.inr (.inr (.inr e))))⟩)
  have HMl := Lib.hid (show ∀ i, M i → i < W.heap.size from by rw [hM]; exact h.lt)
  have Hmk := Lib.hid (fun W => run_makeMap_any (P := Tryz.prog) Tryz.underlying77 W)
  have Hcm := Lib.hid (show CM W M b p wd es kn nm vr v1 v2 v3 v4 kb W from ⟨h, Kpm.refl _ _, fun i e => .inl (HMb.out.2.2.2.2.1 i e), .inl HMb.out.2.1⟩)
  have Hco := Lib.hid (show CO p es p es from ⟨E.Mid.start ok.down ok.inn, ok.ar, hw, Nat.le_refl _⟩)
  have HM := Lib.hid hM
  clear h ok hw hM
  go_enter Tryz.func47, Tryz.ntmps47
  go_wp2
  go_loopg [2] (E.roots p + 1) (fun gg s2 wr => ∃ (again : Bool) (p1 : List Nat) (es1 kn1 : List (E.Opn × Nat)) (v3c : Value) (kc : Nat), s2 = .bool again ∧ gg = (if again then E.roots p1 + 1 else 0) ∧ Hid (CM W M b p1 wd es1 kn1 nm vr v1 v2 v3c v4 kc wr) ∧ Hid (CO p es p1 es1) ∧ Hid (again = false → (kn1 = es1 ∧ E.Done p es p1 es1) ∧ E.Shut p es p1 es1) ∧ Hid (again = true → ∀ p' es', E.Done p1 es1 p' es' → E.Done p es p' es'))
  case atStart => exact ⟨true, p, es, kn, v3, kb, rfl, rfl, Hcm, Hco, Lib.hid (fun h => by cases h), Lib.hid (fun _ _ _ h => h)⟩
  case round =>
    obtain ⟨again, p1, es1, kn1, v3c, kc, rfl, hgk, Hc1, Ho1, He1, Hd1⟩ := hrel
    have Hgk := Lib.hid hgk
    clear hgk Hcm Hco
    cases again with
    | false =>
      go_wp2
      refine bodyPost_end (results_none rfl _ _ _) rfl ?_
      obtain ⟨⟨rfl, hdn⟩, hs⟩ := He1.out (by trivial)
      refine ⟨rfl, p1, kn1, v3c, kc, hs, Hc1.out.gr, by rw [← HM.out]; exact Hc1.out.kp, ?_, Ho1.out.ar, Ho1.out.owf, Ho1.out.le, hdn⟩
      rw [← HM.out]
      rintro i (rfl | rfl | e | e | e | e)
      · exact .inl HMb.out.1
      · exact Hc1.out.nk
      · exact .inl (HMb.out.2.2.1 i e)
      · exact .inl (HMb.out.2.2.2.1 i e)
      · exact Hc1.out.n3 i e
      · exact .inl (HMb.out.2.2.2.2.2 i e)
    | true =>
      clear He1
      have hmk := Hmk.out
      have mf : (wr.alloc (.map #[] 0)).frozen? ⟨b, 3, none⟩ = false := frozen_row (row_alloc Hc1.out.gr.row _) _
      have mc : (wr.alloc (.map #[] 0)).cell? ⟨b, 3, none⟩ = some (.map (some kc)) := by rw [cell_of_row _ _ _ _ _ (0, 0) (row_alloc Hc1.out.gr.row _)]; rfl
      go_upto_region 5 with (fail)
      clear hmk mf mc
      have Hc2 := Lib.hid (show CM W M b p1 wd es1 [] nm vr v1 v2 v3c v4 wr.heap.size ((wr.alloc (.map #[] 0)).setCell ⟨b, 3, none⟩ (.map (some wr.heap.size))) from ⟨Hc1.out.gr.newMap, (Hc1.out.kp.alloc _).setCell (p := ⟨b, 3, none⟩) (fun _ => HMb.out.1) _, Hc1.out.n3, .inr Hc1.out.kp.size⟩)
      obtain ⟨X, hX⟩ : ∃ X, X = (wr.alloc (.map #[] 0)).setCell ⟨b, 3, none⟩ (.map (some wr.heap.size)) := ⟨_, rfl⟩
      obtain ⟨k2, hk2⟩ : ∃ k2, k2 = wr.heap.size := ⟨_, rfl⟩
      rw [← hX] at Hc2 ⊢
      rw [← hk2] at Hc2 ⊢
      clear hX hk2 Hc1
      obtain ⟨A3, c3, rfl⟩ := Hc2.out.gr.o3.form
      obtain ⟨_, _, q2, _, _⟩ := Hc2.out.gr.cells
      have Hk0 := Lib.hid (show CKp W (.slice A3 es1.length c3) [] (.slice none 0 0) X from ⟨OwnAt.nil_ _ _ _, fun i e => by simp [Value.ownBlock] at e⟩)
      have Hi0 := Lib.hid (CI.start (es1 := es1) Ho1.out.mid.down)
      obtain ⟨gO, hgO⟩ : ∃ g, g = gk := ⟨_, rfl⟩
      rw [← hgO] at Hgk
      have hes1 := Ho1.out.le
      go_wp2
      clear q2
      go_loopg [2, 3, 18] (es1.length + 1) (fun gg s2 s3 s18 wx => ∃ (j : Nat) (fl : Bool) (p2 : List Nat) (kn2 : List (E.Opn × Nat)) (vk : Value) (k3 : Nat), j ≤ es1.length ∧ s2 = .bool fl ∧ s3 = vk ∧ s18 = .int .i64 (j : Int) ∧ gg + j = es1.length + 1 ∧ Hid (CM W M b p2 wd es1 kn2 nm vr v1 v2 (.slice A3 es1.length c3) v4 k3 wx) ∧ Hid (CKp W (.slice A3 es1.length c3) kn2 vk wx) ∧ Hid (CI p1 es1 p2 kn2 fl j))
      case atStart => exact ⟨0, false, p1, [], .slice none 0 0, k2, Nat.zero_le _, rfl, rfl, rfl, rfl, Hc2, Hk0, Hi0⟩
      case round =>
        obtain ⟨j, fl, p2, kn2, vk, k3, hj, rfl, rfl, rfl, hgk2, Hc3, Hk3, Hi3⟩ := hrel
        have Hgk2 := Lib.hid hgk2
        clear hgk2 Hc2 Hk0 Hi0
        by_cases hjl : j < es1.length
        · have hel : es1[j]? = some es1[j] := List.getElem?_eq_getElem hjl
          obtain ⟨e, hee⟩ : ∃ e, e = es1[j] := ⟨_, rfl⟩
          rw [← hee] at hel
          obtain ⟨g3, off3, c3', hv3, hg3, t0, t1, t2, t3, t4, t5, t6⟩ := ent_at Hc3.out.gr.o3 hel
          cases hv3
          have Hel := Lib.hid hel
          have Hem := Lib.hid (List.mem_of_getElem? hel)
          have hlt64 := Hc3.out.gr.o3.le
          clear hee hel hg3
          have hr5 : (wr.alloc (.cells #[.int .i64 e.1.op, .int .i64 e.1.w, .int .u32 e.1.imm, .int .i64 e.1.a0, .int .i64 e.1.a1, .int .i64 e.1.a2, .int .i64 (e.2 : Int)] 87)).heap[wr.heap.size]? = some (.cells #[.int .i64 e.1.op, .int .i64 e.1.w, .int .u32 e.1.imm, .int .i64 e.1.a0, .int .i64 e.1.a1, .int .i64 e.1.a2, .int .i64 (e.2 : Int)] 87 (0, 0)) := heap_alloc_new wr _
          have Hb5 := Lib.hid (show Below wr.heap.size wr (wr.alloc (.cells #[.int .i64 e.1.op, .int .i64 e.1.w, .int .u32 e.1.imm, .int .i64 e.1.a0, .int .i64 e.1.a1, .int .i64 e.1.a2, .int .i64 (e.2 : Int)] 87)) from (Below.refl _ _).alloc (Nat.le_refl _) _)
          go_upto_region 8 with (fail)
          clear t0 t1 t2 t3 t4 t5 t6
          obtain ⟨Av, cv, hv⟩ := Hk3.out.own.form
          subst hv
          have Hc5 := Lib.hid (Hc3.out.below Hb5.out)
          have Hk5 := Lib.hid (Hk3.out.below Hb5.out)
          obtain ⟨g5, hg5⟩ : ∃ g5, g5 = wr.heap.size := ⟨_, rfl⟩
          have Hg5W := Lib.hid (show W.heap.size ≤ g5 from by rw [hg5]; exact Hc3.out.kp.size)
          have Hg5n := Lib.hid (show (∀ i, MG b v1 v2 (.slice (some ⟨g3, off3, none⟩) es1.length c3) v4 k3 i → i < g5) ∧ (∀ i, (Value.slice Av kn2.length cv).ownBlock = some i → i < g5) from by rw [hg5]; exact ⟨Hc3.out.gr.lt, Hk3.out.own.lt⟩)
          obtain ⟨X5, hX5⟩ : ∃ X5, X5 = wr.alloc (.cells #[.int .i64 e.1.op, .int .i64 e.1.w, .int .u32 e.1.imm, .int .i64 e.1.a0, .int .i64 e.1.a1, .int .i64 e.1.a2, .int .i64 (e.2 : Int)] 87) := ⟨_, rfl⟩
          rw [← hX5] at hr5 Hc5 Hk5 ⊢
          rw [← hg5] at hr5 ⊢
          have Hr5 := Lib.hid hr5
          clear hX5 hg5 Hb5 Hc3 Hk3
          obtain ⟨y0, y1, y2, y3, y4, y5, y6⟩ := ent7_cells hr5
          have hlen := Hi3.out.len
          have hp1 := Ho1.out.mid.len
          have he2 := Ho1.out.mid.inn e Hem.out
          have hae := Ho1.out.ar e Hem.out
          obtain ⟨ov⟩ := ov_ex X5
          have HCa := Lib.hid (show ∀ u, Calls Tryz.prog 99 #[.pointer (some ⟨b, 0, none⟩), opV e.1] (ov.f u) fun r w'' => r = .returned (opV (E.can p2 e.1)) ∧ ∃ m, w'' = ov.f m from fun u => calls_over ((Hc5.out.gr.below (ov.below u)).canonical Hi3.out.down (by rw [hlen]; exact hae)))
          have HFi := Lib.hid (show ∀ u, Calls Tryz.prog 100 #[.pointer (some ⟨b, 0, none⟩), .int .i64 (e.2 : Int)] (ov.f u) fun r w'' => r = .returned (.int .i64 (E.root p2 e.2 : Nat)) ∧ ∃ m, w'' = ov.f m from fun u => calls_over_same (((Hc5.out.gr.below (ov.below u)).find Hi3.out.down e.2 (by omega)).mono fun _ _ h => ⟨h.1, h.2.symm⟩))
          have Hae := Lib.hid hae
          have Hlen := Lib.hid hlen
          have Hp1 := Lib.hid hp1
          have He2 := Lib.hid he2
          obtain ⟨q, hq⟩ : ∃ q, E.can p2 e.1 = q := ⟨_, rfl⟩
          obtain ⟨r, hr⟩ : ∃ r, E.root p2 e.2 = r := ⟨_, rfl⟩
          have Hqw := Lib.hid (show OWf q from by rw [← hq]; exact owf_can (Ho1.out.owf e Hem.out) (by rw [hlen]; exact hae) (by omega))
          rw [hq] at HCa
          rw [hr] at HFi
          have Hq := Lib.hid hq
          have Hr := Lib.hid hr
          unfold opV at HCa
          have z0 := ov.cell y0
          have z1 := ov.cell y1
          have z2 := ov.cell y2
          have z3 := ov.cell y3
          have z4 := ov.cell y4
          have z5 := ov.cell y5
          have z6 := ov.cell y6
          clear hr5 y0 y1 y2 y3 y4 y5 y6 hlen hp1 he2 hae hq hr
          refine wp_region_ov ov (by kernel_rfl) (by kernel_rfl) ?_
          dsimp only [headOf, lastOf]
          repeat (go_big_quiet_step ((first | (go_at_call 99; with_reducible exact HCa.out _) | (go_at_call 100; with_reducible exact HFi.out _))))
          refine wpQuiet_nil ?_
          clear z0 z1 z2 z3 z4 z5 z6 HCa HFi
          rintro _ ⟨u, rfl⟩ K hK
          have Hc6 := Lib.hid (Hc5.out.below (ov.below u))
          have Hk6 := Lib.hid (Hk5.out.below (ov.below u))
          have Hr6 := Lib.hid (row_step (Lib.hid (ov.below u)) Hr5.out)
          generalize ov.f u = X6 at *
          clear Hc5 Hk5 Hr5
          have f0 := frozen_row Hr6.out 0
          have f1 := frozen_row Hr6.out 1
          have f2 := frozen_row Hr6.out 2
          have f3 := frozen_row Hr6.out 3
          have f4 := frozen_row Hr6.out 4
          have f5 := frozen_row Hr6.out 5
          have f6 := frozen_row Hr6.out 6
          obtain ⟨y0, y1, y2, y3, y4, y5, y6⟩ := ent7_cells Hr6.out
          go_wp2
          refine hK _ _ ?_
          clear hK K f0 f1 f2 f3 f4 f5 f6 y0 y1 y2 y3 y4 y5 y6
          obtain ⟨X7, hX7⟩ : ∃ X7, X7 = ((((((X6.setCell ⟨g5, 0, none⟩ (.int .i64 q.op)).setCell ⟨g5, 1, none⟩ (.int .i64 q.w)).setCell ⟨g5, 2, none⟩ (.int .u32 q.imm)).setCell ⟨g5, 3, none⟩ (.int .i64 q.a0)).setCell ⟨g5, 4, none⟩ (.int .i64 q.a1)).setCell ⟨g5, 5, none⟩ (.int .i64 q.a2)).setCell ⟨g5, 6, none⟩ (.int .i64 (r : Int)) := ⟨_, rfl⟩
          rw [← hX7]
          have hr7 : X7.heap[g5]? = some (.cells #[.int .i64 q.op, .int .i64 q.w, .int .u32 q.imm, .int .i64 q.a0, .int .i64 q.a1, .int .i64 q.a2, .int .i64 (r : Int)] 87 (0, 0)) := by rw [hX7]; exact set7_row Hr6.out _ _ _ _ _ _ _
          have hb7 : Below g5 X6 X7 := by rw [hX7]; exact set7_below (Below.refl _ _) (Nat.le_refl _) _ _ _ _ _ _ _
          have Hc7 := Lib.hid (show CM W M b p2 wd es1 kn2 nm vr v1 v2 (.slice (some ⟨g3, off3, none⟩) es1.length c3) v4 k3 X7 from ⟨Hc6.out.gr.frame fun i hi => hb7.block i (Hg5n.out.1 i hi), Hc6.out.kp.trans (Kpm.weak (M := fun i => g5 ≤ i) ⟨hb7.os, hb7.tape, hb7.output, hb7.size, fun i _ hn => hb7.block i (by omega)⟩ (fun _ _ h => h)) (fun i hi hg => by have := Hg5W.out; omega), Hc6.out.n3, Hc6.out.nk⟩)
          have Hk7 := Lib.hid (show CKp W (.slice (some ⟨g3, off3, none⟩) es1.length c3) kn2 (.slice Av kn2.length cv) X7 from ⟨Hk6.out.own.same fun i hi => hb7.block i (Hg5n.out.2 i hi), Hk6.out.new⟩)
          have Hr7 := Lib.hid hr7
          clear hX7 hr7 hb7 Hr6 Hc6 Hk6
          go_upto_region 9 with (fail)
          obtain ⟨y0, y1, y2, y3, y4, y5, y6⟩ := ent7_cells Hr7.out
          obtain ⟨_, _, _, k3c, _⟩ := Hc7.out.gr.cells
          obtain ⟨ov⟩ := ov_ex X7
          have k3o := ov.cell k3c
          have z0 := ov.cell y0
          have z1 := ov.cell y1
          have z2 := ov.cell y2
          have z3 := ov.cell y3
          have z4 := ov.cell y4
          have z5 := ov.cell y5
          have hlo := fun u => look_op Hc7.out.gr.km Hqw.out (ov.f u) ((ov.below u).block k3 Hc7.out.gr.km.lt)
          obtain ⟨o, ho⟩ : ∃ o, AL.get kn2 q = o := ⟨_, rfl⟩
          rw [ho] at hlo
          have Ho := Lib.hid ho
          unfold opV at hlo
          clear k3c y0 y1 y2 y3 y4 y5 y6 ho
          refine wp_region_ovq ov (by kernel_rfl) (by kernel_rfl) ?_
          repeat (go_big_quiet_step (fail))
          refine wpQuiet_nil ?_
          rintro _ ⟨u, rfl⟩
          clear hlo k3o z0 z1 z2 z3 z4 z5
          have Hc8 := Lib.hid (Hc7.out.below (ov.below u))
          have Hk8 := Lib.hid (Hk7.out.below (ov.below u))
          have Hr8 := Lib.hid (row_step (Lib.hid (ov.below u)) Hr7.out)
          generalize ov.f u = X8 at *
          clear Hc7 Hk7 Hr7
          cases o with
          | none =>
            rw [show lookN none = (0 : Int) from rfl, show (none : Option Nat).isSome = false from rfl]
            have Hi4 := Lib.hid (Hi3.out.none Hel.out Hae.out (Ho1.out.owf e Hem.out) (by have := He2.out; have := Hp1.out; omega) (by have := Hp1.out; omega) (by rw [Hq.out]; exact Ho.out))
            go_upto_region 11 with (fail)
            obtain ⟨kl, hkl⟩ := keyOf_op Hqw.out
            obtain ⟨X9, hupd, hgr, hsz, hMp⟩ := (Hc8.out.gr.km.keep (w' := X8.drew) (R' := NatE) rfl (fun _ _ _ h => h)).update opKeyed opV_inj Tryz.underlying77 hkl (.int .i64 (r : Int))
            have hgr' := undrew hgr
            have Hc9 := Lib.hid (Hc8.out.know hgr' (by
              have := hMp NatE r (fun _ _ _ _ h => h) rfl
              rw [AL.put_none (AL_get_none Ho.out)] at this
              exact this))
            have Hk9 := Lib.hid (Hc8.out.knowK Hk8.out hgr')
            have hr9 := grown_row hgr' Hr8.out (fun e => by have := Hg5n.out.1 k3 (.inr (.inl rfl)); injection e with e; omega)
            have Hr9 := Lib.hid hr9
            obtain ⟨y0, y1, y2, y3, y4, y5, y6⟩ := ent7_cells Hr8.out
            obtain ⟨_, _, _, k3c, _⟩ := Hc8.out.gr.cells
            unfold opV at hupd
            clear hgr hgr' hsz hMp hkl hr9
            go_region
            clear hupd y0 y1 y2 y3 y4 y5 y6 k3c Hc8 Hk8 Hr8
            obtain ⟨y0, y1, y2, y3, y4, y5, y6⟩ := ent7_cells Hr9.out
            have hle3 := Hi3.out.le
            have Hkl := Lib.hid (show kn2.length + 1 ≤ 1000000000 from by omega)
            have Ho9 := Lib.hid (Hk9.out.own.below (w' := X9.alloc (.cells (entC (q, r)).toArray 87)) ((Below.refl X9.heap.size X9).alloc (Nat.le_refl _) _) Hk9.out.own.lt)
            go_wp2_with (at_builtin; refine wpList_append_src _ rfl (.tmp 51) (.tmp 53) 76 rfl 87 (.agg #[.int .i64 0, .int .i64 0, .int .u32 0, .int .i64 0, .int .i64 0, .int .i64 0, .int .i64 0]) 7 56 Tryz.underlying76 infoEnt rfl (by decide) (.slice Av kn2.length cv) kn2.length _ rfl Ho9.out (some ⟨X9.heap.size, 0, none⟩) 1 1 (entC (q, r)) rfl rfl (src_new X9 (entC (q, r)) 87) (entC_one _) Hkl.out (by decide) ?_; intro v' X10 hown7 hgr7 hat7; have Hown7 := Lib.hid hown7; have Hgr7 := Lib.hid hgr7; have Hat7 := Lib.hid hat7; clear hown7 hgr7 hat7)
            clear y0 y1 y2 y3 y4 y5 y6
            have Hc10 := Lib.hid (Hc9.out.keep Hk9.out Hgr7.out)
            have Hk10 := Lib.hid (Hk9.out.keep (x := (q, r)) Hc9.out.kp.size (fun i e => Hc9.out.gr.o3.lt i e) Hown7.out Hat7.out)
            have Hi5 := Lib.hid (show CI p1 es1 p2 (kn2 ++ [(q, r)]) fl (j + 1) from by have := Hi4.out; rw [Hq.out, Hr.out] at this; exact this)
            go_roundg (gk - 1)
            case measure => have := Hgk2.out; omega
            case rel =>
              have := Hgk2.out
              exact ⟨j + 1, fl, p2, kn2 ++ [(q, r)], v', k3, by omega, rfl, rfl, by go_num, by omega, Hc10, Hk10, Hi5⟩
          | some c =>
            rw [show lookN (some c) = (c : Int) from rfl, show (some c).isSome = true from rfl]
            go_upto_region 13 with (fail)
            have hcl := Hi3.out.inn _ (E.get_in Ho.out)
            have hrl : r < p2.length := by rw [← Hr.out]; exact E.root_lt (by have := He2.out; have := Hlen.out; omega)
            have Hun := Lib.hid (gunite_any Hc8.out.gr Hi3.out.down c r hcl hrl)
            have Hrr := Lib.hid (show E.root p2 r = r from by rw [← Hr.out]; exact E.root_root Hi3.out.down _)
            obtain ⟨y0, y1, y2, y3, y4, y5, y6⟩ := ent7_cells Hr8.out
            clear hcl hrl
            by_cases hrc : E.root p2 c = r
            · have Hi4 := Lib.hid (Hi3.out.same (c := c) Hel.out (by rw [Hq.out]; exact Ho.out) (by rw [Hr.out]; exact hrc))
              have Hj := Lib.hid (show E.join p2 c r = p2 from by unfold E.join; rw [if_pos (by rw [Hrr.out]; exact hrc)])
              have hd : decide (E.root p2 c ≠ E.root p2 r) = false := by rw [Hrr.out]; simp [hrc]
              have Hd := Lib.hid hd
              clear hrc hd
              go_wp2_with fail
              (with_reducible refine Hun.out.mono ?_)
              rintro e0 X9 ⟨rfl, hg9, hk9, hs9⟩
              rw [Hd.out]
              rw [Hj.out] at hg9
              have Hc10 := Lib.hid (Hc8.out.unite HMb.out.2.2.1 HMb.out.1 HMb.out.2.2.2.1 HMb.out.2.2.2.2.2 hg9 hk9)
              have Hk10 := Lib.hid (show CKp W (.slice (some ⟨g3, off3, none⟩) es1.length c3) kn2 (.slice Av kn2.length cv) X9 from ⟨Hk8.out.own.same fun i hi => hk9.block i (Hk8.out.own.lt i hi) (fun hm => Hc8.out.apart Hk8.out i hm hi), Hk8.out.new⟩)
              clear hg9 hk9 hs9 y0 y1 y2 y3 y4 y5 y6
              cases fl
              · go_wp2
                go_roundg (gk - 1)
                case measure => have := Hgk2.out; omega
                case rel =>
                  have := Hgk2.out
                  exact ⟨j + 1, false, p2, kn2, .slice Av kn2.length cv, k3, by omega, rfl, rfl, by go_num, by omega, Hc10, Hk10, Hi4⟩
              · go_wp2
                go_roundg (gk - 1)
                case measure => have := Hgk2.out; omega
                case rel =>
                  have := Hgk2.out
                  exact ⟨j + 1, true, p2, kn2, .slice Av kn2.length cv, k3, by omega, rfl, rfl, by go_num, by omega, Hc10, Hk10, Hi4⟩
            · have Hi4 := Lib.hid (Hi3.out.join (c := c) Hel.out (by have := He2.out; have := Hp1.out; omega) (by rw [Hq.out]; exact Ho.out) (by rw [Hr.out]; exact hrc))
              have hd : decide (E.root p2 c ≠ E.root p2 r) = true := by rw [Hrr.out]; simp [hrc]
              have Hd := Lib.hid hd
              clear hrc hd
              go_wp2_with fail
              (with_reducible refine Hun.out.mono ?_)
              rintro e0 X9 ⟨rfl, hg9, hk9, hs9⟩
              rw [Hd.out]
              have Hc10 := Lib.hid (Hc8.out.unite HMb.out.2.2.1 HMb.out.1 HMb.out.2.2.2.1 HMb.out.2.2.2.2.2 hg9 hk9)
              have Hk10 := Lib.hid (show CKp W (.slice (some ⟨g3, off3, none⟩) es1.length c3) kn2 (.slice Av kn2.length cv) X9 from ⟨Hk8.out.own.same fun i hi => hk9.block i (Hk8.out.own.lt i hi) (fun hm => Hc8.out.apart Hk8.out i hm hi), Hk8.out.new⟩)
              have Hi5 := Lib.hid (show CI p1 es1 (E.join p2 c r) kn2 true (j + 1) from by have := Hi4.out; rw [Hr.out] at this; exact this)
              clear hg9 hk9 hs9 y0 y1 y2 y3 y4 y5 y6
              go_wp2
              go_roundg (gk - 1)
              case measure => have := Hgk2.out; omega
              case rel =>
                have := Hgk2.out
                exact ⟨j + 1, true, E.join p2 c r, kn2, .slice Av kn2.length cv, k3, by omega, rfl, rfl, by go_num, by omega, Hc10, Hk10, Hi5⟩
        · obtain rfl : j = es1.length := by omega
          have hend := Hi3.out.end_ (Nat.le_refl _)
          obtain ⟨Av, cv, hv⟩ := Hk3.out.own.form
          have k2c : wr.cell? ⟨b, 2, none⟩ = some (.slice A3 es1.length c3) := Hc3.out.gr.cells.2.2.1
          have kf : wr.frozen? ⟨b, 2, none⟩ = false := frozen_row Hc3.out.gr.row _
          have Hend := Lib.hid hend
          have Hg4 := Lib.hid (Hc3.out.gr.set3 Hk3.out.own)
          subst hv
          clear hend hjl
          go_wp2
          clear k2c kf
          go_roundg (if fl then E.roots p2 + 1 else 0)
          case measure =>
            have := Hgk.out
            simp only [if_true] at this
            cases fl with
            | false => simp; omega
            | true =>
              have hr := E.pass_roots (es := es1) (kn := []) Ho1.out.mid.down (fun e he => by cases he) Ho1.out.mid.inn (by rw [Hend.out])
              rw [Hend.out] at hr
              simp only [if_true]
              dsimp only at hr
              omega
          case rel =>
            have hmid := Ho1.out.mid.step
            rw [Hend.out] at hmid
            refine ⟨fl, p2, kn2, kn2, .slice Av kn2.length cv, k3, rfl, rfl, Lib.hid ⟨Hg4.out, Hc3.out.kp.setCell (p := ⟨b, 2, none⟩) (fun _ => HMb.out.1) _, fun i hi => .inr (Hk3.out.new i hi).1, Hc3.out.nk⟩, Lib.hid ⟨hmid, fun k hk => by rw [Hi3.out.len]; exact Hi3.out.ar k hk, Hi3.out.owf, Nat.le_trans Hi3.out.le Ho1.out.le⟩, Lib.hid fun hfl => ⟨⟨rfl, ?_⟩, ?_⟩, Lib.hid fun hfl p' es' hdn => Hd1.out (by trivial) p' es' (.more (by rw [Hend.out]; exact hfl) (by rw [Hend.out]; exact hdn))⟩
            · have hl := E.Done.last (p := p1) (es := es1) (by rw [Hend.out]; exact hfl)
              rw [Hend.out] at hl
              exact Hd1.out (by trivial) _ _ hl
            have hq := Ho1.out.mid.last (by rw [Hend.out]; exact hfl)
            rw [Hend.out] at hq
            exact hq
end Go.Proofs.YtcmlmjbpdaecbaaGreat
