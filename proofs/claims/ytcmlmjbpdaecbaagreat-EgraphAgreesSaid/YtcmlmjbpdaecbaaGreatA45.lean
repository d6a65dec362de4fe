/- Graphs (the program): Agrees. -/
import Derived.Test.YtcmlmjbpdaecbaaGreatA44
set_option linter.unusedVariables false
set_option linter.unusedSimpArgs false
namespace Go.Proofs.YtcmlmjbpdaecbaaGreat
open Go.RowKit Go.MapKept Go.Maps Go.WideMaps
set_option linter.unusedVariables false
set_option linter.unusedSimpArgs false

namespace E
def vf (vm : List (Int × Int)) (c : Nat) : Option Int := AL.get vm (c : Int)
/-- the values in a map -/
structure VM (s : Gr) (env : List Int) (vm : List (Int × Int)) : Prop where
  val : Val s env (vf vm)
  keys : ∀ q ∈ vm, 0 ≤ q.1 ∧ q.1 < (s.p.length : Int)
theorem VM.start (s : Gr) (env : List Int) : VM s env [] := ⟨Val.start s env, fun q hq => by cases hq⟩
theorem vf_put (vm : List (Int × Int)) (d : Nat) (n : Int) : vf (AL.put vm (d : Int) n) = fun c => if c = d then some n else vf vm c := by
  funext c
  unfold vf
  by_cases h : c = d
  · subst h; rw [if_pos rfl]; exact AL.get_put_same vm _ n
  · rw [if_neg h]; exact AL.get_put_other vm n (fun e => h (by omega))
theorem VM.put {s : Gr} {env : List Int} {vm : List (Int × Int)} (h : VM s env vm) (a : Ag s env) {e : Opn × Nat} (he : e ∈ s.es) (hc : root s.p e.2 = e.2) (hk : Known (vf vm) e.1) : VM s env (AL.put vm (e.2 : Int) (opv s.wd env e.1 (vsOf (fv (vf vm)) e.1))) := by
  refine ⟨?_, fun q hq => ?_⟩
  · rw [vf_put]
    have := h.val.set a he hk
    rw [hc] at this
    exact this
  · rcases AL.mem_put hq with hq | rfl
    · exact h.keys q hq
    · have := a.inn e he
      exact ⟨by dsimp only; omega, by dsimp only; omega⟩
theorem VM.len {s : Gr} {env : List Int} {vm : List (Int × Int)} (h : VM s env vm) (hn : (vm.map Prod.fst).Nodup) : vm.length ≤ s.p.length := by
  have := nodup_len_le (m := (List.range s.p.length).map fun c => ((c : Nat) : Int)) hn fun x hx => by
    obtain ⟨q, hq, rfl⟩ := List.mem_map.1 hx
    have := h.keys q hq
    exact List.mem_map.2 ⟨q.1.toNat, List.mem_range.2 (by omega), by omega⟩
  simpa using this
/-- all that is known was asked -/
def AskedTo (s : Gr) (env : List Int) (f : Nat → Option Int) (j : Nat) : Prop := ∀ i, i < j → ∀ e, s.es[i]? = some e → Known f e.1 → f (root s.p e.2) = some (opv s.wd env e.1 (vsOf (fv f) e.1))
theorem AskedTo.next {s : Gr} {env : List Int} {f : Nat → Option Int} {j : Nat} (h : AskedTo s env f j) {e : Opn × Nat} (he : s.es[j]? = some e) (hn : Known f e.1 → f (root s.p e.2) = some (opv s.wd env e.1 (vsOf (fv f) e.1))) : AskedTo s env f (j + 1) := fun i hi e' he' hk => by
  rcases Nat.lt_or_ge i j with c | c
  · exact h i c e' he' hk
  · have : i = j := by omega
    subst this
    rw [he] at he'
    cases he'
    exact hn hk
theorem AskedTo.good {s : Gr} {env : List Int} {f : Nat → Option Int} (h : AskedTo s env f s.es.length) (a : Ag s env) : ∃ V, Cons s env V :=
  a.good fun e he hk => by
    obtain ⟨i, hi⟩ := List.getElem?_of_mem he
    exact h i (List.getElem?_eq_some_iff.1 hi).1 e hi hk
/-- what Agrees tells -/
inductive AgR (s : Gr) (env : List Int) : Bool → Int → Prop where
  | len (h : env.length ≠ 4) : AgR s env false 1
  | fit (h : env.length = 4) {i : Nat} (hi : i < 4) (h0 : 0 < s.vr.get i) (hf : ¬ env.getD i 0 < B.pw (s.vr.get i)) : AgR s env false 1
  | yes (he : EnvG s.vr env) (h : ∃ V, Cons s env V) : AgR s env true 0
  | no (he : EnvG s.vr env) (h : ¬ ∃ V, Cons s env V) : AgR s env false 0
theorem AgR.same {s r : Gr} {env : List Int} {a b : Bool} {x y : Int} (al : Alike s r) (h : AgR s env a x) (k : AgR r env b y) : a = b ∧ x = y := by
  have hc : (∃ V, Cons s env V) ↔ ∃ V, Cons r env V := ⟨fun ⟨V, h⟩ => ⟨V, (al.cons env V).1 h⟩, fun ⟨V, h⟩ => ⟨V, (al.cons env V).2 h⟩⟩
  have hv := al.vr
  cases h with
  | len h =>
    cases k with
    | len _ => exact ⟨rfl, rfl⟩
    | fit _ _ _ _ => exact ⟨rfl, rfl⟩
    | yes he _ => exact absurd he.len h
    | no he _ => exact absurd he.len h
  | fit h hi h0 hf =>
    cases k with
    | len _ => exact ⟨rfl, rfl⟩
    | fit _ _ _ _ => exact ⟨rfl, rfl⟩
    | yes he _ => rw [hv] at h0 hf; exact absurd (he.fit _ hi h0) hf
    | no he _ => rw [hv] at h0 hf; exact absurd (he.fit _ hi h0) hf
  | yes he h =>
    cases k with
    | len h' => exact absurd he.len h'
    | fit _ hi h0 hf => rw [← hv] at h0 hf; exact absurd (he.fit _ hi h0) hf
    | yes _ _ => exact ⟨rfl, rfl⟩
    | no _ h' => exact absurd (hc.1 h) h'
  | no he h =>
    cases k with
    | len h' => exact absurd he.len h'
    | fit _ hi h0 hf => rw [← hv] at h0 hf; exact absurd (he.fit _ hi h0) hf
    | yes _ h' => exact absurd (hc.2 h') h
    | no _ _ => exact ⟨rfl, rfl⟩
end E
/-- behind Agrees -/
def AgPost (W : World) (s : E.Gr) (env : List Int) (e : Ending) (w' : World) : Prop := Below W.heap.size W w' ∧ ∃ is er, e = .returned (.tuple #[.bool is, .int .i64 er]) ∧ E.AgR s env is er
theorem idx4_at (vr : E.Vr) {j : Nat} (hj : j < 4) (w : World) : (Instr.index 78 (.agg #[.int .i64 vr.a, .int .i64 vr.b, .int .i64 vr.c, .int .i64 vr.d]) (.int .i64 (j : Int))).run Tryz.prog w = .ok (.int .i64 (vr.get j)) w := by
  obtain ⟨a, b, c, d⟩ := vr
  rcases (show j = 0 ∨ j = 1 ∨ j = 2 ∨ j = 3 by omega) with rfl | rfl | rfl | rfl
  · exact (show (Instr.index 78 (.agg #[.int .i64 a, .int .i64 b, .int .i64 c, .int .i64 d]) (.int .i64 0)).run Tryz.prog w = .ok (.int .i64 a) w from by kernel_rfl)
  · exact (show (Instr.index 78 (.agg #[.int .i64 a, .int .i64 b, .int .i64 c, .int .i64 d]) (.int .i64 1)).run Tryz.prog w = .ok (.int .i64 b) w from by kernel_rfl)
  · exact (show (Instr.index 78 (.agg #[.int .i64 a, .int .i64 b, .int .i64 c, .int .i64 d]) (.int .i64 2)).run Tryz.prog w = .ok (.int .i64 c) w from by kernel_rfl)
  · exact (show (Instr.index 78 (.agg #[.int .i64 a, .int .i64 b, .int .i64 c, .int .i64 d]) (.int .i64 3)).run Tryz.prog w = .ok (.int .i64 d) w from by kernel_rfl)

set_option maxRecDepth 100000 in
set_option maxHeartbeats 8000000 in
theorem gAgrees_any {W : World} {b n ce : Nat} {Ae : Option Addr} {s : E.Gr} {env : List Int} {v1 v2 v3 v4 : Value} {kb : Nat} (h : GrC W b s.p s.wd s.es s.es s.nm s.vr v1 v2 v3 v4 kb) (hwl : s.wd.length ≤ 900000) (hen : s.es.length ≤ 900000) (hvw : ∀ i, i < 4 → s.vr.get i = 0 ∨ (1 ≤ s.vr.get i ∧ s.vr.get i ≤ 32)) (hcl : ∀ e ∈ s.es, E.root s.p e.2 = e.2) (hwp : s.wd.length = s.p.length) (hag : E.EnvG s.vr env → E.Ag s env) (hE : SlAt (IntR .u32) W Ae n env) (hew : ∀ x ∈ env, 0 ≤ x ∧ x < 4294967296) :
    Calls Tryz.prog 11 #[.pointer (some ⟨b, 0, none⟩), .slice Ae n ce] W (AgPost W s env) := by
  have hlen := hE.len
  have hle := hE.le
  by_cases hn : n = 4
  rotate_left
  · have q : ((n : Int) != 4) = true := by simp; omega
    have Hr := Lib.hid (show E.AgR s env false 1 from .len (by omega))
    clear h hag hE hew hcl hvw
    go_enter Tryz.func11, Tryz.ntmps11
    go_wp2_with fail
    refine bodyPost_ret (results_tmp2 rfl _ _ _) rfl ?_
    exact ⟨Below.refl _ _, false, 1, rfl, Hr.out⟩
  subst hn
  have H := Lib.hid h
  have Hvw := Lib.hid hvw
  have Hcl := Lib.hid hcl
  have Hwp := Lib.hid hwp
  have Hag := Lib.hid hag
  have HE := Lib.hid hE
  have Hew := Lib.hid hew
  have Hlen := Lib.hid hlen
  have HM := Lib.hid (fun z W' => Mask_any z W')
  have u0 := h.varAt (i := 0) (by decide)
  have u1 := h.varAt (i := 1) (by decide)
  have u2 := h.varAt (i := 2) (by decide)
  have u3 := h.varAt (i := 3) (by decide)
  have u0' : W.cell? ⟨b, 5, none⟩ = some (.int .i64 s.vr.a) := u0
  have u1' : W.cell? ⟨b, 6, none⟩ = some (.int .i64 s.vr.b) := u1
  have u2' : W.cell? ⟨b, 7, none⟩ = some (.int .i64 s.vr.c) := u2
  have u3' : W.cell? ⟨b, 8, none⟩ = some (.int .i64 s.vr.d) := u3
  clear h hvw hcl hwp hag hE hew hlen u0 u1 u2 u3
  go_enter Tryz.func11, Tryz.ntmps11
  go_wp2_with fail
  clear u0' u1' u2' u3'
  go_loopg [27] 5 (fun gg s27 wr => ∃ (j : Nat), j ≤ 4 ∧ s27 = .int .i64 (j : Int) ∧ gg + j = 5 ∧ wr = W ∧ Hid (∀ i, i < j → 0 < s.vr.get i → env.getD i 0 < B.pw (s.vr.get i)))
  case atStart => exact ⟨0, by omega, rfl, rfl, rfl, Lib.hid (fun i hi => absurd hi (Nat.not_lt_zero _))⟩
  case round =>
    obtain ⟨j, hj, rfl, hgk, hw, Hfit⟩ := hrel
    subst hw
    have Hgk := Lib.hid hgk
    clear hgk
    by_cases h4 : j < 4
    · have ix := idx4_at s.vr h4
      obtain ⟨z, hz⟩ : ∃ z, s.vr.get j = z := ⟨_, rfl⟩
      rw [hz] at ix
      have hM := HM.out z wr
      obtain ⟨x, be, offe, ue, hx, rfl, hbe, hce, hue⟩ := HE.out.at_ h4
      have hue' : ue = .int .u32 x := hue
      subst hue'
      have Hz := Lib.hid hz
      have Hx := Lib.hid (show env.getD j 0 = x from getD_of hx)
      have hzc : z = 0 ∨ (1 ≤ z ∧ z ≤ 32) := by rw [← hz]; exact Hvw.out j h4
      clear hx hue hbe hz
      rcases hzc with rfl | hz1
      · have hM' : Calls Tryz.prog 35 #[.int .i64 0] wr fun e w' => e = .returned (.tuple #[.int .u32 0, .int .i64 1]) ∧ wr = w' := hM
        have HM2 := Lib.hid hM'
        clear hM hM'
        go_wp2_with fail
        (with_reducible refine HM2.out.mono ?_)
        rintro e w2 ⟨rfl, rfl⟩
        go_wp2_with fail
        go_roundg (gk - 1)
        case measure => have := Hgk.out; omega
        case rel =>
          have := Hgk.out
          refine ⟨j + 1, by omega, by go_num, by omega, rfl, Lib.hid (fun i hi h0 => ?_)⟩
          rcases Nat.lt_or_ge i j with c | c
          · exact Hfit.out i c h0
          · obtain rfl : i = j := by omega
            rw [Hz.out] at h0
            exact absurd h0 (by decide)
      · rw [B.isWd_iff.2 hz1] at hM
        have hM' : Calls Tryz.prog 35 #[.int .i64 z] wr fun e w' => e = .returned (.tuple #[.int .u32 (B.pw z - 1), .int .i64 0]) ∧ wr = w' := hM
        have HM2 := Lib.hid hM'
        have qz : z > 0 := by omega
        obtain ⟨m, hm⟩ : ∃ m, B.pw z - 1 = m := ⟨_, rfl⟩
        rw [hm] at HM2
        have Hmm := Lib.hid hm
        clear hM hM' hm
        by_cases hxm : x > m
        · have Hr := Lib.hid (show E.AgR s env false 1 from .fit Hlen.out h4 (by rw [Hz.out]; exact qz) (by rw [Hz.out, Hx.out]; have := Hmm.out; omega))
          go_wp2_with fail
          (with_reducible refine HM2.out.mono ?_)
          rintro e w2 ⟨rfl, rfl⟩
          go_wp2_with fail
          refine bodyPost_ret (results_tmp2 rfl _ _ _) rfl ?_
          exact ⟨Below.refl _ _, false, 1, rfl, Hr.out⟩
        · go_wp2_with fail
          (with_reducible refine HM2.out.mono ?_)
          rintro e w2 ⟨rfl, rfl⟩
          go_wp2_with fail
          go_roundg (gk - 1)
          case measure => have := Hgk.out; omega
          case rel =>
            have := Hgk.out
            refine ⟨j + 1, by omega, by go_num, by omega, rfl, Lib.hid (fun i hi h0 => ?_)⟩
            rcases Nat.lt_or_ge i j with c | c
            · exact Hfit.out i c h0
            · obtain rfl : i = j := by omega
              rw [Hz.out, Hx.out]
              have := Hmm.out
              omega
    · obtain rfl : j = 4 := by omega
      have Heg := Lib.hid (show E.EnvG s.vr env from ⟨Hlen.out, Hew.out, Hfit.out⟩)
      have Ha := Lib.hid (Hag.out Heg.out)
      have hmk := fun W => run_makeMap_any (P := Tryz.prog) Tryz.underlying82 W
      rw [show ((4 : Nat) : Int) = 4 from rfl]
      clear h4 Hgk Hfit Hag
      go_wp2_with fail
      clear hmk
      obtain ⟨W0, rfl⟩ : ∃ w, w = wr := ⟨_, rfl⟩
      obtain ⟨W1, hW1⟩ : ∃ W1, W1 = W0.alloc (.map #[] 0) := ⟨_, rfl⟩
      have HB0 := Lib.hid (show Below W0.heap.size W0 W1 from by rw [hW1]; exact (Below.refl _ _).alloc (Nat.le_refl _) _)
      have HM0 := Lib.hid (show MapAt Tryz.prog 3 ekI U32E W1 W0.heap.size ([] : List (Int × Int)) from by rw [hW1]; exact MapAt.made W0)
      rw [← hW1]
      clear hW1
      go_loopg [11] (s.p.length + 1) (fun gg s11 wx => ∃ (again : Bool) (vm : List (Int × Int)), s11 = .bool again ∧ gg = (if again then s.p.length + 1 - vm.length else 0) ∧ Hid (Below W0.heap.size W0 wx) ∧ Hid (MapAt Tryz.prog 3 ekI U32E wx W0.heap.size vm) ∧ Hid (E.VM s env vm) ∧ Hid (again = false → E.AskedTo s env (E.vf vm) s.es.length))
      case atStart => exact ⟨true, [], rfl, rfl, HB0, HM0, Lib.hid (E.VM.start s env), Lib.hid (fun h => by cases h)⟩
      case round =>
        obtain ⟨again, vm, rfl, hgk, Hb, Hm, Hvm, Hend⟩ := hrel
        have Hgk := Lib.hid hgk
        clear hgk HB0 HM0
        cases again with
        | false =>
          have Hr := Lib.hid (show E.AgR s env true 0 from .yes Heg.out ((Hend.out rfl).good Ha.out))
          go_wp2_with fail
          refine bodyPost_ret (results_tmp2 rfl _ _ _) rfl ?_
          exact ⟨Hb.out, true, 0, rfl, Hr.out⟩
        | true =>
          obtain ⟨A3, c3, rfl⟩ := H.out.o3.form
          obtain ⟨_, _, q2, _, _⟩ := (H.out.below Hb.out).cells
          have hln3 := H.out.o3.le
          obtain ⟨gO, hgO⟩ : ∃ g, g = gk := ⟨_, rfl⟩
          rw [← hgO] at Hgk
          clear Hend
          go_wp2_with fail
          clear q2
          go_loopg [11, 54] (s.es.length + 1) (fun gg s11 s54 wx => ∃ (j : Nat) (fl : Bool) (vm1 : List (Int × Int)), j ≤ s.es.length ∧ s11 = .bool fl ∧ s54 = .int .i64 (j : Int) ∧ gg + j = s.es.length + 1 ∧ Hid (Below W0.heap.size W0 wx) ∧ Hid (MapAt Tryz.prog 3 ekI U32E wx W0.heap.size vm1) ∧ Hid (E.VM s env vm1) ∧ Hid (fl = false → E.AskedTo s env (E.vf vm1) j) ∧ Hid (fl = true → vm.length < vm1.length) ∧ Hid (vm.length ≤ vm1.length))
          case atStart => exact ⟨0, false, vm, Nat.zero_le _, rfl, rfl, rfl, Hb, Hm, Hvm, Lib.hid (fun _ i hi => absurd hi (Nat.not_lt_zero _)), Lib.hid (fun h => by cases h), Lib.hid (Nat.le_refl _)⟩
          case round =>
            obtain ⟨j, fl, vm1, hj, rfl, rfl, hgk2, Hb1, Hm1, Hvm1, Has, Hgr1, Hle1⟩ := hrel
            have Hgk2 := Lib.hid hgk2
            clear hgk2
            by_cases hjl : j < s.es.length
            · have hel : s.es[j]? = some s.es[j] := List.getElem?_eq_getElem hjl
              obtain ⟨e, hee⟩ : ∃ e, e = s.es[j] := ⟨_, rfl⟩
              rw [← hee] at hel
              obtain ⟨g3, off3, c3', hv3, hg3, t0, t1, t2, t3, t4, t5, t6⟩ := ent_at (H.out.below Hb1.out).o3 hel
              cases hv3
              have Hel := Lib.hid hel
              have Hem := Lib.hid (List.mem_of_getElem? hel)
              have hr5 := heap_alloc_new wr (.cells #[.int .i64 e.1.op, .int .i64 e.1.w, .int .u32 e.1.imm, .int .i64 e.1.a0, .int .i64 e.1.a1, .int .i64 e.1.a2, .int .i64 (e.2 : Int)] 87)
              have hb5 : Below wr.heap.size wr (wr.alloc (.cells #[.int .i64 e.1.op, .int .i64 e.1.w, .int .u32 e.1.imm, .int .i64 e.1.a0, .int .i64 e.1.a1, .int .i64 e.1.a2, .int .i64 (e.2 : Int)] 87)) := (Below.refl _ _).alloc (Nat.le_refl _) _
              clear hg3 hee hel
              go_upto_region 19 with (fail)
              clear t0 t1 t2 t3 t4 t5 t6
              obtain ⟨X5, hX5⟩ : ∃ X5, X5 = wr.alloc (.cells #[.int .i64 e.1.op, .int .i64 e.1.w, .int .u32 e.1.imm, .int .i64 e.1.a0, .int .i64 e.1.a1, .int .i64 e.1.a2, .int .i64 (e.2 : Int)] 87) := ⟨_, rfl⟩
              obtain ⟨g5, hg5⟩ : ∃ g5, g5 = wr.heap.size := ⟨_, rfl⟩
              have Hb5 := Lib.hid (Hb1.out.trans (hb5.mono Hb1.out.size))
              have Hm5 := Lib.hid (Hm1.out.keep (R' := U32E) (hb5.block _ Hm1.out.lt) (fun _ _ _ h => h))
              rw [← hX5] at hr5 Hb5 Hm5 ⊢
              rw [← hg5] at hr5 ⊢
              have Hr5 := Lib.hid hr5
              clear hX5 hg5 hb5 Hb1 Hm1
              obtain ⟨y0, y1, y2, y3, y4, y5, y6⟩ := ent7_cells hr5
              have Hval := Lib.hid (gvalue_any (x := e.1) (vm := vm1) (ce := ce) (H.out.below Hb5.out) hwl (Ha.out.ty e Hem.out) (fun i hi => by rw [Hwp.out]; exact (Ha.out.arg_root Hem.out hi).2.2) (Ha.out.vr e Hem.out) (HE.out.below (monoInt _) Hb5.out) Heg.out Hm5.out (fun c m hm => (Hvm1.out.val.word c m hm).2))
              have Hfe := Lib.hid (show (fun c : Nat => AL.get vm1 (c : Int)) = E.vf vm1 from rfl)
              rw [Hfe.out] at Hval
              unfold opV at Hval
              clear hr5
              go_wp2_with fail
              clear y0 y1 y2 y3 y4 y5
              (with_reducible refine Hval.out.mono ?_)
              rintro q w7 ⟨hb7, ⟨hkn, rfl⟩ | ⟨hkn, rfl⟩⟩
              rotate_left
              · have Hb7 := Lib.hid (Hb5.out.trans (hb7.mono Hb5.out.size))
                have Hm7 := Lib.hid (Hm5.out.keep (R' := U32E) (hb7.block _ Hm5.out.lt) (fun _ _ _ h => h))
                have Hkn := Lib.hid hkn
                clear hb7 hkn y6
                go_wp2_with fail
                go_roundg (gk - 1)
                case measure => have := Hgk2.out; omega
                case rel =>
                  have := Hgk2.out
                  exact ⟨j + 1, fl, vm1, by omega, rfl, by go_num, by omega, Hb7, Hm7, Hvm1, Lib.hid (fun hf => (Has.out hf).next Hel.out (fun hk => absurd hk Hkn.out)), Hgr1, Hle1⟩
              · have Hb7 := Lib.hid (Hb5.out.trans (hb7.mono Hb5.out.size))
                have Hm7 := Lib.hid (Hm5.out.keep (R' := U32E) (hb7.block _ Hm5.out.lt) (fun _ _ _ h => h))
                have hr7 := row_step (Lib.hid hb7) Hr5.out
                obtain ⟨_, _, _, _, _, _, z6⟩ := ent7_cells hr7
                have Hkn := Lib.hid hkn
                obtain ⟨n, hn⟩ : ∃ n, E.opv s.wd env e.1 (E.vsOf (E.fv (E.vf vm1)) e.1) = n := ⟨_, rfl⟩
                rw [hn]
                have Hn := Lib.hid hn
                have hlk := look_val Hm7.out (k := (e.2 : Int)) ⟨by omega, by have h1 := Ha.out.inn e Hem.out; have h2 := Hwp.out; omega⟩
                have Hce := Lib.hid (Hcl.out e Hem.out)
                clear hb7 hkn y6 hr7 hn
                cases hg : AL.get vm1 (e.2 : Int) with
                | some m =>
                  rw [hg] at hlk
                  have hlk' : (Instr.lookup 82 (.map (some W0.heap.size)) (.int .i64 (e.2 : Int)) true).run Tryz.prog w7 = .ok (.tuple #[.int .u32 m, .bool true]) w7 := hlk
                  have Hg := Lib.hid (show E.vf vm1 (E.root s.p e.2) = some m from by rw [Hce.out]; exact hg)
                  clear hlk hg
                  by_cases hmn : m = n
                  · subst hmn
                    go_wp2_with fail
                    go_roundg (gk - 1)
                    case measure => have := Hgk2.out; omega
                    case rel =>
                      have := Hgk2.out
                      exact ⟨j + 1, fl, vm1, by omega, rfl, by go_num, by omega, Hb7, Hm7, Hvm1, Lib.hid (fun hf => (Has.out hf).next Hel.out (fun hk => by rw [Hg.out, Hn.out])), Hgr1, Hle1⟩
                  · have q : (m != n) = true := by simpa using hmn
                    have Hr := Lib.hid (show E.AgR s env false 0 from .no Heg.out (Hvm1.out.val.bad Hem.out Hkn.out Hg.out (by rw [Hn.out]; exact hmn)))
                    go_wp2_with fail
                    refine bodyPost_ret (results_tmp2 rfl _ _ _) rfl ?_
                    exact ⟨Hb7.out, false, 0, rfl, Hr.out⟩
                | none =>
                  rw [hg] at hlk
                  have hlk' : (Instr.lookup 82 (.map (some W0.heap.size)) (.int .i64 (e.2 : Int)) true).run Tryz.prog w7 = .ok (.tuple #[.int .u32 0, .bool false]) w7 := hlk
                  have Hg := Lib.hid hg
                  obtain ⟨w8, hupd, hgr, hsz, hM8⟩ := Hm7.out.update intKeyed ekI_inj Tryz.underlying82 (keyOf_i64 (k := (e.2 : Int)) ⟨by omega, by have h1 := Ha.out.inn e Hem.out; have h2 := Hwp.out; omega⟩) (.int .u32 n)
                  unfold ekI at hupd
                  have Hm8 := Lib.hid (hM8 U32E n (fun _ _ _ _ h => h) rfl)
                  have Hb8 := Lib.hid (Hb7.out.grown hgr Hb7.out.size (fun g e => by cases e; exact Nat.le_refl _))
                  have Hv8 := Lib.hid (show E.VM s env (AL.put vm1 (e.2 : Int) n) from by rw [← Hn.out]; exact Hvm1.out.put Ha.out Hem.out Hce.out Hkn.out)
                  have Hl8 := Lib.hid (show (AL.put vm1 (e.2 : Int) n).length = vm1.length + 1 from by rw [AL.length_put, if_pos Hg.out])
                  clear hlk hg hgr hsz hM8
                  go_wp2_with fail
                  go_roundg (gk - 1)
                  case measure => have := Hgk2.out; omega
                  case rel =>
                    have := Hgk2.out
                    have := Hle1.out
                    have := Hl8.out
                    exact ⟨j + 1, true, _, by omega, rfl, by go_num, by omega, Hb8, Hm8, Hv8, Lib.hid (fun hf => by cases hf), Lib.hid (fun _ => by omega), Lib.hid (by omega)⟩
            · obtain rfl : j = s.es.length := by omega
              clear hjl
              go_wp2_with fail
              go_roundg (if fl then s.p.length + 1 - vm1.length else 0)
              case measure =>
                have := Hgk.out
                simp only [if_true] at this
                have hnd : (vm1.map Prod.fst).Nodup := by
                  obtain ⟨es', clock, _, hs, hl, h4⟩ := Hm1.out
                  exact mapAt_nodup hs hl h4
                have hv := Hvm1.out.len hnd
                have := Hle1.out
                cases fl with
                | false => simp; omega
                | true =>
                  have := Hgr1.out rfl
                  simp only [if_true]
                  omega
              case rel => exact ⟨fl, vm1, rfl, rfl, Hb1, Hm1, Hvm1, Has⟩
end Go.Proofs.YtcmlmjbpdaecbaaGreat
