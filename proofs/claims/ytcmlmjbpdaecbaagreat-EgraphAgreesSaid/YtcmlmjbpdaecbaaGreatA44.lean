/- Graphs (the program): the value of an operation. -/
import Derived.Test.YtcmlmjbpdaecbaaGreatA43
set_option linter.unusedVariables false
set_option linter.unusedSimpArgs false
namespace Go.Proofs.YtcmlmjbpdaecbaaGreat
open Go.RowKit Go.MapKept Go.Maps Go.WideMaps
set_option linter.unusedVariables false
set_option linter.unusedSimpArgs false

/-- elements that are words -/
def U32E {κ : Type} (_ : World) (_ : κ) (u : Value) (n : Int) : Prop := u = .int .u32 n
theorem look_val {w : World} {vb : Nat} {vm : List (Int × Int)} (h : MapAt Tryz.prog 3 ekI U32E w vb vm) {k : Int} (hk : I64 k) :
    (Instr.lookup 82 (.map (some vb)) (.int .i64 k) true).run Tryz.prog w = .ok (.tuple #[.int .u32 ((AL.get vm k).getD 0), .bool (AL.get vm k).isSome]) w := by
  have hz : ∀ w, (zeroValue 61).run Tryz.prog w = .ok (.int .u32 0) w := fun w => by go_simp
  obtain ⟨u, _, h2, h3⟩ := h.lookup intKeyed ekI_inj Tryz.underlying82 (hz w) (keyOf_i64 hk)
  unfold ekI at h2
  rw [h2]
  rcases h3 with ⟨h3, h4⟩ | ⟨a, h3, h4⟩
  · rw [h3, h4]; rfl
  · rw [h3, show u = _ from h4]; rfl
theorem idx3_at (x : E.Opn) {j : Nat} (hj : j < 3) (w : World) : (Instr.index 83 (.agg #[.int .i64 x.a0, .int .i64 x.a1, .int .i64 x.a2]) (.int .i64 (j : Int))).run Tryz.prog w = .ok (.int .i64 (E.arg x j)) w := by
  rcases (show j = 0 ∨ j = 1 ∨ j = 2 by omega) with rfl | rfl | rfl
  · exact idx3_0 _ _ _ w
  · exact idx3_1 _ _ _ w
  · exact idx3_2 _ _ _ w
/-- nodes without operands stay where another block turns -/
theorem OwnNd.leaves {B : Nat} {w w' : World} {v : Value} {nds : List T.Nd} (h : OwnNd B w v nds) (hl : ∀ x ∈ nds, x.args = []) (hs : ∀ g, v.ownBlock = some g → w'.heap[g]? = w.heap[g]?) : OwnNd B w' v nds := by
  obtain ⟨cells, h1, h2, h3⟩ := h
  refine ⟨cells, h1.same hs, fun k x hx => ?_, h3⟩
  obtain ⟨A, c, e1, e2, e3, e4, e5⟩ := h2 k x hx
  have ha := hl x (List.mem_of_getElem? hx)
  refine ⟨A, c, e1, ⟨e2.1, e2.2.1, fun k y hy => ?_⟩, e3, e4, fun hn => absurd ha hn⟩
  rw [ha] at hy
  simp at hy
def ixs (j : Nat) : List Int := (List.range j).map fun i => ((i : Nat) : Int)

/-- behind value -/
def ValuePost (W : World) (wd env : List Int) (x : E.Opn) (f : Nat → Option Int) (e : Ending) (w' : World) : Prop :=
  Below W.heap.size W w' ∧ ((E.Known f x ∧ e = .returned (.tuple #[.int .u32 (E.opv wd env x (E.vsOf (E.fv f) x)), .bool true])) ∨ (¬ E.Known f x ∧ e = .returned (.tuple #[.int .u32 0, .bool false])))

set_option maxRecDepth 100000 in
set_option maxHeartbeats 4000000 in
theorem gvalue_any {W : World} {b vb ce : Nat} {Ae : Option Addr} {p : List Nat} {wd env : List Int} {es kn : List (E.Opn × Nat)} {nm : List Nat} {vr : E.Vr} {v1 v2 v3 v4 : Value} {kb : Nat} {x : E.Opn} {vm : List (Int × Int)} (h : GrC W b p wd es kn nm vr v1 v2 v3 v4 kb) (hwl : wd.length ≤ 900000) (ht : E.Ty wd x) (ha : ∀ i, i < E.kn x → (E.arg x i).toNat < wd.length) (hv : x.op = 33 → vr.get x.imm.toNat = x.w) (hE : SlAt (IntR .u32) W Ae 4 env) (he : E.EnvG vr env) (hm : MapAt Tryz.prog 3 ekI U32E W vb vm) (hw : ∀ (c : Nat) m, AL.get vm (c : Int) = some m → 0 ≤ m ∧ m < B.pw (wd.getD c 0)) :
    Calls Tryz.prog 36 #[.pointer (some ⟨b, 0, none⟩), opV x, .slice Ae 4 ce, .map (some vb)] W (ValuePost W wd env x (fun c => AL.get vm (c : Int))) := by
  obtain ⟨f, hf⟩ : ∃ f : Nat → Option Int, f = fun c : Nat => AL.get vm (c : Int) := ⟨_, rfl⟩
  rw [← hf]
  obtain ⟨W2, hW2⟩ : ∃ W2, W2 = W.alloc (.cells #[.int .i64 x.op, .int .i64 x.w, .int .u32 x.imm, .int .i64 x.a0, .int .i64 x.a1, .int .i64 x.a2] 85) := ⟨_, rfl⟩
  have hb2 : Below W.heap.size W W2 := by rw [hW2]; exact (Below.refl _ _).alloc (Nat.le_refl _) _
  have hr0 : W2.heap[W.heap.size]? = some (.cells #[.int .i64 x.op, .int .i64 x.w, .int .u32 x.imm, .int .i64 x.a0, .int .i64 x.a1, .int .i64 x.a2] 85 (0, 0)) := by rw [hW2]; exact heap_alloc_new W _
  obtain ⟨k1, k2⟩ := ht.kn_le
  obtain ⟨y0, y1, y2, y3, y4, y5⟩ := op6_cells hr0
  have Hr0 := Lib.hid hr0
  have Hb2 := Lib.hid hb2
  have H := Lib.hid h
  have Ht := Lib.hid ht
  have Ha := Lib.hid ha
  have Hv := Lib.hid hv
  have HE := Lib.hid hE
  have He := Lib.hid he
  have Hm := Lib.hid hm
  have Hw := Lib.hid hw
  have Hf := Lib.hid hf
  have Hk1 := Lib.hid k1
  have Hwords := Lib.hid (show ∀ i, i < E.kn x → E.Known f x → 0 ≤ (E.vsOf (E.fv f) x).getD i 0 ∧ (E.vsOf (E.fv f) x).getD i 0 < B.pw (E.argW wd x i) from fun i hi hk => by
    rw [E.vsOf_getD hi]
    obtain ⟨m, hm⟩ := hk i hi
    have := hw (E.arg x i).toNat m (by rw [hf] at hm; exact hm)
    unfold E.fv
    rw [hm]
    exact this)
  obtain ⟨K, hK⟩ : ∃ K, E.kn x = K := ⟨_, rfl⟩
  have HK := Lib.hid hK
  rw [hK] at k2
  clear h ht ha hv hE he hm hw hf hb2 hr0 k1 hK
  unfold opV
  go_enter Tryz.func36, Tryz.ntmps36
  go_wp2_with fail
  rw [← hW2]
  clear hW2
  go_wp2_with fail
  clear y0 y1 y2 y3 y4 y5
  go_loopg [10, 11, 20] 4 (fun gg vt va i wr => ∃ (j : Nat), j ≤ 3 ∧ i = .int .i64 (j : Int) ∧ gg + j = 4 ∧ Hid (∀ i, i < j → i < K → ∃ m, f (E.arg x i).toNat = some m) ∧ Hid (OwnNd W2.heap.size wr vt (E.tmC wd x (E.vsOf (E.fv f) x) (min j K))) ∧ Hid (OwnAt wr 3 1 va (min j K) ((ixs (min j K)).map (.int .i64))) ∧ Hid (∀ g, va.ownBlock = some g → W2.heap.size ≤ g) ∧ Hid (Below W2.heap.size W2 wr))
  case atStart => exact ⟨0, by omega, rfl, rfl, Lib.hid (fun i hi => absurd hi (Nat.not_lt_zero _)), Lib.hid (by rw [Nat.zero_min]; exact OwnNd.nil_ _ _), Lib.hid (by rw [Nat.zero_min]; exact OwnAt.nil_ _ _ _), Lib.hid (fun g h => by simp [Value.ownBlock] at h), Lib.hid (Below.refl _ _)⟩
  case round =>
    obtain ⟨j, hj, rfl, hgk, Hkn, Hnd, Hix, Hnew, Hb⟩ := hrel
    have Hgk := Lib.hid hgk
    clear hgk
    have HbW := Lib.hid (Hb2.out.trans (Hb.out.mono Hb2.out.size))
    have hrow := row_step Hb Hr0.out
    obtain ⟨y0, y1, y2, y3, y4, y5⟩ := op6_cells hrow
    clear hrow
    by_cases h3 : j < 3
    · have ix := idx3_at x h3
      obtain ⟨c, hc⟩ : ∃ c, E.arg x j = c := ⟨_, rfl⟩
      rw [hc] at ix
      by_cases hjK : j < K
      · have hc0 : 0 ≤ c := by rw [← hc]; exact Ht.out.hi j (by have := Hk1.out; have := HK.out; omega)
        obtain ⟨cn, rfl⟩ : ∃ cn : Nat, c = cn := ⟨c.toNat, by omega⟩
        have hcl : cn < wd.length := by
          have := Ha.out j (by rw [HK.out]; exact hjK)
          rw [hc] at this
          simpa using this
        have hne : ((cn : Int) == -1) = false := by simp
        have hmp := Hm.out.keep (R' := U32E) (HbW.out.block vb Hm.out.lt) (fun _ _ _ h => h)
        have hlk := look_val hmp (k := (cn : Int)) ⟨by omega, by omega⟩
        have Hc := Lib.hid hc
        cases hg : AL.get vm (cn : Int) with
        | none =>
          rw [hg] at hlk
          have Hno := Lib.hid (show ¬ E.Known f x from fun hk => by
            obtain ⟨m, hm⟩ := hk j (by rw [HK.out]; exact hjK)
            rw [Hc.out, Hf.out, Int.toNat_natCast] at hm
            have : AL.get vm (cn : Int) = some m := hm
            rw [hg] at this; cases this)
          have hlk' : (Instr.lookup 82 (.map (some vb)) (.int .i64 (cn : Int)) true).run Tryz.prog wr = .ok (.tuple #[.int .u32 0, .bool false]) wr := hlk
          clear hlk hg hmp hc y0 y1 y2 y3 y4 y5
          go_wp2_with fail
          refine bodyPost_ret (results_tmp2 rfl _ _ _) rfl ?_
          exact ⟨HbW.out, .inr ⟨Hno.out, rfl⟩⟩
        | some n =>
          rw [hg] at hlk
          have hlk' : (Instr.lookup 82 (.map (some vb)) (.int .i64 (cn : Int)) true).run Tryz.prog wr = .ok (.tuple #[.int .u32 n, .bool true]) wr := hlk
          have hnw := Hw.out cn n hg
          have hn32 : n < 4294967296 := by
            have hws := Ht.out.ws j (by have := Hk1.out; have := HK.out; omega)
            have e : E.argW wd x j = wd.getD cn 0 := by unfold E.argW; rw [Hc.out, Int.toNat_natCast]
            rw [e] at hws
            have := B.pw_le hws.2
            omega
          have Hn := Lib.hid (show 0 ≤ n ∧ n < 4294967296 from ⟨hnw.1, hn32⟩)
          have Hfn := Lib.hid (show f cn = some n from by rw [Hf.out]; exact hg)
          have hgw := H.out.below HbW.out
          obtain ⟨A2, c2, e2, hs2⟩ := hgw.slW
          have kw := hgw.cells.2.1
          rw [e2] at kw
          obtain ⟨wc, g2, o2, u2, hwc, rfl, _, kc, rfl⟩ := hs2.at_ (k := cn) hcl
          have Hwc := Lib.hid (show E.argW wd x j = wc from by unfold E.argW; rw [Hc.out, Int.toNat_natCast, List.getD_eq_getElem?_getD, hwc]; rfl)
          have hlw := hs2.le
          have Hmin := Lib.hid (show min j K = j ∧ min (j + 1) K = j + 1 from ⟨by omega, by omega⟩)
          rw [Hmin.out.1] at Hnd Hix
          have Hlen := Lib.hid (show (E.tmC wd x (E.vsOf (E.fv f) x) j).length ≤ 900000 from by simp [E.tmC]; omega)
          clear hlk hg hmp hc hgw e2 hs2 hwc hnw hn32 y0 y1 y2 y3 y4 y5
          go_upto_region 11 with (at_builtin; refine wpList_append_node rfl (.tmp 34) (.tmp 44) rfl W2.heap.size _ _ rfl Hnd.out _ (E.ndc wc n) ⟨none, 0, rfl, SlAt.nil_ _, Hn.out.1, Hn.out.2, fun h => absurd rfl h⟩ wr.heap.size rfl rfl Hlen.out Hb.out.size ?_; intro v' w' hown' hgr hbb)
          have Hixo := Lib.hid (show OwnAt w' 3 1 _ j ((ixs j).map (.int .i64)) from (Hix.out.below ((Below.refl _ _).alloc (Nat.le_refl _) _) Hix.out.lt).same fun i hi => hgr.block i (by have := Hix.out.lt i hi; simp; omega) (fun e => by
            obtain ⟨_, cur, fr, hc⟩ := Hnd.out.row i e.symm
            exact Hix.out.ne_row hc (by decide) hi))
          have Hown' := Lib.hid hown'
          have Hb' := Lib.hid (hbb _ Hb.out)
          clear hown' hgr hbb kc kw Hlen
          go_wp2_with (at_builtin; refine wpList_append_one' rfl (.tmp 46) (.tmp 48) 60 rfl 3 (.int .i64 0) 8 Tryz.underlying60 infoInt rfl _ j _ rfl Hixo.out (.int .i64 (j : Int)) rfl 3 w'.heap.size rfl rfl (by omega) (by omega) ?_; intro v'' w6 hown6 hgr hat; have Hown6 := Lib.hid hown6; have Hgr := Lib.hid hgr; have Hat := Lib.hid hat; clear hown6 hgr hat)
          have Hvs := Lib.hid (show (E.vsOf (E.fv f) x).getD j 0 = n from by
            rw [E.vsOf_getD (by rw [HK.out]; exact hjK), Hc.out, Int.toNat_natCast]
            unfold E.fv
            rw [Hfn.out]; rfl)
          go_roundg (gk - 1)
          case measure => have := Hgk.out; omega
          case rel =>
            have := Hgk.out
            have hba : Below w'.heap.size w' (w'.alloc (.cells #[.int .i64 (j : Int)] 3)) := (Below.refl _ _).alloc (Nat.le_refl _) _
            refine ⟨j + 1, by omega, by go_num, by omega, Lib.hid (fun i hi hiK => ?_), Lib.hid ?_, Lib.hid ?_, Lib.hid (fun g hg => ?_), Lib.hid ?_⟩
            · rcases Nat.lt_or_ge i j with h | h
              · exact Hkn.out i h hiK
              · obtain rfl : i = j := by omega
                exact ⟨n, by rw [Hc.out, Int.toNat_natCast]; exact Hfn.out⟩
            · rw [Hmin.out.2]
              have e : E.tmC wd x (E.vsOf (E.fv f) x) (j + 1) = E.tmC wd x (E.vsOf (E.fv f) x) j ++ [E.ndc wc n] := by
                unfold E.tmC
                rw [List.range_succ, List.map_append, List.map_cons, List.map_nil, Hwc.out, Hvs.out]
              rw [e]
              refine (Hown'.out.below hba).leaves (fun y hy => ?_) fun g hg => ?_
              · rw [← e] at hy
                unfold E.tmC at hy
                obtain ⟨_, _, rfl⟩ := List.mem_map.1 hy
                rfl
              · obtain ⟨_, cur, fr, hc⟩ := (Hown'.out.below hba).row g hg
                refine Hgr.out.block g (Array.getElem?_eq_some_iff.1 hc).1 fun e => ?_
                exact (Hixo.out.below hba Hixo.out.lt).ne_row hc (by decide) e.symm
            · rw [Hmin.out.2]
              have e : (ixs (j + 1)).map (Value.int .i64) = (ixs j).map (Value.int .i64) ++ [.int .i64 (j : Int)] := by
                unfold ixs
                rw [List.range_succ, List.map_append, List.map_append]; rfl
              rw [e]
              exact Hown6.out
            · rcases Hat.out with e | e
              · exact Hnew.out g (e ▸ hg)
              · rw [e] at hg; injection hg with hg; have := Hb'.out.size; omega
            · exact (Hb'.out.trans (hba.mono Hb'.out.size)).grown Hgr.out (by have := Hb'.out.size; simp; omega) (fun g hg => Hnew.out g hg)
      · have hc1 : c = -1 := by rw [← hc]; exact Ht.out.no j h3 (by have := Hk1.out; have := HK.out; omega)
        subst hc1
        have Hmin := Lib.hid (show min (j + 1) K = min j K from by omega)
        clear hc y0 y1 y2 y3 y4 y5
        go_wp2_with fail
        go_roundg (gk - 1)
        case measure => have := Hgk.out; omega
        case rel =>
          have := Hgk.out
          exact ⟨j + 1, by omega, by go_num, by omega, Lib.hid (fun i hi hiK => Hkn.out i (by omega) hiK), Lib.hid (by rw [Hmin.out]; exact Hnd.out), Lib.hid (by rw [Hmin.out]; exact Hix.out), Hnew, Hb⟩
    · obtain rfl : j = 3 := by omega
      rw [show ((3 : Nat) : Int) = 3 from rfl]
      have Hk3 := Lib.hid (show E.Known f x from fun i hi => Hkn.out i (by have := HK.out; omega) (by rw [← HK.out]; exact hi))
      have hmin : min 3 K = K := by omega
      rw [hmin] at Hnd Hix
      have Hvl := Lib.hid (show T.valid true (E.tmV wd x (E.vsOf (E.fv f) x)) = 0 from Ht.out.valid fun i hi => Hwords.out i hi Hk3.out)
      have Hlen := Lib.hid (show (E.tmC wd x (E.vsOf (E.fv f) x) K).length ≤ 900000 from by simp [E.tmC]; omega)
      obtain ⟨Aa, ca, rfl⟩ := Hix.out.form
      have Hsa := Lib.hid (show SlAt (IntR .i64) wr Aa K (ixs K) from Hix.out.slInts)
      have Hndo := Lib.hid (show NdO W2.heap.size wr [.int .i64 x.op, .int .i64 x.w, .int .i64 0, .slice Aa K ca, .int .u32 x.imm] (E.ndo x) from by
        have el : (E.ndo x).args.length = K := by unfold E.ndo; rw [List.length_map, List.length_range]; exact HK.out
        refine ⟨Aa, ca, by unfold ndC; rw [el]; rfl, ?_, Ht.out.i0.1, Ht.out.i0.2, fun _ b off hA => ?_⟩
        · rw [el]
          have : (E.ndo x).args = ixs K := by unfold E.ndo ixs; rw [HK.out]
          rw [this]; exact Hsa.out
        · rcases Hix.out.2 with ⟨e, _⟩ | ⟨g, off', cap, cur, e, hc, _⟩
          · cases e; cases hA
          · cases e; cases hA
            exact .inr ⟨cur, _, hc⟩)
      clear hmin
      go_upto_region 14 with (at_builtin; refine wpList_append_node rfl (.tmp 51) (.tmp 60) rfl W2.heap.size _ _ rfl Hnd.out _ (E.ndo x) Hndo.out wr.heap.size rfl rfl Hlen.out Hb.out.size ?_; intro v' w' hown' hgr hbb)
      have Hown' := Lib.hid (show OwnNd W2.heap.size w' v' (E.tmV wd x (E.vsOf (E.fv f) x)) from by unfold E.tmV; rw [HK.out]; exact hown')
      have Hb' := Lib.hid (Hb2.out.trans ((hbb _ Hb.out).mono Hb2.out.size))
      clear hown' hgr hbb y0 y1 y2 y3 y4 y5
      obtain ⟨At, ct, rfl⟩ := Hown'.out.form
      have Hln := Lib.hid (show (E.tmV wd x (E.vsOf (E.fv f) x)).length = K + 1 from by rw [E.tmV_len, HK.out])
      rw [Hln.out]
      have Hown2 := Hown'.out
      rw [Hln.out] at Hown2
      have Hst := Lib.hid (Hown2.stAt Hln.out)
      have Hev := Lib.hid (pEval_ok _ env (K + 1) ct ce At Ae w' Hst.out (HE.out.below (monoInt _) Hb'.out) Hvl.out (He.out.tm Ht.out Hv.out _))
      have Hval := Lib.hid (show (T.vals (E.tmV wd x (E.vsOf (E.fv f) x)) env).getD (K + 1 - 1) 0 = E.opv wd env x (E.vsOf (E.fv f) x) from by
        rw [Nat.add_sub_cancel, ← HK.out]
        exact E.tm_vals (E.vsOf_len _ _))
      rw [Hval.out] at Hev
      clear Hown2
      go_wp2_with fail
      (with_reducible refine Hev.out.mono ?_)
      rintro e w6 ⟨rfl, hb6⟩
      have Hb6 := Lib.hid (Hb'.out.trans (hb6.mono Hb'.out.size))
      clear hb6
      go_wp2_with fail
      refine bodyPost_ret (results_tmp2 rfl _ _ _) rfl ?_
      exact ⟨Hb6.out, .inl ⟨Hk3.out, rfl⟩⟩
end Go.Proofs.YtcmlmjbpdaecbaaGreat
