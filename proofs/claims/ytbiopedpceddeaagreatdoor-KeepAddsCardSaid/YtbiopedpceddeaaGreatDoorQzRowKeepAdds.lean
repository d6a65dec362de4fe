/- KeepAdds: whatever the input, the law returns true, and what came in reads as it did. The listed variables, tables and errors of the library, are tied to the program's own text. No other condition. -/
import Derived.Test.YtbiopedpceddeaaGreatDoorRows
import Derived.Test.YtbiopedpceddeaaGreatDoorCards
import Derived.Test.YtbiopedpceddeaaGreatDoorTie
import Derived.Test.YtbiopedpceddeaaGreatDoorQz27
import Derived.JoinedCond
import Derived.ChangeVars
import Derived.JoinedOf
import Derived.LaidHandle
import Derived.SevenTiedAt
set_option linter.unusedVariables false
set_option linter.unusedSimpArgs false
set_option maxRecDepth 100000
set_option maxHeartbeats 16000000
namespace Go.Proofs.YtbiopedpceddeaaGreatDoor.keepaddsrow
open Go.ChangeShapes Go.WideShapes Go.ChangeAt Go.RowKit
open Go.ChangeMaps (open_string)
theorem own : ownKnob Tryz.prog.godebug = none := by kernel_rfl
theorem contract (H : Type) (enc : TypeId × Value → H) (W : World) (base : Nat) (args : Array Value) (ds gs : List (DataW H)) (before : List MemPlace)
 (hval : ∀ (j : Nat) t v, Tryz.f10.params[j]? = some t → args[j]? = some v → Value.okWide Tryz.prog W .any base t v)
 (hW : DataW.Whole enc Tryz.prog Tryz.f10.params.toList Rows.keepAddsSpec.vars false W args.toList ds gs before) (hL : laidMetH Tryz.prog Rows.keepAddsRow.laid W) (hsh : W.ShapedOpen Tryz.prog) :
 Calls Tryz.prog 10 args W fun e W' => ∃ v, e = .returned v ∧ Rows.keepAddsSpec.post enc Tryz.prog Tryz.f10 false true false false W args v W' := by
 have hW' := hW
 obtain ⟨p, q, hA0, hV, rfl, hfz, hnd⟩ := hW
 have hA : DataW.TrodAll enc Tryz.prog W 0 (fun _ => true) true Tryz.f10.params.toList args.toList ds p := hA0
 rw [Tryz.params10] at hA hval
 obtain ⟨rfl, rfl⟩ := trodVars_none hV
 obtain ⟨v0, vs0, d0, ds0, p0, q0, hargs, rfl, rfl, h0, r0⟩ := trodAll_cons hA
 obtain ⟨v1, vs1, d1, ds1, p1, q1, rfl, rfl, rfl, h1, r1⟩ := trodAll_cons r0
 obtain ⟨rfl, rfl, rfl⟩ := trodAll_nil r1
 obtain rfl : args = #[v0, v1] := by cases args; simp_all
 obtain ⟨s0, rfl, _, _, ws0⟩ := open_string Tryz.underlying9 (hval 0 9 v0 rfl rfl) h0
 obtain ⟨l0, rfl, hl0⟩ := KT.bytes_ex s0
 have hm0 : l0.length ≤ 9223372036854775807 := by unfold maxLen at ws0; omega
 obtain ⟨r1, nl, cl, nr, cr, np, cp, AL, AR, AP, rfl, sr1⟩ := open_rule (hval 1 33 v1 rfl rfl) h1
 have hLb := KT.lb_of hL hsh
 have hr : (Tryz.f10.params.toList.all fun t => Tryz.prog.readableRec t && decide (t < Tryz.prog.types.size)) = true := by kernel_rfl
 have hl : laidOutB Tryz.prog = true := by kernel_rfl
 have hrt : Tryz.f10.resultTypes = #[4] := by kernel_rfl
 refine (KT.keepAdds_any (cl := cl) (cr := cr) (cp := cp) hm0 sr1 hLb).mono fun e W' ⟨he, hb⟩ => ?_
 subst he
 exact ⟨_, rfl, post_true (tb := 4) hl rfl hr hW' rfl hrt Tryz.underlying4 hb⟩
theorem lifted (os : Os) (started : os.Started) (H : Type) (enc : TypeId × Value → H) :
 ReturnsInHanded {} Tryz.checked os 10 .any (fun w args => (Rows.keepAddsSpec.pre enc Tryz.prog Tryz.f10 [] false w args ∧ laidMetH Tryz.prog Rows.keepAddsRow.laid w) ∧ sizedMet enc Tryz.prog Tryz.f10 (OpenSpec.ofChange Rows.keepAddsSpec) false w args) (Rows.keepAddsSpec.post enc Tryz.prog Tryz.f10 false true false false) := by
 refine KT.handed_and_shaped (C := Tryz.checked) (s := Rows.keepAddsSpec) (X := fun w _ => laidMetH Tryz.prog Rows.keepAddsRow.laid w) (fun _ _ _ hh h => h.of_heap hh) own started (by kernel_rfl) Tryz.func10
  (ChangeSpec.witness_at (enc := enc) (C := Tryz.checked) (os := os) (X := fun w _ => laidMetH Tryz.prog Rows.keepAddsRow.laid w) false (KT.laidWorld7 os) #[.string ⟨#[]⟩, .agg #[.slice none 0 0, .slice none 0 0, .slice none 0 0]] 8 rfl (by kernel_rfl) (by kernel_rfl) (by kernel_rfl) (by kernel_rfl) (by kernel_rfl) (KT.laid_met7 os _)) ?_
 intro W base args ds gs before hval hW hL hsh
 exact contract H enc W base args ds gs before hval hW hL hsh
theorem k0 : (Rows.keepAddsRow.wf (OpenSpec.ofChange Rows.keepAddsSpec)) = true := by kernel_rfl
theorem k3 : (Tryz.f10.params.all (Tryz.prog.readableRec ·)) = true := by kernel_rfl
theorem k4 : (namedTie Tryz.prog Rows.keepAddsRow.named Rows.keepAddsSpec.vars) = true := by kernel_rfl
theorem k5 : ((Rows.keepAddsRow.stops == [])) = true := by kernel_rfl
theorem k7 : ((Rows.keepAddsRow.knobs == [])) = true := by kernel_rfl
theorem k9 : ((Rows.keepAddsRow.inPlace == Tryz.prog.inPlace (10 : Nat))) = true := by kernel_rfl
theorem k10 : ((Rows.keepAddsRow.unfollowed == Tryz.prog.unfollowed (10 : Nat))) = true := by kernel_rfl
theorem k11 : ((Rows.keepAddsRow.recurses == Tryz.prog.recurses (10 : Nat))) = true := by kernel_rfl
theorem k12 : ((Rows.keepAddsRow.named == Tryz.prog.varsNamed (10 : Nat))) = true := by kernel_rfl
theorem k13 : ((Rows.keepAddsRow.maps == (Tryz.f10.params.toList ++ Rows.keepAddsSpec.plain.varTypes Tryz.prog).any (Tryz.prog.mapsRec ·))) = true := by kernel_rfl
theorem k14 : ((Rows.keepAddsRow.ifaces == (Tryz.f10.params.toList ++ Rows.keepAddsSpec.plain.varTypes Tryz.prog).any (Tryz.prog.ifacesRec ·))) = true := by kernel_rfl
theorem k15 : ((Rows.keepAddsRow.mapsOut == Tryz.prog.mapsAmong Tryz.f10.resultTypes.toList)) = true := by kernel_rfl
theorem k16 : ((Rows.keepAddsRow.loops == (Tryz.f10.params.toList ++ Rows.keepAddsSpec.plain.varTypes Tryz.prog).any (Tryz.prog.loopsFrom ·))) = true := by kernel_rfl
theorem k17 : ((Rows.keepAddsRow.wideKeys == (Tryz.f10.params.toList ++ Rows.keepAddsSpec.plain.varTypes Tryz.prog ++ Tryz.f10.resultTypes.toList).any (Tryz.prog.wideKeysFrom ·))) = true := by kernel_rfl
theorem k18 : (Rows.keepAddsSpec.vars.all (Tryz.prog.varReadable ·)) = true := by kernel_rfl
theorem k19 : (Tryz.f10.resultTypes.all (fun t => Tryz.prog.readableRec t && decide (t < Tryz.prog.types.size))) = true := by kernel_rfl
theorem k20 : ((Rows.keepAddsRow.ifacesOut == Tryz.f10.resultTypes.toList.any (Tryz.prog.ifacesRec ·))) = true := by kernel_rfl
theorem k21 : ((Rows.keepAddsRow.loopsOut == Tryz.f10.resultTypes.toList.any (Tryz.prog.loopsFrom ·))) = true := by kernel_rfl
theorem k23 : (Rows.keepAddsRow.shortTexts.isNone) = true := by kernel_rfl
theorem k28 : ((Rows.keepAddsRow.kinds == (if Rows.keepAddsRow.domain.isEmpty then [] else Tryz.f10.params.toList.map fun t => match Tryz.prog.underlying t with | some (.int k) => some k | _ => none))) = true := by kernel_rfl
theorem k29 : ((Rows.keepAddsRow.pinned == Rows.keepAddsRow.pinnedBy)) = true := by kernel_rfl
theorem k30 : ((Rows.keepAddsRow.veiled == (Tryz.f10.params.toList ++ Rows.keepAddsSpec.plain.varTypes Tryz.prog ++ Tryz.f10.resultTypes.toList).any (Tryz.prog.veiledRec ·))) = true := by kernel_rfl
theorem k31 : (Rows.keepAddsRow.veiledFits Tryz.prog Tryz.f10.params.toList (Tryz.f10.params.toList ++ Rows.keepAddsSpec.plain.varTypes Tryz.prog ++ Tryz.f10.resultTypes.toList)) = true := by kernel_rfl
theorem closed : joinedFacts Tryz.prog 10 Tryz.f10 Rows.keepAddsSpec Rows.keepAddsRow = true := by
 unfold joinedFacts
 exact (KT.and_mk (KT.and_mk (KT.and_mk (KT.and_mk (KT.and_mk (KT.and_mk (KT.and_mk (KT.and_mk (KT.and_mk (KT.and_mk (KT.and_mk (KT.and_mk (KT.and_mk (KT.and_mk (KT.and_mk (KT.and_mk (KT.and_mk (KT.and_mk (KT.and_mk (KT.and_mk (KT.and_mk (KT.and_mk (KT.and_mk (KT.and_mk (KT.and_mk (KT.and_mk (KT.and_mk (KT.and_mk (KT.and_mk (KT.and_mk (KT.and_mk k0 KT.sk1) KT.sk2) k3) k4) k5) KT.sk6) k7) KT.sk8) k9) k10) k11) k12) k13) k14) k15) k16) k17) k18) k19) k20) k21) KT.sk22) k23) KT.sk24) KT.sk25) KT.sk26) KT.sk27) k28) k29) k30) k31)
theorem proved : Rows.KeepAddsSaid :=
 OpenClaim.holds_of_wide 10 Tryz.f10 rfl rfl rfl rfl rfl rfl rfl ⟨rfl, rfl, rfl, rfl, rfl⟩ rfl rfl rfl rfl rfl (by kernel_rfl) Tryz.func10 closed
  (of_decide_eq_true (by kernel_rfl)) (by unfold Func.isWrapper; first | (rw [if_pos (by decide +kernel)]; kernel_rfl) | (rw [if_neg (by decide +kernel)]; exact ⟨rfl, rfl⟩))
  (fun os started H enc _ => lifted os started H enc)
theorem cardProved : Rows.KeepAddsCardSaid :=
 Claim7.holds_tied_plain_at .later [] [.data, .data, .data, .data, .sentinel, .sentinel, .pinned] true (true, "129fe639cdc0f92df0948292d6e13e2e1a5eeb397f9856e57ce90d106835c796") true
  proved (fun _ h => by cases h) (by kernel_rfl) (fun _ h => by cases h) keepAdds_row_tie rfl ⟨rfl, rfl⟩ (by kernel_rfl) rfl
  (fun f fn hf hfn => by
   obtain rfl : f = 10 := Option.some.inj (hf.symm.trans (show Tryz.prog.funcNamed "backstay/backstaylaw26.KeepAdds" = some 10 by kernel_rfl))
   obtain rfl : fn = Tryz.f10 := (Option.some.inj (Tryz.func10.symm.trans hfn)).symm
   refine ⟨by kernel_rfl, fun j t ht => ?_⟩
   rw [Tryz.params10] at ht
   rcases j with _ | _ | j <;> simp at ht <;> subst ht
   · exact (show Tryz.prog.wantsStandIn 9 = false by kernel_rfl)
   · exact (show Tryz.prog.wantsStandIn 33 = false by kernel_rfl))
  (by kernel_rfl)
end Go.Proofs.YtbiopedpceddeaaGreatDoor.keepaddsrow
