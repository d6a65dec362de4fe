/- RuleKeys: whatever the input, the law returns true, and what came in reads as it did. The three listed variables, tables of the library, are tied to the program's own text. No other condition. -/
import Derived.Test.YtbiopedpceddeaaGreatDoorRows
import Derived.Test.YtbiopedpceddeaaGreatDoorCards
import Derived.Test.YtbiopedpceddeaaGreatDoorTie
import Derived.Test.YtbiopedpceddeaaGreatDoorL38
import Derived.Test.YtbiopedpceddeaaGreatDoorL48
import Derived.JoinedCond
import Derived.ChangeVars
import Derived.JoinedOf
import Derived.LaidHandle
import Derived.SevenTiedAt
set_option linter.unusedVariables false
set_option linter.unusedSimpArgs false
namespace Go.Proofs.YtbiopedpceddeaaGreatDoor.keysrow
open Go.ChangeShapes Go.WideShapes Go.ChangeAt Go.RowKit
set_option linter.unusedVariables false
set_option linter.unusedSimpArgs false

theorem own : ownKnob Tryz.prog.godebug = none := by kernel_rfl

set_option maxRecDepth 100000 in
theorem contract (H : Type) (enc : TypeId × Value → H) (W : World) (base : Nat) (args : Array Value) (ds gs : List (DataW H)) (before : List MemPlace)
    (hval : ∀ (j : Nat) t v, Tryz.f4.params[j]? = some t → args[j]? = some v → Value.okWide Tryz.prog W .any base t v)
    (hW : DataW.Whole enc Tryz.prog Tryz.f4.params.toList Rows.ruleKeysSpec.vars false W args.toList ds gs before) (hL : laidMetH Tryz.prog Rows.ruleKeysRow.laid W) :
    Calls Tryz.prog 4 args W fun e W' => ∃ v, e = .returned v ∧ Rows.ruleKeysSpec.post enc Tryz.prog Tryz.f4 false true false false W args v W' := by
  have hW' := hW
  obtain ⟨p, q, hA0, hV, rfl, hfz, hnd⟩ := hW
  have hA : DataW.TrodAll enc Tryz.prog W 0 (fun _ => true) true Tryz.f4.params.toList args.toList ds p := hA0
  rw [Tryz.params4] at hA hval
  obtain ⟨rfl, rfl⟩ := trodVars_none hV
  obtain ⟨v0, vs0, d0, ds0, p0, q0, hargs, rfl, rfl, h0, r0⟩ := trodAll_cons hA
  obtain ⟨v1, vs1, d1, ds1, p1, q1, rfl, rfl, rfl, h1, r1⟩ := trodAll_cons r0
  obtain ⟨rfl, rfl, rfl⟩ := trodAll_nil r1
  obtain rfl : args = #[v0, v1] := by cases args; simp_all
  obtain ⟨r, nl, cl, nr, cr, np, cp, AL, AR, AP, rfl, sr⟩ := open_rule (hval 0 33 v0 rfl rfl) h0
  obtain ⟨q, ml, dl, mr, dr, mp, dp, BL, BR, BP, rfl, sq⟩ := open_rule (hval 1 33 v1 rfl rfl) h1
  obtain ⟨hT, hN⟩ := KT.tabs_of_laid hL
  have hr : (Tryz.f4.params.toList.all fun t => Tryz.prog.readableRec t && decide (t < Tryz.prog.types.size)) = true := by kernel_rfl
  have hl : laidOutB Tryz.prog = true := by kernel_rfl
  have hrt : Tryz.f4.resultTypes = #[4] := by kernel_rfl
  refine (KT.ruleKeys_any (cl := cl) (cr := cr) (cp := cp) (dl := dl) (dr := dr) (dp := dp) sr sq hT hN).mono fun e W' ⟨he, hb⟩ => ?_
  subst he
  exact ⟨_, rfl, post_true (tb := 4) hl rfl hr hW' rfl hrt Tryz.underlying4 hb⟩

set_option maxRecDepth 100000 in
theorem lifted (os : Os) (started : os.Started) (H : Type) (enc : TypeId × Value → H) :
    ReturnsInHanded {} Tryz.checked os 4 .any (fun w args => (Rows.ruleKeysSpec.pre enc Tryz.prog Tryz.f4 [] false w args ∧ laidMetH Tryz.prog Rows.ruleKeysRow.laid w) ∧ sizedMet enc Tryz.prog Tryz.f4 (OpenSpec.ofChange Rows.ruleKeysSpec) false w args) (Rows.ruleKeysSpec.post enc Tryz.prog Tryz.f4 false true false false) := by
  refine returnsInHanded_of_change_and (C := Tryz.checked) (s := Rows.ruleKeysSpec) (X := fun w _ => laidMetH Tryz.prog Rows.ruleKeysRow.laid w) (fun _ _ _ hh h => h.of_heap hh) own started (by kernel_rfl) Tryz.func4
    (ChangeSpec.witness_at (enc := enc) (C := Tryz.checked) (os := os) (X := fun w _ => laidMetH Tryz.prog Rows.ruleKeysRow.laid w) false (KT.laidWorld3 os) #[.agg #[.slice none 0 0, .slice none 0 0, .slice none 0 0], .agg #[.slice none 0 0, .slice none 0 0, .slice none 0 0]] 8 rfl (by kernel_rfl) (by kernel_rfl) (by kernel_rfl) (by kernel_rfl) (by kernel_rfl) (KT.laid_met3 os _)) ?_
  intro W base args ds gs before hval hW _ _ hL _
  exact contract H enc W base args ds gs before hval hW hL

theorem proved : Rows.RuleKeysSaid :=
  OpenClaim.holds_of_wide 4 Tryz.f4 rfl rfl rfl rfl rfl rfl rfl ⟨rfl, rfl, rfl, rfl, rfl⟩ rfl rfl rfl rfl rfl (by kernel_rfl) Tryz.func4 (by kernel_rfl)
    (of_decide_eq_true (by kernel_rfl)) (by unfold Func.isWrapper; first | (rw [if_pos (by decide +kernel)]; kernel_rfl) | (rw [if_neg (by decide +kernel)]; exact ⟨rfl, rfl⟩))
    (fun os started H enc _ => lifted os started H enc)

theorem cardProved : Rows.RuleKeysCardSaid :=
  Claim7.holds_tied_plain_at .later [] [.data, .data, .data] true (true, "129fe639cdc0f92df0948292d6e13e2e1a5eeb397f9856e57ce90d106835c796") true
    proved (fun _ h => by cases h) (by kernel_rfl) (fun _ h => by cases h) ruleKeys_row_tie rfl ⟨rfl, rfl⟩ (by kernel_rfl) rfl
    (fun f fn hf hfn => by
      obtain rfl : f = 4 := Option.some.inj (hf.symm.trans (show Tryz.prog.funcNamed "backstay/backstaylaw11.RuleKeys" = some 4 by kernel_rfl))
      obtain rfl : fn = Tryz.f4 := (Option.some.inj (Tryz.func4.symm.trans hfn)).symm
      refine ⟨by kernel_rfl, fun j t ht => ?_⟩
      rw [Tryz.params4] at ht
      rcases j with _ | _ | j <;> simp at ht <;> subst ht
      · exact (show Tryz.prog.wantsStandIn 33 = false by kernel_rfl)
      · exact (show Tryz.prog.wantsStandIn 33 = false by kernel_rfl))
    (by kernel_rfl)
end Go.Proofs.YtbiopedpceddeaaGreatDoor.keysrow
