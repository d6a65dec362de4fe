/- RuleSides: whatever the input, the law returns true, and what came in reads as it did. The one listed variable, a table of the library, is tied to the program's own text. No other condition. -/
import Derived.Test.YtmebpgggfppmhaaDoorRows
import Derived.Test.YtmebpgggfppmhaaDoorCards
import Derived.Test.YtmebpgggfppmhaaDoorTie
import Derived.Test.YtmebpgggfppmhaaDoorGH3
import Derived.JoinedCond
import Derived.ChangeVars
import Derived.JoinedOf
import Derived.LaidHandle
import Derived.SevenTiedAt
set_option linter.unusedVariables false
set_option linter.unusedSimpArgs false
namespace Go.Proofs.YtmebpgggfppmhaaDoor.sidesrow
open Go.ChangeShapes Go.WideShapes Go.ChangeAt Go.RowKit
set_option linter.unusedVariables false
set_option linter.unusedSimpArgs false

theorem own : ownKnob Tryd.prog.godebug = none := by kernel_rfl

set_option maxRecDepth 100000 in
theorem contract (H : Type) (enc : TypeId × Value → H) (W : World) (base : Nat) (args : Array Value) (ds gs : List (DataW H)) (before : List MemPlace)
    (hval : ∀ (j : Nat) t v, Tryd.f8.params[j]? = some t → args[j]? = some v → Value.okWide Tryd.prog W .any base t v)
    (hW : DataW.Whole enc Tryd.prog Tryd.f8.params.toList Rows.ruleSidesSpec.vars false W args.toList ds gs before) (hL : laidMetH Tryd.prog Rows.ruleSidesRow.laid W) :
    Calls Tryd.prog 8 args W fun e W' => ∃ v, e = .returned v ∧ Rows.ruleSidesSpec.post enc Tryd.prog Tryd.f8 false true false false W args v W' := by
  have hW' := hW
  obtain ⟨p, q, hA0, hV, rfl, hfz, hnd⟩ := hW
  have hA : DataW.TrodAll enc Tryd.prog W 0 (fun _ => true) true Tryd.f8.params.toList args.toList ds p := hA0
  rw [Tryd.params8] at hA hval
  obtain ⟨rfl, rfl⟩ := trodVars_none hV
  obtain ⟨v0, vs0, d0, ds0, p0, q0, hargs, rfl, rfl, h0, r0⟩ := trodAll_cons hA
  obtain ⟨v1, vs1, d1, ds1, p1, q1, rfl, rfl, rfl, h1, r1⟩ := trodAll_cons r0
  obtain ⟨v2, vs2, d2, ds2, p2, q2, rfl, rfl, rfl, h2, r2⟩ := trodAll_cons r1
  obtain ⟨rfl, rfl, rfl⟩ := trodAll_nil r2
  obtain rfl : args = #[v0, v1, v2] := by cases args; simp_all
  obtain ⟨rl, nl, cl, nr, cr, np, cp, AL, AR, AP, rfl, hR⟩ := open_rule (hval 0 25 v0 rfl rfl) h0
  obtain ⟨w, rfl, rfl, rfl, _⟩ := open_int Tryd.underlying3 (hval 1 3 v1 rfl rfl) h1
  obtain ⟨Ah, nh, ch, hs, rfl, sh⟩ := open_sl Tryd.underlying47 cellsU32 (readsWord Tryd.underlying39) (hval 2 47 v2 rfl rfl) h2
  have hT : TabAt W := tab_of_laid hL
  have hr : (Tryd.f8.params.toList.all fun t => Tryd.prog.readableRec t && decide (t < Tryd.prog.types.size)) = true := by kernel_rfl
  have hl : laidOutB Tryd.prog = true := by kernel_rfl
  have hrt : Tryd.f8.resultTypes = #[4] := by kernel_rfl
  refine (ruleSides_any (w := w) (cl := cl) (cr := cr) (cp := cp) (ch := ch) hR sh.words.1 sh.words.2 hT).mono fun e W' ⟨he, hb⟩ => ?_
  subst he
  exact ⟨_, rfl, post_true (tb := 4) hl rfl hr hW' rfl hrt Tryd.underlying4 hb⟩

set_option maxRecDepth 100000 in
theorem lifted (os : Os) (started : os.Started) (H : Type) (enc : TypeId × Value → H) :
    ReturnsInHanded {} Tryd.checked os 8 .any (fun w args => (Rows.ruleSidesSpec.pre enc Tryd.prog Tryd.f8 [] false w args ∧ laidMetH Tryd.prog Rows.ruleSidesRow.laid w) ∧ sizedMet enc Tryd.prog Tryd.f8 (OpenSpec.ofChange Rows.ruleSidesSpec) false w args) (Rows.ruleSidesSpec.post enc Tryd.prog Tryd.f8 false true false false) := by
  refine returnsInHanded_of_change_and (C := Tryd.checked) (s := Rows.ruleSidesSpec) (X := fun w _ => laidMetH Tryd.prog Rows.ruleSidesRow.laid w) (fun _ _ _ hh h => h.of_heap hh) own started (by kernel_rfl) Tryd.func8
    (ChangeSpec.witness_at (enc := enc) (C := Tryd.checked) (os := os) (X := fun w _ => laidMetH Tryd.prog Rows.ruleSidesRow.laid w) false (laidWorld os) #[.agg #[.slice none 0 0, .slice none 0 0, .slice none 0 0], .int .i64 0, .slice none 0 0] 8 rfl (by kernel_rfl) (by kernel_rfl) (by kernel_rfl) (by kernel_rfl) (by kernel_rfl) (laid_met os _)) ?_
  intro W base args ds gs before hval hW _ _ hL _
  exact contract H enc W base args ds gs before hval hW hL

theorem proved : Rows.RuleSidesSaid :=
  OpenClaim.holds_of_wide 8 Tryd.f8 rfl rfl rfl rfl rfl rfl rfl ⟨rfl, rfl, rfl, rfl, rfl⟩ rfl rfl rfl rfl rfl (by kernel_rfl) Tryd.func8 (by kernel_rfl)
    (of_decide_eq_true (by kernel_rfl)) (by unfold Func.isWrapper; first | (rw [if_pos (by decide +kernel)]; kernel_rfl) | (rw [if_neg (by decide +kernel)]; exact ⟨rfl, rfl⟩))
    (fun os started H enc _ => lifted os started H enc)

theorem cardProved : Rows.RuleSidesCardSaid :=
  Claim7.holds_tied_plain_at .later [] [.data] true (true, "cb977d3ec52faf4efd8ff65c33113a879df8dc1dd6e7cf72a2e808229e4ab0a6") false
    proved (fun _ h => by cases h) (by kernel_rfl) (fun _ h => by cases h) ruleSides_row_tie rfl ⟨rfl, rfl⟩ (by kernel_rfl) rfl
    (fun f fn hf hfn => by
      obtain rfl : f = 8 := Option.some.inj (hf.symm.trans (show Tryd.prog.funcNamed "backstay/backstaylaw11.RuleSides" = some 8 by kernel_rfl))
      obtain rfl : fn = Tryd.f8 := (Option.some.inj (Tryd.func8.symm.trans hfn)).symm
      refine ⟨by kernel_rfl, fun j t ht => ?_⟩
      rw [Tryd.params8] at ht
      rcases j with _ | _ | _ | j <;> simp at ht <;> subst ht
      · exact (show Tryd.prog.wantsStandIn 25 = false by kernel_rfl)
      · exact (show Tryd.prog.wantsStandIn 3 = false by kernel_rfl)
      · exact (show Tryd.prog.wantsStandIn 47 = false by kernel_rfl))
    (by kernel_rfl)
end Go.Proofs.YtmebpgggfppmhaaDoor.sidesrow
