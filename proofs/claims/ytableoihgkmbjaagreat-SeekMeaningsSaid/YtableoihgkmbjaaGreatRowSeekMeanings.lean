/- SeekMeanings: whatever the input, the law returns true, and what came in reads as it did. No condition. -/
import Derived.Test.YtableoihgkmbjaaGreatRows
import Derived.Test.YtableoihgkmbjaaGreatOpenW
import Derived.Test.YtableoihgkmbjaaGreatT25
import Derived.JoinedCond
namespace Go.Proofs.YtableoihgkmbjaaGreat.meanings
open Go.ChangeShapes Go.WideShapes Go.ChangeAt Go.RowKit
set_option linter.unusedVariables false
set_option linter.unusedSimpArgs false

theorem own : ownKnob Tryz.prog.godebug = none := by kernel_rfl

theorem cellsInt : Tryz.prog.cellsOf 3 = 1 := by kernel_rfl
theorem cellsStep : Tryz.prog.cellsOf 46 = 3 := by kernel_rfl
theorem cellsCase : Tryz.prog.cellsOf 23 = 2 := by kernel_rfl

/-- three numbers read as a step -/
theorem readsStep {H : Type} {enc : TypeId × Value → H} {W : World} {fs : Array Field} (hfs : fs.size = 3) (hty : ∀ (j : Nat) (f : Field), fs[j]? = some f → f.type = 3) : ReadsSt enc Tryz.prog W fs StepR := by
  intro n us hl hu
  have get : ∀ j, j < 3 → ∃ x : Int, us[j]? = some (.int .i64 x) := fun j hj => by
    have hj' : j < fs.size := by omega
    obtain ⟨u, y, h1, h2⟩ := hu j fs[j] (Array.getElem?_eq_getElem hj')
    rw [hty j _ (Array.getElem?_eq_getElem hj')] at h2
    obtain ⟨x, e, _, _⟩ := DataW.trod_int Tryz.underlying3 h2
    exact ⟨x, by rw [h1, (List.cons.inj e).1]⟩
  obtain ⟨a, h0⟩ := get 0 (by omega)
  obtain ⟨b, h1⟩ := get 1 (by omega)
  obtain ⟨c, h2⟩ := get 2 (by omega)
  refine ⟨(a, b, c), ?_⟩
  rw [hfs] at hl
  match us, hl, h0, h1, h2 with
  | [u0, u1, u2], _, h0, h1, h2 =>
    simp at h0 h1 h2
    subst h0 h1 h2
    rfl

set_option maxRecDepth 100000 in
theorem contract (H : Type) (enc : TypeId × Value → H) (W : World) (base : Nat) (args : Array Value) (ds gs : List (DataW H)) (before : List MemPlace)
    (hval : ∀ (j : Nat) t v, Tryz.f3.params[j]? = some t → args[j]? = some v → Value.okWide Tryz.prog W .any base t v)
    (hW : DataW.Whole enc Tryz.prog Tryz.f3.params.toList Rows.seekMeaningsSpec.vars false W args.toList ds gs before) :
    Calls Tryz.prog 3 args W fun e W' => ∃ v, e = .returned v ∧ Rows.seekMeaningsSpec.post enc Tryz.prog Tryz.f3 false true false false W args v W' := by
  have hW' := hW
  obtain ⟨p, q, hA0, hV, rfl, hfz, hnd⟩ := hW
  have hA : DataW.TrodAll enc Tryz.prog W 0 (fun _ => true) true Tryz.f3.params.toList args.toList ds p := hA0
  rw [Tryz.params3] at hA hval
  obtain ⟨rfl, rfl⟩ := trodVars_none hV
  obtain ⟨v0, vs0, d0, ds0, p0, q0, hargs, rfl, rfl, h0, r0⟩ := trodAll_cons hA
  obtain ⟨v1, vs1, d1, ds1, p1, q1, rfl, rfl, rfl, h1, r1⟩ := trodAll_cons r0
  obtain ⟨rfl, rfl, rfl⟩ := trodAll_nil r1
  obtain rfl : args = #[v0, v1] := by cases args; simp_all
  obtain ⟨u0, u1, n0, x0, x1, rfl, g0, g1⟩ := open_agg2 Tryz.underlying23 cellsCase rfl rfl cellsInt cellsInt (hval 0 23 v0 rfl rfl) h0
  obtain ⟨k, e0, _, _⟩ := DataW.trod_int Tryz.underlying3 g0
  obtain ⟨w, e1, _, _⟩ := DataW.trod_int Tryz.underlying3 g1
  obtain rfl : u0 = .int .i64 k := (List.cons.inj e0).1
  obtain rfl : u1 = .int .i64 w := (List.cons.inj e1).1
  obtain ⟨A1, m1, c1, row, rfl, s1⟩ := open_st (R := StepR) Tryz.underlying24 Tryz.underlying46 (by kernel_rfl) cellsStep (by decide) (readsStep rfl (fun j f h => by rcases j with _ | _ | _ | j <;> simp at h <;> (subst h; rfl))) (hval 1 24 v1 rfl rfl) h1
  have hr : (Tryz.f3.params.toList.all fun t => Tryz.prog.readableRec t && decide (t < Tryz.prog.types.size)) = true := by kernel_rfl
  have hl : laidOutB Tryz.prog = true := by kernel_rfl
  have hrt : Tryz.f3.resultTypes = #[4] := by kernel_rfl
  refine (seekMeanings_any k w A1 m1 c1 row W s1).mono fun e W' ⟨he, hb⟩ => ?_
  subst he
  exact ⟨_, rfl, post_true (tb := 4) hl rfl hr hW' rfl hrt Tryz.underlying4 hb⟩

set_option maxRecDepth 100000 in
theorem lifted (os : Os) (started : os.Started) (H : Type) (enc : TypeId × Value → H) :
    ReturnsInHanded {} Tryz.checked os 3 .any (Rows.seekMeaningsRow.pre enc Tryz.prog Tryz.f3 (OpenSpec.ofChange Rows.seekMeaningsSpec)) (Rows.seekMeaningsSpec.post enc Tryz.prog Tryz.f3 false true false false) := by
  refine returnsInHanded_of_change (C := Tryz.checked) (s := Rows.seekMeaningsSpec) own started (by kernel_rfl) Tryz.func3
    (ChangeSpec.witness6 (enc := enc) (C := Tryz.checked) false ⟨#[], #[.agg #[.int .i64 0, .int .i64 0], .slice none 0 0], []⟩ 8 (by kernel_rfl) (by kernel_rfl) (by kernel_rfl) (by kernel_rfl)) ?_
  intro W base args ds gs before hval hW _ _
  exact contract H enc W base args ds gs before hval hW

theorem proved : Rows.SeekMeaningsSaid :=
  OpenClaim.holds_of_wide 3 Tryz.f3 rfl rfl rfl rfl rfl rfl rfl ⟨rfl, rfl, rfl, rfl, rfl⟩ rfl rfl rfl rfl rfl (by kernel_rfl) Tryz.func3 (by kernel_rfl)
    (of_decide_eq_true (by kernel_rfl)) (by unfold Func.isWrapper; first | (rw [if_pos (by decide +kernel)]; kernel_rfl) | (rw [if_neg (by decide +kernel)]; exact ⟨rfl, rfl⟩))
    (fun os started H enc _ => lifted os started H enc)
end Go.Proofs.YtableoihgkmbjaaGreat.meanings
