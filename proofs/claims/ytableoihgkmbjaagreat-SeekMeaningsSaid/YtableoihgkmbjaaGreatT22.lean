/- The law SeekTerms. -/
import Derived.Test.YtableoihgkmbjaaGreatT21
namespace Go.Proofs.YtableoihgkmbjaaGreat
open Go.RowKit
set_option linter.unusedVariables false
set_option linter.unusedSimpArgs false

/-- what both tables read as -/
def tabL (t : List T.Nd) (k w : Int) : List Int := if K.askedT t k w = 0 then K.tblOf t k.toNat w.toNat else []
theorem TabR.reads {t : List T.Nd} {k w : Int} {W w' : World} {e : Ending} (h : TabR t k w W e w') : ∃ A n c, e = .returned (.tuple #[.slice A n c, .int .i64 (K.askedT t k w)]) ∧ SlAt (IntR .u32) w' A n (tabL t k w) ∧ Below W.heap.size W w' := by
  obtain ⟨hb, ⟨h0, rfl⟩ | ⟨h0, v, rfl, hown, hob⟩⟩ := h
  · exact ⟨none, 0, 0, rfl, by unfold tabL; rw [if_neg h0]; exact SlAt.nil_ _, hb⟩
  · obtain ⟨A, c, rfl⟩ := hown.form
    refine ⟨A, _, c, by rw [h0], ?_, hb⟩
    unfold tabL
    rw [if_pos h0]
    exact hown.slInts

set_option maxHeartbeats 1000000 in
theorem seekTerms_any (t : List T.Nd) (k w : Int) (n ct : Nat) (At : Option Addr) (W : World) (hT : StAt 5 NdR W At n t) :
    Calls Tryz.prog 4 #[.slice At n ct, .agg #[.int .i64 k, .int .i64 w]] W fun e w' => e = .returned (.bool true) ∧ Below W.heap.size W w' := by
  have HK := Lib.hid (fun W' => known_any W')
  obtain ⟨W1, hW1⟩ : ∃ W1, W1 = W.alloc (.cells #[.int .i64 k, .int .i64 w] 23) := ⟨_, rfl⟩
  have hb1 : Below W.heap.size W W1 := by rw [hW1]; exact (Below.refl _ _).alloc (Nat.le_refl _) _
  have hr1 : W1.heap[W.heap.size]? = some (.cells #[.int .i64 k, .int .i64 w] 23 (0, 0)) := by rw [hW1]; exact heap_alloc_new W _
  have Hcell := Lib.hid (show ∀ X, Below W1.heap.size W1 X → X.cell? ⟨W.heap.size, 0, none⟩ = some (.int .i64 k) ∧ X.cell? ⟨W.heap.size, 1, none⟩ = some (.int .i64 w) from fun X hX => by
    have hr := row_step (Lib.hid hX) hr1
    refine ⟨?_, ?_⟩
    all_goals rw [cell_of_row _ _ _ _ _ (0, 0) hr]; rfl)
  have HT1 := Lib.hid (hT.below monoNd hb1)
  have Hb1 := Lib.hid hb1
  have HL := Lib.hid (Long_any t n ct At W1 HT1.out)
  clear hT hb1 hr1
  cases hlong : T.long t
  · rw [hlong] at HL
    have HP := Lib.hid (pMeaningOf_any t k w n ct At W1 HT1.out)
    have HR := Lib.hid (fun X (h : Below W1.heap.size W1 X) => rMeaningOf_any t k w n ct At X (HT1.out.below monoNd h))
    obtain ⟨c0, c1⟩ := Hcell.out W1 (Below.refl _ _)
    clear hlong
    go_enter Tryz.func4, Tryz.ntmps4
    rw [hW1] at c0 c1
    go_wp2_with fail
    rw [← hW1] at c0 c1 ⊢
    clear hW1
    (with_reducible refine HL.out.mono ?_)
    rintro e w' ⟨rfl, rfl⟩
    go_wp2_with fail
    (with_reducible refine HP.out.mono ?_)
    intro e w2 h2
    obtain ⟨A2, n2, c2, rfl, s2, hb2⟩ := h2.reads
    have Hs2 := Lib.hid s2
    have Hb2 := Lib.hid hb2
    obtain ⟨d0, d1⟩ := Hcell.out w2 hb2
    clear h2 s2 hb2 c0 c1
    go_wp2_with fail
    (with_reducible refine (HR.out _ Hb2.out).mono ?_)
    intro e w3 h3
    obtain ⟨A3, n3, c3, rfl, s3, hb3⟩ := h3.reads
    have HS := Lib.hid (SameWords_any A2 A3 n2 n3 c2 c3 _ _ w3 (Hs2.out.below (monoInt _) hb3) s3)
    rw [decide_eq_true rfl] at HS
    have Hb3 := Lib.hid (Hb2.out.trans (hb3.mono Hb2.out.size))
    clear h3 s3 hb3 d0 d1
    generalize K.askedT t k w = er at *
    go_wp2_with fail
    (with_reducible refine HS.out.mono ?_)
    rintro e w4 ⟨rfl, hd4⟩
    have Hb4 := Lib.hid (Hb3.out.dr hd4)
    clear hd4
    go_wp2_with fail
    (with_reducible refine (HK.out _).mono ?_)
    rintro e w5 ⟨rfl, hb5⟩
    have Hb5 := Lib.hid (Hb4.out.trans (hb5.mono Hb4.out.size))
    clear hb5
    go_wp2
    go_ret
    exact ⟨rfl, Hb1.out.trans (Hb5.out.mono Hb1.out.size)⟩
  · rw [hlong] at HL
    clear hlong
    go_enter Tryz.func4, Tryz.ntmps4
    go_wp2_with fail
    rw [← hW1] at ⊢
    (with_reducible refine HL.out.mono ?_)
    rintro e w' ⟨rfl, rfl⟩
    clear hW1
    go_wp2_with fail
    (with_reducible refine (HK.out _).mono ?_)
    rintro e w5 ⟨rfl, hb5⟩
    have Hb5 := Lib.hid (Hb1.out.trans (hb5.mono Hb1.out.size))
    clear hb5
    go_wp2
    go_ret
    exact ⟨rfl, Hb5.out⟩
end Go.Proofs.YtableoihgkmbjaaGreat
