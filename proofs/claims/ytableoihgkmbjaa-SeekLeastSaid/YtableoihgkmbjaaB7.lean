/- Walks of the program's layer of bits: Total. -/
import Derived.Test.YtableoihgkmbjaaB6
namespace Go.Proofs.Ytableoihgkmbjaa
open Go.RowKit Go.Maps Go.Shelf
set_option linter.unusedVariables false

theorem ret_we {a a' b b' : Int} (h : a = a') (h' : b = b') : Ending.returned (.tuple #[.int .u32 a, .int .i64 b]) = .returned (.tuple #[.int .u32 a', .int .i64 b']) := by rw [h, h']

set_option maxRecDepth 100000 in
set_option maxHeartbeats 2000000 in
theorem total_any (op n a b : Int) (w : World) (hop : (Lit.int .i64 op).wf = true) (ha : 0 ≤ a) (hb : 0 ≤ b) : Calls Try.prog 51 #[.int .i64 op, .int .i64 n, .int .u32 a, .int .u32 b] w fun e w' =>
    e = .returned (.tuple #[.int .u32 (B.total op n a b).1, .int .i64 (B.total op n a b).2]) ∧ Below w.heap.size w w' := by
  have HA := Lib.hid (asked_any op n a b w hop)
  cases hok : B.okOp op n a b
  · have ht : B.total op n a b = (0, 1) := by unfold B.total; rw [if_neg (by rw [hok]; simp)]
    rw [hok] at HA
    rw [ht]
    clear ht hok
    go_enter Try.func51, Try.ntmps51
    go_wp2_with fail
    refine HA.out.mono ?_
    rintro e w1 ⟨u, rfl, hbw, hsz, hcase⟩
    obtain ⟨u0, u1, u2, rfl, h0, h1, h2⟩ : ∃ u0 u1 u2, u = .agg #[u0, u1, u2] ∧ u0.oneCell' = true ∧ u1.oneCell' = true ∧ u2.oneCell' = true := by
      rcases hcase with ⟨h, _⟩ | ⟨_, h⟩
      · cases h
      · exact h
    have hst0 : ∀ W A m, (store A u0 m).run Try.prog W = stored Try.prog W A u0 m := fun W A m => run_store _ W A u0 m h0
    have hst1 : ∀ W A m, (store A u1 m).run Try.prog W = stored Try.prog W A u1 m := fun W A m => run_store _ W A u1 m h1
    have hst2 : ∀ W A m, (store A u2 m).run Try.prog W = stored Try.prog W A u2 m := fun W A m => run_store _ W A u2 m h2
    clear h0 h1 h2 hcase
    go_wp2
    go_ret2
    exact ⟨rfl, hbw.alloc hbw.size _⟩
  · have ht : B.total op n a b = (B.full op n a b, 0) := by unfold B.total; rw [if_pos hok]
    have hw : B.Wds n a b := by
      unfold B.okOp at hok
      simp only [Bool.and_eq_true, B.isW_iff, decide_eq_true_eq] at hok
      obtain ⟨⟨_, h1, h2, h3⟩, _, _, h4⟩ := hok
      exact ⟨h1, h2, ha, h3, hb, h4⟩
    rw [hok] at HA
    have Ht := Lib.hid ht; clear ht
    have Hok := Lib.hid hok; clear hok
    have Hw := Lib.hid hw; clear hw
    rw [Ht.out]
    go_enter Try.func51, Try.ntmps51
    go_wp2_with fail
    refine HA.out.mono ?_
    rintro e w1 ⟨u, rfl, hbw, hsz, hcase⟩
    obtain ⟨bm, hel⟩ : ∃ bm, ElB bm w1 op u () := by
      rcases hcase with ⟨_, h⟩ | ⟨h, _⟩
      · exact h
      · cases h
    obtain ⟨f, caps, v1, v2, own, rfl, ⟨hv1, hv2⟩, eg, ho, hd⟩ := hel
    have hst1 : ∀ W A m, (store A v1 m).run Try.prog W = stored Try.prog W A v1 m := fun W A m => run_store _ W A v1 m hv1
    have hst2 : ∀ W A m, (store A v2 m).run Try.prog W = stored Try.prog W A v2 m := fun W A m => run_store _ W A v2 m hv2
    have con := hd (w1.alloc (.cells #[.func (.func f) #[] caps, v1, v2] 99)) (fun B0 hB => Below.heap_alloc _ _ _ (ho B0 hB).1) n a b Hw.out
    have Hcon := Lib.hid con; clear con
    clear hv1 hv2 hcase ho hd
    go_wp2_with fail
    refine Hcon.out.mono ?_
    rintro e w2 ⟨rfl, hdr⟩
    go_wp2
    go_ret2
    exact ⟨rfl, (hbw.alloc hbw.size _).dr hdr⟩
end Go.Proofs.Ytableoihgkmbjaa
