/- Walks of the laws: known; ProofChecks. -/
import Derived.Test.YtceelipcclfdmaaW29
namespace Go.Proofs.Ytceelipcclfdmaa
open Go.RowKit Go.Maps Go.Sort

theorem slNil (w : World) (t : TypeId) : SlAt (IntR .i64) (w.alloc (.cells #[] t)) (some ⟨w.heap.size, 0, none⟩) 0 [] := SlAt.nil_ _

def SomeTrue (w : World) (e : Ending) (w' : World) : Prop := e = .returned (.bool true) ∧ Below w.heap.size w w'

set_option maxRecDepth 100000 in
set_option maxHeartbeats 2000000 in
theorem known_any (w : World) : Calls Try.prog 11 #[] w (SomeTrue w) := by
  have Hcon := Lib.hid (four_any w)
  have up : ∀ (W : World) (o : Obj), Below W.heap.size W (W.alloc o) := fun W o => (Below.refl _ _).alloc (Nat.le_refl _) _
  have Hup := Lib.hid up; clear up
  go_enter Try.func11, Try.ntmps11
  go_wp2_with fail
  refine Hcon.out.mono ?_
  rintro e w1 ⟨A, c, rfl, s1, hb1⟩
  have Hb1 := Lib.hid (hb1.trans ((Hup.out w1 (.cells #[.int .i64 1] 3)).mono hb1.size))
  have Hcon2 := Lib.hid (units_conflict 2 A (some ⟨w1.heap.size, 0, none⟩) 4 c 1 1 S.fourL [1] (w1.alloc (.cells #[.int .i64 1] 3)) (s1.below (monoSl (monoInt _)) (Hup.out _ _)) (slNew w1 [1] 3 (by decide)) (by decide) (by decide) S.four_incons (by decide))
  clear s1 hb1 Hcon
  go_wp2_with fail
  refine Hcon2.out.mono ?_
  rintro e w2 ⟨rfl, hb2⟩
  have Hb2 := Lib.hid (Hb1.out.trans (hb2.mono Hb1.out.size)); clear hb2 Hcon2
  have Hcon3 := Lib.hid (four_any w2)
  go_wp2_with fail
  refine Hcon3.out.mono ?_
  rintro e w3 ⟨A3, c3, rfl, s3, hb3⟩
  have Hb3 := Lib.hid (Hb2.out.trans (hb3.mono Hb2.out.size)); clear hb3 Hcon3
  obtain ⟨w4, hw4⟩ : ∃ W, W = (w3.alloc (.cells #[.int .i64 (-1)] 3)).alloc (.cells #[] 3) := ⟨_, rfl⟩
  have hlist : SlAt (SlR (IntR .i64)) (w4.alloc (.cells #[.slice (some ⟨w3.heap.size, 0, none⟩) 1 1, .slice (some ⟨w3.heap.size + 1, 0, none⟩) 0 0] 23)) (some ⟨w3.heap.size + 1 + 1, 0, none⟩) 2 [[-1], []] := by
    have own := OwnAt.of_new (s := 1) (e := 23) w4 #[.slice (some ⟨w3.heap.size, 0, none⟩) 1 1, .slice (some ⟨w3.heap.size + 1, 0, none⟩) 0 0] 2 rfl (by simp [maxLen])
    have hs : w4.heap.size = w3.heap.size + 1 + 1 := by rw [hw4]; simp
    rw [hs] at own
    refine own.slAt rfl fun k x u hx hu => ?_
    match k, hx, hu with
    | 0, hx, hu => simp at hx hu; subst hx; subst hu; exact ⟨_, _, rfl, by rw [hw4]; exact slUp (slUp (slNew w3 [-1] 3 (by decide)) _) _⟩
    | 1, hx, hu => simp at hx hu; subst hx; subst hu; exact ⟨_, _, rfl, SlAt.nil_ _⟩
    | k + 2, hx, hu => simp at hx
  have hb4 : Below w3.heap.size w3 (w4.alloc (.cells #[.slice (some ⟨w3.heap.size, 0, none⟩) 1 1, .slice (some ⟨w3.heap.size + 1, 0, none⟩) 0 0] 23)) := by
    rw [hw4]; exact ((Hup.out w3 _).alloc (by simp) _).alloc (by simp; omega) _
  have con4 := checkE_any 2 A3 (some ⟨w3.heap.size + 1 + 1, 0, none⟩) 4 c3 2 2 S.fourL [[-1], []] _ (s3.below (monoSl (monoInt _)) hb4) hlist (by decide) (by decide)
  rw [S.four_check] at con4
  subst hw4
  have Hcon4 := Lib.hid con4
  have Hb4 := Lib.hid (Hb3.out.trans (hb4.mono Hb3.out.size))
  clear con4 hlist s3 hb4
  go_wp2_with fail
  refine Hcon4.out.mono ?_
  rintro e w5 ⟨rfl, hb5⟩
  have Hb5 := Lib.hid (Hb4.out.trans (hb5.mono Hb4.out.size)); clear hb5 Hcon4 Hb4
  have con6 := resolve_any 3 (some ⟨w5.heap.size, 0, none⟩) (some ⟨w5.heap.size + 1, 0, none⟩) 2 2 2 2 [1, 2] [-1, 3] 1 ((w5.alloc (.cells #[.int .i64 1, .int .i64 2] 3)).alloc (.cells #[.int .i64 (-1), .int .i64 3] 3))
    (slUp (slNew w5 [1, 2] 3 (by decide)) _) (slNew' (w5.alloc (.cells #[.int .i64 1, .int .i64 2] 3)) [-1, 3] 3 (w5.heap.size + 1) (by simp) (by decide)) (by omega) (by omega) (by omega)
  rw [S.four_resolve] at con6
  have Hcon6 := Lib.hid con6
  have Hb6 := Lib.hid (Hb5.out.trans (((Hup.out w5 (.cells #[.int .i64 1, .int .i64 2] 3)).alloc (by simp) (.cells #[.int .i64 (-1), .int .i64 3] 3)).mono Hb5.out.size))
  clear con6
  go_wp2_with fail
  refine Hcon6.out.mono ?_
  rintro e w7 ⟨A7, m7, c7, rfl, s7, hb7⟩
  have Hb7 := Lib.hid (Hb6.out.trans (hb7.mono Hb6.out.size)); clear hb7 Hcon6 Hb6
  have con8 := sameInts_any A7 (some ⟨w7.heap.size, 0, none⟩) m7 2 c7 2 [2, 3] [2, 3] (w7.alloc (.cells #[.int .i64 2, .int .i64 3] 3)) (slUp s7 _) (slNew w7 [2, 3] 3 (by decide))
  rw [decide_eq_true rfl] at con8
  have Hcon8 := Lib.hid con8
  have Hb8 := Lib.hid (Hb7.out.trans ((Hup.out w7 (.cells #[.int .i64 2, .int .i64 3] 3)).mono Hb7.out.size))
  clear con8 s7
  go_wp2_with fail
  refine Hcon8.out.mono ?_
  rintro e w9 ⟨rfl, hd9⟩
  go_wp2
  go_ret
  exact ⟨rfl, Hb8.out.dr hd9⟩
end Go.Proofs.Ytceelipcclfdmaa
