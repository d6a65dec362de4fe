/- Walks of the laws: what the program says of the document's clauses. -/
import Derived.Test.YtceelipcclfdmaaW28
namespace Go.Proofs.Ytceelipcclfdmaa
set_option linter.unusedVariables false
open Go.RowKit Go.Maps Go.Sort

namespace S
def fourL : List (List Int) := [[1, 2], [-1, 2], [1, -2], [-1, -2]]
theorem four_incons : Incons fourL [1] := by
  have d1 : Der fourL [1] 1 := .given_ (by simp)
  have d2 : Der fourL [1] 2 := .unit_ (c := [-1, 2]) (by simp [fourL]) (by simp) (by intro m hm hne; simp at hm; rcases hm with rfl | rfl; exact d1; exact absurd rfl hne)
  exact incons_all (c := [-1, -2]) (by simp [fourL]) (by intro m hm; simp at hm; rcases hm with rfl | rfl; exact d1; exact d2)
theorem four_incons2 : Incons (fourL ++ [[-1]]) [] := by
  have d1 : Der (fourL ++ [[-1]]) [] (-1) := .unit_ (c := [-1]) (by simp) (by simp) (by intro m hm hne; simp at hm; exact absurd hm hne)
  have d2 : Der (fourL ++ [[-1]]) [] 2 := .unit_ (c := [1, 2]) (by simp [fourL]) (by simp) (by intro m hm hne; simp at hm; rcases hm with rfl | rfl; exact d1; exact absurd rfl hne)
  exact incons_all (c := [1, -2]) (by simp [fourL]) (by intro m hm; simp at hm; rcases hm with rfl | rfl; exact d1; exact d2)
theorem four_check : check 2 fourL [[-1], []] = (2, 0) := by
  have h1 : fol fourL [-1] = true := fol_iff.2 four_incons
  have h2 : fol (fourL ++ [[-1]]) [] = true := fol_iff.2 four_incons2
  have h3 : failure fourL [[-1], []] = none := by
    rw [failure, bad, if_pos h1, bad, if_pos h2, bad]; rfl
  rw [check, if_neg (by decide), if_neg (by decide), h3]; rfl
theorem four_resolve : resolveOf 3 [1, 2] [-1, 3] 1 = ([2, 3], 0) := by
  have h1 : srt ([2] ++ [3]) = [2, 3] := by simp [srt, List.mergeSort, List.MergeSort.Internal.splitInTwo]
  have h2 : resList [1, 2] [-1, 3] 1 = [2, 3] := by
    show Lib.compact (srt ([2] ++ [3])) = [2, 3]
    rw [h1]; rfl
  rw [resolveOf, if_neg (by decide), if_neg (by decide), if_neg (by decide), if_pos (by decide), h2]
end S

theorem slNew (w : World) (xs : List Int) (t : TypeId) (h : xs.length ≤ 1000) : SlAt (IntR .i64) (w.alloc (.cells (xs.map (Value.int .i64)).toArray t)) (some ⟨w.heap.size, 0, none⟩) xs.length xs := by
  have := OwnAt.of_new (s := 1) (e := t) w (xs.map (Value.int .i64)).toArray xs.length (by simp) (by simp only [maxLen]; omega)
  exact this.slInts

theorem slNew' (w : World) (xs : List Int) (t : TypeId) (k : Nat) (hk : w.heap.size = k) (h : xs.length ≤ 1000) : SlAt (IntR .i64) (w.alloc (.cells (xs.map (Value.int .i64)).toArray t)) (some ⟨k, 0, none⟩) xs.length xs := by
  subst hk; exact slNew w xs t h
theorem slUp {w : World} {A : Option Addr} {n : Nat} {xs : List Int} (h : SlAt (IntR .i64) w A n xs) (o : Obj) : SlAt (IntR .i64) (w.alloc o) A n xs := h.below (monoInt _) ((Below.refl _ _).alloc (Nat.le_refl _) _)

def SomeTab (w : World) (xs : List (List Int)) (e : Ending) (w' : World) : Prop := ∃ A c, e = .returned (.slice A xs.length c) ∧ SlAt (SlR (IntR .i64)) w' A xs.length xs ∧ Below w.heap.size w w'

theorem four_any (w : World) : Calls Try.prog 29 #[] w (SomeTab w S.fourL) := by
  go_enter Try.func29, Try.ntmps29
  go_wp2
  go_ret
  have b1 : Below w.heap.size w (w.alloc (.cells #[.int .i64 1, .int .i64 2] 3)) := (Below.refl _ _).alloc (Nat.le_refl _) _
  have s1 := slNew w [1, 2] 3 (by decide)
  have s2 := slNew' (w.alloc (.cells #[.int .i64 1, .int .i64 2] 3)) [-1, 2] 3 (w.heap.size + 1) (by simp) (by decide)
  have s3 := slNew' ((w.alloc (.cells #[.int .i64 1, .int .i64 2] 3)).alloc (.cells #[.int .i64 (-1), .int .i64 2] 3)) [1, -2] 3 (w.heap.size + 1 + 1) (by simp) (by decide)
  have s4 := slNew' (((w.alloc (.cells #[.int .i64 1, .int .i64 2] 3)).alloc (.cells #[.int .i64 (-1), .int .i64 2] 3)).alloc (.cells #[.int .i64 1, .int .i64 (-2)] 3)) [-1, -2] 3 (w.heap.size + 1 + 1 + 1) (by simp) (by decide)
  have up : ∀ (W : World) (o : Obj), Below W.heap.size W (W.alloc o) := fun W o => (Below.refl _ _).alloc (Nat.le_refl _) _
  refine ⟨some ⟨w.heap.size + 1 + 1 + 1 + 1, 0, none⟩, 4, rfl, ?_, ((((up w _).alloc (by simp) _).alloc (by simp; omega) _).alloc (by simp; omega) _).alloc (by simp; omega) _⟩
  have own := OwnAt.of_new (s := 1) (e := 23) ((((w.alloc (.cells #[.int .i64 1, .int .i64 2] 3)).alloc (.cells #[.int .i64 (-1), .int .i64 2] 3)).alloc (.cells #[.int .i64 1, .int .i64 (-2)] 3)).alloc (.cells #[.int .i64 (-1), .int .i64 (-2)] 3))
    #[.slice (some ⟨w.heap.size, 0, none⟩) 2 2, .slice (some ⟨w.heap.size + 1, 0, none⟩) 2 2, .slice (some ⟨w.heap.size + 1 + 1, 0, none⟩) 2 2, .slice (some ⟨w.heap.size + 1 + 1 + 1, 0, none⟩) 2 2] 4 rfl (by simp [maxLen])
  have hs : ((((w.alloc (.cells #[.int .i64 1, .int .i64 2] 3)).alloc (.cells #[.int .i64 (-1), .int .i64 2] 3)).alloc (.cells #[.int .i64 1, .int .i64 (-2)] 3)).alloc (.cells #[.int .i64 (-1), .int .i64 (-2)] 3)).heap.size = w.heap.size + 1 + 1 + 1 + 1 := by simp
  rw [hs] at own
  refine own.slAt rfl fun k x u hx hu => ?_
  have m := monoInt .i64
  match k, hx, hu with
  | 0, hx, hu => simp [S.fourL] at hx hu; subst hx; subst hu; exact ⟨_, _, rfl, slUp (slUp (slUp (slUp s1 _) _) _) _⟩
  | 1, hx, hu => simp [S.fourL] at hx hu; subst hx; subst hu; exact ⟨_, _, rfl, slUp (slUp (slUp s2 _) _) _⟩
  | 2, hx, hu => simp [S.fourL] at hx hu; subst hx; subst hu; exact ⟨_, _, rfl, slUp (slUp s3 _) _⟩
  | 3, hx, hu => simp [S.fourL] at hx hu; subst hx; subst hu; exact ⟨_, _, rfl, slUp s4 _⟩
  | k + 4, hx, hu => simp [S.fourL] at hx

theorem any_notLit {n : Int} {xs : List Int} : (xs.any fun x => !S.isLit n x) = !S.isClause n xs := by
  unfold S.isClause
  induction xs with
  | nil => rfl
  | cons x r ih => simp [ih, Bool.not_and]

theorem units_conflict (n : Nat) (A D : Option Addr) (m c p d : Nat) (cs : List (List Int)) (given : List Int) (w : World) (hA : SlAt (SlR (IntR .i64)) w A m cs) (hD : SlAt (IntR .i64) w D p given)
    (h0 : S.validate n cs = 0) (hg : S.isClause n given = true) (hi : S.Incons cs given) (ht : tot cs ≤ 10000000) :
    Calls Try.prog 12 #[.int .i64 n, .slice A m c, .slice D p d] w fun e w' => e = .returned (.tuple #[.slice none 0 0, .bool true, .int .i64 0]) ∧ Below w.heap.size w w' := by
  obtain ⟨hn0, hn4, hm, hc1⟩ := validate_zero h0
  have hb0 : Below w.heap.size w (w.alloc (.cells #[.int .i64 n] 3)) := (Below.refl _ _).alloc (Nat.le_refl _) _
  have con := validate_any n A m c cs _ (hA.below (monoSl (monoInt _)) hb0)
  rw [h0] at con
  have Hcon := Lib.hid con; clear con
  have hm2 : m ≤ 24000 := by rw [← hA.len]; omega
  have HA := Lib.hid hA; clear hA
  have HD := Lib.hid hD; clear hD
  have HC := Lib.hid hc1; clear hc1
  have HG := Lib.hid hg; clear hg h0
  have HI := Lib.hid hi; clear hi
  have hcell0 : (w.alloc (.cells #[.int .i64 n] 3)).cell? ⟨w.heap.size, 0, none⟩ = some (.int .i64 n) := cell_alloc_box w _ _
  have hmf : ∀ (fn : Fn) (first cap : Array Value) (w : World), (Instr.makeFunc fn first cap).run Try.prog w = .ok (.func fn first cap) w := fun _ _ _ _ => rfl
  go_enter Try.func12, Try.ntmps12
  go_wp2_with fail
  refine Hcon.out.mono ?_
  rintro e w1 ⟨rfl, hb1⟩
  have Hb1 := Lib.hid (hb0.trans (hb1.mono hb0.size))
  have hcell : w1.cell? ⟨w.heap.size, 0, none⟩ = some (.int .i64 n) := (hb1.cell (p := ⟨w.heap.size, 0, none⟩) (by simp)).trans hcell0
  have Hcell := Lib.hid hcell; clear hcell hcell0 hb0 hb1
  have con2 := hasU_any (fun x => !S.isLit n x) w.heap.size D p d given w1 (HD.out.below (monoInt _) Hb1.out) (fun y _ W hW => (cloU_any n y w.heap.size W (by omega) (by omega) (by
      obtain ⟨q, rfl⟩ := hW; exact Hcell.out)).mono fun e w' h => ⟨h.1, h.2 ▸ Dr.refl _⟩)
  rw [any_notLit, HG.out] at con2
  have Hcon2 := Lib.hid con2; clear con2
  go_wp2_with fail
  refine Hcon2.out.mono ?_
  rintro e w2 ⟨rfl, hd2⟩
  have Hb2 := Lib.hid (Hb1.out.dr hd2); clear hd2
  have Hcon3 := Lib.hid (open_any n A m c cs w2 (HA.out.below (monoSl (monoInt _)) Hb2.out) HC.out (by omega) ht (by omega))
  go_wp2_with fail
  refine Hcon3.out.mono ?_
  rintro e w3 ⟨Bk, Mw, cv, us, lw, blk, rfl, hbk, hidx, hb3⟩
  have Hb3 := Lib.hid (Hb2.out.trans (hb3.mono Hb2.out.size))
  have Hcon4 := Lib.hid (propagate_any w2 w2.heap.size Bk Mw cv us cs lw blk (tot cs) n D p d given w3 hbk hidx hb3 (HD.out.below (monoInt _) Hb3.out) HG.out HC.out (by omega))
  clear hbk hidx hb3
  go_wp2_with fail
  refine Hcon4.out.mono ?_
  rintro e w4 ⟨hb4, ⟨rfl, _⟩ | ⟨T, M, l, qv, q, rfl, _, hno, _⟩⟩
  · go_wp2
    go_ret3
    exact ⟨rfl, Hb3.out.trans (hb4.mono Hb3.out.size)⟩
  · exact absurd HI.out hno
end Go.Proofs.Ytceelipcclfdmaa
