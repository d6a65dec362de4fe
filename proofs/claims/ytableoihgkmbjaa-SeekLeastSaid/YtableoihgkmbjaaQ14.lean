/- How many rows of a length have a meaning: the words; the program. -/
import Derived.Test.YtableoihgkmbjaaQ13
namespace Go.Proofs.Ytableoihgkmbjaa
open Go.RowKit
set_option linter.unusedVariables false
set_option linter.unusedSimpArgs false
attribute [local go_sem] Oper.semAt_some

namespace K
def cnt (k w : Nat) (t : List Int) (l : List (List Stp)) : Nat := l.countP fun r => decide (meaning k w r = t)
def count (k w : Int) (t : List Int) (n : Int) : Int × Int :=
  if (over k w && isTable k.toNat w.toNat t) = true then (if n < 0 ∨ 2 < n then (0, 1) else ((cnt k.toNat w.toNat t (rows k.toNat n.toNat) : Nat), 0)) else (0, 1)
theorem cnt_yes {k w : Nat} {t : List Int} {l : List (List Stp)} {r : List Stp} (h : meaning k w r = t) : cnt k w t (l ++ [r]) = cnt k w t l + 1 := by
  unfold cnt; rw [List.countP_append]; simp [h]
theorem cnt_no {k w : Nat} {t : List Int} {l : List (List Stp)} {r : List Stp} (h : meaning k w r ≠ t) : cnt k w t (l ++ [r]) = cnt k w t l := by
  unfold cnt; rw [List.countP_append]; simp [h]
theorem cnt_le (k w : Nat) (t : List Int) (l : List (List Stp)) : cnt k w t l ≤ l.length := List.countP_le_length
end K

/-- what holds between two rounds of Count -/
structure CoI (k w : Nat) (t : List Int) (T : Option Addr) (m c : Nat) (W : World) (N B : Nat) (pre : List (List K.Stp)) (Y : World) : Prop where
  below : Below W.heap.size W Y
  tb : Y.heap[W.heap.size]? = some (.cells #[.slice T m c] 24 (0, 0))
  n : Y.heap[N]? = some (.cells #[.int .i64 (K.cnt k w t pre : Nat)] 3 (0, 0))
  hN : W.heap.size < N ∧ N < B
theorem CoI.step {k w : Nat} {t : List Int} {T : Option Addr} {m c : Nat} {W : World} {N B : Nat} {pre : List (List K.Stp)} {Y Y' : World} {C : Nat} (h : CoI k w t T m c W N B pre Y) (hb : Below C Y Y') (hC : B ≤ C) : CoI k w t T m c W N B pre Y' :=
  ⟨h.below.trans (hb.mono (by have := h.hN; omega)), (hb.block _ (by have := h.hN; omega)).trans h.tb, (hb.block _ (by have := h.hN; omega)).trans h.n, h.hN⟩

set_option maxRecDepth 100000 in
set_option maxHeartbeats 4000000 in
theorem pCountR_any (k w n : Nat) (hk : k = 1 ∨ k = 2) (hw : w = 1 ∨ w = 2 ∨ w = 3) (hn : n ≤ 2) (T : Option Addr) (m c : Nat) (t : List Int) (W : World) (hT : SlAt (IntR .u32) W T m t) (hti : K.isTable k w t = true) :
    Calls Try.prog 10 #[.int .i64 k, .int .i64 w, .slice T m c, .int .i64 n] W fun e w' => e = .returned (.tuple #[.int .i64 (K.cnt k w t (K.rows k n) : Nat), .int .i64 0]) ∧ Below W.heap.size W w' := by
  have hov : K.over k w = true := K.over_iff.2 (by omega)
  have HT := Lib.hid hT
  have HTW := Lib.hid (fun (Y : World) (h : Below W.heap.size W Y) => hT.below (monoInt _) h)
  have HP := Lib.hid (fun W' (h : Below W.heap.size W W') => pasked_any k w T m c t W' (hT.below (monoInt _) h))
  rw [hov, Int.toNat_natCast, Int.toNat_natCast, hti] at HP
  have hcount : (K.rows k n).length ≤ 100000 := K.rows_count (by omega) hn
  have Hcount := Lib.hid hcount
  have Hk := Lib.hid hk
  have Hw := Lib.hid hw
  have hB1 := Lib.hid (show Below W.heap.size W ((W.alloc (.cells #[.slice T m c] 24)).alloc (.cells #[.int .i64 k, .int .i64 w] 44)) from ((Below.refl _ _).alloc (Nat.le_refl _) _).alloc (by simp) _)
  have HT1 := Lib.hid (show ((W.alloc (.cells #[.slice T m c] 24)).alloc (.cells #[.int .i64 k, .int .i64 w] 44)).heap[W.heap.size]? = some (.cells #[.slice T m c] 24 (0, 0)) from row_alloc (heap_alloc_new W _) _)
  have HS1 := Lib.hid (show ((W.alloc (.cells #[.slice T m c] 24)).alloc (.cells #[.int .i64 k, .int .i64 w] 44)).heap[W.heap.size + 1]? = some (.cells #[.int .i64 k, .int .i64 w] 44 (0, 0)) from new_two W _ _)
  have hn0 : ¬ (n : Int) < 0 := by omega
  have hn2 : ¬ (2 : Int) < (n : Int) := by omega
  clear hT hk hw hov hti hcount
  refine (callsIn_wide (n := 0)).1 (callsIn_of_wp_marks Try.func10 rfl trivial ((wpIn_wide (n := 0)).2 ?_))
  simp only [Try.ntmps10, List.size_toArray, List.length_cons, List.length_nil, Nat.reduceAdd, Nat.reduceSub, Array.replicate_succ, Array.replicate_zero, List.push_toArray, List.append_toArray, List.nil_append, List.cons_append]
  go_wp2_with fail
  refine (HP.out _ hB1.out).mono ?_
  rintro e w1 ⟨rfl, hb⟩
  have hT1 := row_step (Lib.hid hb) HT1.out
  have hs := row_step (Lib.hid hb) HS1.out
  have hc0 : w1.cell? ⟨W.heap.size + 1, 0, none⟩ = some (.int .i64 (k : Int)) := by rw [cell_of_row _ _ _ _ _ (0, 0) hs]; rfl
  have hc1 : w1.cell? ⟨W.heap.size + 1, 1, none⟩ = some (.int .i64 (w : Int)) := by rw [cell_of_row _ _ _ _ _ (0, 0) hs]; rfl
  have hge1 : W.heap.size + 1 + 1 ≤ w1.heap.size := by have := hb.size; simpa using this
  have Hge1 := Lib.hid hge1
  have HT1' := Lib.hid hT1
  have Hb := Lib.hid (hB1.out.trans (hb.mono (by simp; omega)))
  have hlt1 : W.heap.size + 1 < w1.heap.size := by omega
  clear hb hs hT1 hge1
  have hn2d : decide ((2 : Int) < (n : Int)) = false := by simpa using hn2
  go_wp2_with (go_at_call 22; (with_reducible refine (prows_any _ _ _ _).mono ?_); rintro e X1 ⟨rfl, hX1⟩; have HX1 := Lib.hid hX1; clear hX1)
  clear hc0 hc1 hn0 hn2 hn2d hlt1
  have HI1 := Lib.hid (show CoI k w t T m c W w1.heap.size X1.heap.size [] X1 ∧ SLAt k w n (w1.heap.size + 1) (w1.heap.size + 1 + 1) X1 ∧ w1.heap.size + 1 + 1 < X1.heap.size from by
    rw [HX1.out]
    have := Hge1.out
    refine ⟨⟨(((Hb.out.alloc (by omega) _).alloc (by simp; omega) _).alloc (by simp; omega) _), row_alloc (row_alloc (row_alloc HT1'.out _) _) _, row_alloc (row_alloc (heap_alloc_new w1 _) _) _, by omega, by simp; omega⟩, ⟨row_alloc (new_two w1 _ _) _, ?_⟩, by simp⟩
    have h := new_two (w1.alloc (.cells #[.int .i64 0] 3)) (.cells #[.int .i64 k, .int .i64 w] 44) (.cells #[.int .i64 n] 3)
    simpa using h)
  refine wp_rangeFunc_B (gf := 34) (lb := #[.pointer (some ⟨w1.heap.size + 1, 0, none⟩), .pointer (some ⟨w1.heap.size + 1 + 1, 0, none⟩)]) rfl (enters_of Try.func34 (by kernel_rfl) rfl)
    (Arg := RowArg k w) (SL := SLAt k w n (w1.heap.size + 1) (w1.heap.size + 1 + 1)) (xs := K.rows k n) (ex := RowEx) (fun Wc _ _ => rows1_any k w n _ _ Hk.out Hw.out (by omega) Wc) ?hps ?hArg
    (fun pre Y => CoI k w t T m c W w1.heap.size X1.heap.size pre Y ∧ SLAt k w n (w1.heap.size + 1) (w1.heap.size + 1 + 1) Y ∧ X1.heap.size ≤ Y.heap.size ∧ pre.length ≤ 100000)
    (fun cd Y => False)
    ?hI ?hIx (fun pre A h => h.2.1) (fun cd A h => h.elim) ⟨HI1.out.1, HI1.out.2.1, Nat.le_refl _, by simp⟩
    (fun args => { tmps := #[.int .i64 k, .int .i64 w, .slice T m c, .int .i64 n, undef, undef, .pointer (some ⟨W.heap.size, 0, none⟩), undef, .int .i64 0, .int .i64 0, .pointer (some ⟨W.heap.size + 1, 0, none⟩), .int .i64 0, .pointer (some ⟨w1.heap.size, 0, none⟩), undef, args.getD 1 undef,
      .int .i64 k, .int .i64 w, .agg #[.int .i64 k, .int .i64 w], .agg #[.int .i64 k, .int .i64 w], .slice T m c, .int .i64 0, .int .i64 0, .bool false, undef, .int .i64 n, .bool false, .bool false, .int .i64 n, .bool false, .bool false, .agg #[.int .i64 k, .int .i64 w], .int .i64 n,
      .func (.func 34) #[] #[.pointer (some ⟨w1.heap.size + 1, 0, none⟩), .pointer (some ⟨w1.heap.size + 1 + 1, 0, none⟩)], args.getD 0 undef, args.getD 1 undef, undef, undef, undef, undef, undef, undef], defers := [] })
    ?assign ?body ?done ?stop
  case hps => rintro A x args ⟨Ar, cr, Al, cl, rfl, _⟩; rfl
  case hArg => exact fun A A' x args h hck => h.ck hck
  case hI =>
    rintro pre A A' ⟨h1, h2, h3, h4⟩ hb
    have := HI1.out.2.2
    exact ⟨h1.step hb (Nat.le_refl _), ⟨(hb.block _ (by omega)).trans h2.1, (hb.block _ (by omega)).trans h2.2⟩, Nat.le_trans h3 hb.size, h4⟩
  case hIx => exact fun cd A A' h => h.elim
  case assign =>
    rintro l x args A KK ⟨Ar, cr, Al, cl, rfl, _, _⟩ hK
    have HK := Lib.hid hK; clear hK
    gi_wp2
    exact HK.out
  case body =>
    rintro l pre x args A ⟨h1, h2, h3, h3b⟩ ⟨Ar, cr, Al, cl, rfl, h4, h5⟩ h6 h7
    have hsT := (HTW.out A h1.below)
    have htc := one_cell h1.tb
    have cN := one_cell h1.n
    have fN := free_of_one h1.n
    have HEq := Lib.hid (equalW_any Al T (K.size k w) m cl c _ _ A h5 hsT)
    have Hh1 := Lib.hid h1
    have Hh2 := Lib.hid h2
    have Hh3 := Lib.hid h3
    have Hpl := Lib.hid (show (pre ++ [x]).length ≤ 100000 from Nat.le_trans h7.length_le Hcount.out)
    have hcb : K.cnt k w t pre ≤ 100000 := Nat.le_trans (K.cnt_le ..) h3b
    clear hsT h1 h2 h3 h4 h5 h6 h7 h3b
    by_cases hmean : K.meaning k w x = t
    · rw [decide_eq_true hmean] at HEq
      have Hmean := Lib.hid hmean; clear hmean
      gi_wp2
      refine ⟨trivial, rfl, ?_⟩
      refine (CallsIn.inRound l (callsIn_wide.2 HEq.out)).mono ?_
      rintro e A2 ⟨rfl, nn, hd2⟩
      subst hd2
      gi_wp2
      have Hs : ∀ g, g ≠ w1.heap.size → ((A.drewN nn).setCell ⟨w1.heap.size, 0, none⟩ (.int .i64 ((K.cnt k w t pre : Nat) + 1))).heap[g]? = A.heap[g]? := fun g hg => heap_setCell_other _ _ _ _ (by exact hg)
      have hN := Hh1.out.hN
      have hx := HI1.out.2.2
      refine ⟨⟨by simp, fun g hg _ => Hs g (by omega)⟩, ⟨?_, (Hs _ (by omega)).trans Hh1.out.tb, ?_, Hh1.out.hN⟩, ⟨(Hs _ (by omega)).trans Hh2.out.1, (Hs _ (by omega)).trans Hh2.out.2⟩, by have := Hh3.out; simpa using this, Hpl.out⟩
      · exact ((Hh1.out.below.dr ⟨nn, rfl⟩).setCell (p := ⟨w1.heap.size, 0, none⟩) (by simp only; omega) _)
      · rw [K.cnt_yes Hmean.out]
        exact one_setCell (v := .int .i64 (K.cnt k w t pre : Nat)) Hh1.out.n
    · rw [decide_eq_false hmean] at HEq
      have Hmean := Lib.hid hmean; clear hmean
      gi_wp2
      refine ⟨trivial, rfl, ?_⟩
      refine (CallsIn.inRound l (callsIn_wide.2 HEq.out)).mono ?_
      rintro e A2 ⟨rfl, nn, hd2⟩
      subst hd2
      gi_wp2
      have hn' := Hh1.out.n
      rw [← K.cnt_no Hmean.out] at hn'
      exact ⟨⟨Nat.le_refl _, fun _ _ _ => rfl⟩, ⟨Hh1.out.below.dr ⟨nn, rfl⟩, Hh1.out.tb, hn', Hh1.out.hN⟩, Hh2.out, Hh3.out, Hpl.out⟩
  case done =>
    rintro Y ⟨h1, h2, h3, _⟩ h4 h5
    have Hm := Lib.hid (show Marks Y W.heap.size [X1.heap.size] from ⟨by simp, fun r hr => by
      rw [List.mem_singleton.1 hr]; exact ⟨by have := h1.hN; omega, h4⟩⟩)
    have cN := one_cell h1.n
    have Hh1 := Lib.hid h1
    clear h1 h2 h3 h4 h5
    go_wp2
    refine leaves_marks (B := W.heap.size) [X1.heap.size] Y Hm.out fun W' hW' => ?_
    exact ⟨.tuple #[.int .i64 (K.cnt k w t (K.rows k n) : Nat), .int .i64 0], by simp [results, Try.f10, go_sem], rfl, Hh1.out.below.trans hW'.below⟩
  case stop => exact fun cd Y h => h.elim
end Go.Proofs.Ytableoihgkmbjaa
