/- The walk through all rows of a length: all of it; rows as an iterator. -/
import Derived.Test.YtableoihgkmbjaaQ9
namespace Go.Proofs.Ytableoihgkmbjaa
open Go.RowKit
set_option linter.unusedVariables false
set_option linter.unusedSimpArgs false

theorem walk_all {k w n : Nat} {b : Bk} {l B0 : Nat} {J : List (List K.Stp) → World → Prop} {Jx : World → Prop} {xs : List (List K.Stp)}
    (hk : k = 1 ∨ k = 2) (hw : w = 1 ∨ w = 2 ∨ w = 3) (hb : BkAt b B0) (hn : n ≤ 3) (hJ : ∀ pre, StayB B0 (J pre)) (hJx : ∀ A A', Jx A → Lst RowEx B0 A A' → Jx A')
    (hSL : ∀ A, (∃ pre, J pre A) ∨ Jx A → A.heap[b.S]? = some (.cells #[.int .i64 k, .int .i64 w] 44 (0, 0)) ∧ A.heap[b.L]? = some (.cells #[.int .i64 n] 3 (0, 0)))
    (hY : ∀ pre x A args, J pre A → RowArg k w A x args → pre ++ [x] <+: xs → YieldAt Fence.wide 0 Try.prog l args A (Told B0 A (J (pre ++ [x])) Jx)) :
    ∀ m, WalkC k w n b l B0 J Jx xs m
  | 0 => fun pre r A hok hlen hpre hS hj => walk0_any hk (K.size_le (by omega) (by omega)) hb (by omega) hn (J (pre ++ [r])) Jx
      (fun A' h => hSL A' (h.imp (fun h => ⟨_, h⟩) id)) A hS (fun args ha => hY pre r A args hj ha hpre)
  | m + 1 => walkS_any hk hw hb hn hJ hJx (walk_all hk hw hb hn hJ hJx hSL hY m)

/-- what rows asks of the blocks that it has captured -/
def SLAt (k w n S L : Nat) (A : World) : Prop := A.heap[S]? = some (.cells #[.int .i64 k, .int .i64 w] 44 (0, 0)) ∧ A.heap[L]? = some (.cells #[.int .i64 n] 3 (0, 0))

set_option maxRecDepth 100000 in
set_option maxHeartbeats 1000000 in
theorem rows1_any (k w n S L : Nat) (hk : k = 1 ∨ k = 2) (hw : w = 1 ∨ w = 2 ∨ w = 3) (hn : n ≤ 3) (Wc : World) :
    SeqB RowEx Try.prog 34 #[.pointer (some ⟨S, 0, none⟩), .pointer (some ⟨L, 0, none⟩)] (RowArg k w) (SLAt k w n S L) (K.rows k n) Wc := by
  intro l J Jx hJ hJx hSL hSLx hY h0
  obtain ⟨hs, hl⟩ := hSL _ _ h0
  have hS0 : Wc.cell? ⟨S, 0, none⟩ = some (.int .i64 (k : Int)) ∧ Wc.cell? ⟨S, 1, none⟩ = some (.int .i64 (w : Int)) := by
    constructor
    · rw [cell_of_row _ _ _ _ _ (0, 0) hs]; rfl
    · rw [cell_of_row _ _ _ _ _ (0, 0) hs]; rfl
  have hSlt : S < Wc.heap.size := (Array.getElem?_eq_some_iff.1 hs).1
  obtain ⟨hc0, hc1⟩ := hS0
  have HS := Lib.hid hs
  have HL := Lib.hid hl
  have HJ := Lib.hid hJ
  have HJx := Lib.hid hJx
  have HSL := Lib.hid hSL
  have HSLx := Lib.hid hSLx
  have HY := Lib.hid hY
  have H0 := Lib.hid h0
  have HP := Lib.hid (fun W' => pstart_any k w hk hw W')
  have Hk := Lib.hid hk
  have Hw := Lib.hid hw
  clear hs hl hJ hJx hSL hSLx hY h0 hk hw
  simp only [List.append_toArray, List.nil_append, List.cons_append]
  go_enter Try.func34, Try.ntmps34
  go_wp2_with (go_at_call 35; (with_reducible refine (HP.out _).mono ?_); rintro e X1 ⟨Ac, cc, us, rfl, hown, hel, hob, hb1⟩)
  obtain ⟨b, hb⟩ : ∃ b : Bk, b = ⟨X1.heap.size + 1 + 1, L, X1.heap.size, Wc.heap.size, X1.heap.size + 1, S, X1.heap.size + 1 + 1 + 1⟩ := ⟨_, rfl⟩
  have hge : Wc.heap.size + 1 ≤ X1.heap.size := by have := hb1.size; simpa using this
  have hB9 : ∀ o1 o2 o3 o4, Below Wc.heap.size Wc ((((X1.alloc o1).alloc o2).alloc o3).alloc o4) := fun o1 o2 o3 o4 =>
    (((((((Below.refl _ _).alloc (Nat.le_refl _) _).trans (hb1.mono (by simp))).alloc (by omega) _).alloc (by simp; omega) _).alloc (by simp; omega) _).alloc (by simp; omega) _)
  have h1 : ∀ o1 o2 o3 o4, ((((X1.alloc o1).alloc o2).alloc o3).alloc o4).heap[X1.heap.size]? = some o1 := fun o1 o2 o3 o4 => row_alloc (row_alloc (row_alloc (heap_alloc_new X1 o1) _) _) _
  have h2 : ∀ o1 o2 o3 o4, ((((X1.alloc o1).alloc o2).alloc o3).alloc o4).heap[X1.heap.size + 1]? = some o2 := fun o1 o2 o3 o4 => row_alloc (row_alloc (new_two X1 o1 o2) _) _
  have h3 : ∀ o1 o2 o3 o4, ((((X1.alloc o1).alloc o2).alloc o3).alloc o4).heap[X1.heap.size + 1 + 1]? = some o3 := fun o1 o2 o3 o4 => row_alloc (by have := new_two (X1.alloc o1) o2 o3; simpa using this) _
  have h4 : ∀ o1 o2 o3 o4, ((((X1.alloc o1).alloc o2).alloc o3).alloc o4).heap[X1.heap.size + 1 + 1 + 1]? = some o4 := fun o1 o2 o3 o4 => by have := new_two ((X1.alloc o1).alloc o2) o3 o4; simpa using this
  have h5 : ∀ o1 o2 o3 o4 (g : Nat) (o : Obj), X1.heap[g]? = some o → ((((X1.alloc o1).alloc o2).alloc o3).alloc o4).heap[g]? = some o := fun o1 o2 o3 o4 g o hg => row_alloc (row_alloc (row_alloc (row_alloc hg _) _) _) _
  have hyd : X1.heap[Wc.heap.size]? = some (.cells #[.func (.yield l) #[] #[]] 69 (0, 0)) := row_step (Lib.hid hb1) (heap_alloc_new Wc _)
  have h6 : ∀ (g : Nat) (o : Obj), Wc.heap[g]? = some o → X1.heap[g]? = some o := fun g o hg => row_step (Lib.hid hb1) (row_alloc hg _)
  have hbk : BkAt b Wc.heap.size := by rw [hb]; exact ⟨by simp only; omega, by simp only; omega, by simp only; omega, by simp only; omega, by simp only; omega⟩
  have hW := walk_all (l := l) (J := J) (Jx := Jx) (xs := K.rows k n) Hk.out Hw.out hbk hn HJ.out HJx.out (fun A h => by
    have : SLAt k w n S L A := by
      rcases h with ⟨pre, h⟩ | h
      · exact HSL.out _ _ h
      · exact HSLx.out _ h
    rw [hb]; exact this) HY.out n [] []
  have hfin : ∀ X9 : World, X9 = ((((X1.alloc (.cells #[.slice Ac (k + 2) cc] 50)).alloc (.cells #[.func (.func 36) #[] #[]] 71)).alloc (.cells #[.slice none 0 0] 26)).alloc (.cells #[.func (.func 37) #[] b.caps] 25)) →
      SInv k w n b l Wc.heap.size [] X9 ∧ J [] X9 := by
    rintro X9 rfl
    refine ⟨⟨⟨?_, ?_, ?_, ?_, ?_⟩, ⟨none, 0, ?_, ?_, ?_⟩, ⟨Ac, cc, us, ?_, ?_, ?_, ?_⟩⟩, HJ.out _ _ _ H0.out (hB9 _ _ _ _)⟩
    · rw [show b.Y = Wc.heap.size by rw [hb]]; exact h5 _ _ _ _ _ _ hyd
    · rw [show b.G = X1.heap.size + 1 by rw [hb]]; exact h2 _ _ _ _
    · rw [show b.V = X1.heap.size + 1 + 1 + 1 by rw [hb]]; exact h4 _ _ _ _
    · rw [show b.S = S by rw [hb]]; exact h5 _ _ _ _ _ _ (h6 _ _ HS.out)
    · rw [show b.L = L by rw [hb]]; exact h5 _ _ _ _ _ _ (h6 _ _ HL.out)
    · rw [show b.R = X1.heap.size + 1 + 1 by rw [hb]]; exact h3 _ _ _ _
    · exact OwnAt.nil_ _ _ _
    · intro g hg; simp [Value.ownBlock] at hg
    · rw [show b.C = X1.heap.size by rw [hb]]; exact h1 _ _ _ _
    · exact ((((hown.alloc _).alloc _).alloc _).alloc _)
    · exact (elC_alloc (elC_alloc (elC_alloc (elC_alloc hel _) _) _) _).map_ fun u x hu => ColC.less hu (by simp)
    · intro g hg; have := hob g hg; simp at this; omega
  have HW := Lib.hid hW
  have HF := Lib.hid hfin
  have Hb := Lib.hid hb
  clear hW hfin h1 h2 h3 h4 h5 h6 hB9 hyd hbk hge hown hel hob hb1 hc0 hc1 hSlt HP hb
  subst b
  refine Calls.mono (HW.out _ (by intro i s hi; simp at hi) (by simp) (by rw [K.rows_eq_below]; exact List.prefix_refl _) (HF.out _ rfl).1 (HF.out _ rfl).2) ?_
  rintro e X2 ⟨_, _, (⟨rfl, hj⟩ | ⟨rfl, hj⟩)⟩
  · rw [List.nil_append, ← K.rows_eq_below] at hj
    have Hj := Lib.hid hj; clear hj
    go_wp2
    go_end0
    exact ⟨⟨_, rfl⟩, .inl Hj.out⟩
  · have Hj := Lib.hid hj; clear hj
    go_wp2
    go_end0
    exact ⟨⟨_, rfl⟩, .inr Hj.out⟩

theorem prows_any (k w n : Int) (W : World) : Calls Try.prog 22 #[.agg #[.int .i64 k, .int .i64 w], .int .i64 n] W fun e w' =>
    e = .returned (.func (.func 34) #[] #[.pointer (some ⟨W.heap.size, 0, none⟩), .pointer (some ⟨W.heap.size + 1, 0, none⟩)]) ∧ w' = (W.alloc (.cells #[.int .i64 k, .int .i64 w] 44)).alloc (.cells #[.int .i64 n] 3) := by
  go_enter Try.func22, Try.ntmps22
  go_wp2
  go_ret
  exact ⟨rfl, rfl⟩
end Go.Proofs.Ytableoihgkmbjaa
