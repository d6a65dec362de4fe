/- Merged: C4KG1, C4KG2, C4KG3, C4KG5. -/
import Derived.Test.YtbiopedpceddeaaGreatDoorW40
import Derived.Test.YtbiopedpceddeaaGreatDoorW02
import Derived.Test.YtbiopedpceddeaaGreatDoorW41
import Derived.Test.YtbiopedpceddeaaGreatDoorW30
import Derived.Test.YtbiopedpceddeaaGreatDoorW14
import Derived.Test.YtbiopedpceddeaaGreatDoorW18
set_option linter.unusedVariables false
set_option linter.unusedSimpArgs false
section
namespace Go.Proofs.YtbiopedpceddeaaGreatDoor
open Go.RowKit Go.Maps Go.Lib
set_option linter.unusedVariables false
set_option linter.unusedSimpArgs false
namespace KT
/-- the laws' own rule: x plus x is x times 2 -/
def twiceR : R.Rl := ⟨[⟨33, 0, 0, [], 0⟩, ⟨1, 0, 0, [0, 0], 0⟩], [⟨33, 0, 0, [], 0⟩, ⟨0, 0, 0, [], 2⟩, ⟨3, 0, 0, [0, 1], 0⟩], []⟩
def TwicePost (W : World) (e : Ending) (W' : World) : Prop :=
  ∃ A1 A2, e = .returned (.agg #[.slice A1 2 2, .slice A2 3 3, .slice none 0 0]) ∧ RlAt W' twiceR 2 3 0 A1 A2 none ∧ Below W.heap.size W W'

set_option maxRecDepth 100000 in
set_option maxHeartbeats 1000000 in
theorem twice_any (W : World) : Calls Tryz.prog 72 #[] W (TwicePost W) := by
  go_enter Tryz.func72, Tryz.ntmps72
  go_wp2
  generalize hw1 : W.alloc _ = w1
  generalize hw2 : w1.alloc _ = w2
  generalize hw3 : w2.alloc _ = w3
  generalize hw4 : w3.alloc _ = w4
  generalize hw5 : w4.alloc _ = w5
  obtain ⟨r1, s1⟩ := alloc_row hw1
  obtain ⟨r2, s2⟩ := alloc_row hw2
  obtain ⟨r3, s3⟩ := alloc_row hw3
  obtain ⟨r4, s4⟩ := alloc_row hw4
  obtain ⟨r5, s5⟩ := alloc_row hw5
  rw [s1] at r2 s2
  rw [s2] at r3 s3
  rw [s3] at r4 s4
  rw [s4] at r5 s5
  have r1 := row_step' hw5 (row_step' hw4 (row_step' hw3 (row_step' hw2 r1)))
  have r2 := row_step' hw5 (row_step' hw4 (row_step' hw3 r2))
  have r3 := row_step' hw5 (row_step' hw4 r3)
  have r4 := row_step' hw5 r4
  have hb : Below W.heap.size W w5 := by
    have b1 : Below W.heap.size W w1 := by rw [← hw1]; exact (Below.refl _ _).alloc (Nat.le_refl _) _
    have b2 : Below W.heap.size W w2 := by rw [← hw2]; exact b1.alloc (by omega) _
    have b3 : Below W.heap.size W w3 := by rw [← hw3]; exact b2.alloc (by omega) _
    have b4 : Below W.heap.size W w4 := by rw [← hw4]; exact b3.alloc (by omega) _
    rw [← hw5]; exact b4.alloc (by omega) _
  clear hw1 hw2 hw3 hw4 hw5
  refine bodyPost_ret (results_cell_row rfl _ _ W.heap.size _ _ (0, 0) _ rfl r1 Tryz.underlying33 rfl (by kernel_rfl)) rfl ?_
  refine ⟨_, _, rfl, ⟨?_, ?_, ⟨rfl, by omega, fun k x hx => by simp [twiceR] at hx⟩, ?_, ?_⟩, hb⟩
  · refine st_row r3 rfl (by omega) fun k x hx => ?_
    rcases k with _ | _ | k <;> simp [twiceR] at hx <;> subst hx
    · exact ⟨none, 0, fun j u hu => by rcases j with _ | _ | _ | _ | _ | j <;> simp [ndC] at hu ⊢ <;> exact hu, SlAt.nil_ _, by decide, by decide⟩
    · exact ⟨_, 2, fun j u hu => by rcases j with _ | _ | _ | _ | _ | j <;> simp [ndC] at hu ⊢ <;> exact hu, sl_row (xs := [0, 0]) r2 (by decide), by decide, by decide⟩
  · refine st_row r5 rfl (by omega) fun k x hx => ?_
    rcases k with _ | _ | _ | k <;> simp [twiceR] at hx <;> subst hx
    · exact ⟨none, 0, fun j u hu => by rcases j with _ | _ | _ | _ | _ | j <;> simp [ndC] at hu ⊢ <;> exact hu, SlAt.nil_ _, by decide, by decide⟩
    · exact ⟨none, 0, fun j u hu => by rcases j with _ | _ | _ | _ | _ | j <;> simp [ndC] at hu ⊢ <;> exact hu, SlAt.nil_ _, by decide, by decide⟩
    · exact ⟨_, 2, fun j u hu => by rcases j with _ | _ | _ | _ | _ | j <;> simp [ndC] at hu ⊢ <;> exact hu, sl_row (xs := [0, 1]) r4 (by decide), by decide, by decide⟩
  · intro y hy
    simp [twiceR] at hy
    rcases hy with rfl | rfl <;> decide
  · intro y hy
    simp [twiceR] at hy
    rcases hy with rfl | rfl | rfl <;> decide

/-- a row of three cells is a list of one rule -/
theorem st_one {w : World} {g : Nat} {ty : TypeId} {a b c : Value} {r : R.Rl} (hr : w.heap[g]? = some (.cells #[a, b, c] ty (0, 0))) (hR : RlR w [a, b, c] r) : StAt 3 RlR w (some ⟨g, 0, none⟩) 1 [r] := by
  refine ⟨rfl, by omega, fun k x hx => ?_⟩
  rcases k with _ | k <;> simp at hx
  subst hx
  refine ⟨g, 0, [a, b, c], rfl, (Array.getElem?_eq_some_iff.1 hr).1, rfl, fun j u hu => ?_, hR⟩
  rw [cell_of_row _ _ _ _ _ (0, 0) hr]
  rcases j with _ | _ | _ | j <;> simp at hu ⊢ <;> exact hu
def OneP (W : World) (r : R.Rl) (e : Ending) (W' : World) : Prop :=
  ∃ A, e = .returned (.slice A 1 1) ∧ StAt 3 RlR W' A 1 [r] ∧ Below W.heap.size W W'

set_option maxRecDepth 100000 in
set_option maxHeartbeats 1000000 in
theorem one_any {r : R.Rl} {nl cl nr cr np cp : Nat} {AL AR AP : Option Addr} {W : World} (hR : RlAt W r nl nr np AL AR AP) :
    Calls Tryz.prog 22 #[.agg #[.slice AL nl cl, .slice AR nr cr, .slice AP np cp]] W (OneP W r) := by
  obtain ⟨W1, hW1⟩ : ∃ W1, W1 = W.alloc (.cells #[.slice AL nl cl, .slice AR nr cr, .slice AP np cp] 33) := ⟨_, rfl⟩
  have hb1 : Below W.heap.size W W1 := by rw [hW1]; exact (Below.refl _ _).alloc (Nat.le_refl _) _
  have hrow : W1.heap[W.heap.size]? = some (.cells #[.slice AL nl cl, .slice AR nr cr, .slice AP np cp] 33 (0, 0)) := by rw [hW1]; exact heap_alloc_new W _
  obtain ⟨c0, c1, c2, _⟩ := rl_cells hrow
  have HB1 := Lib.hid hb1
  have HW1 := Lib.hid hW1
  have HR := Lib.hid hR
  clear hb1 hrow hW1 hR
  go_enter Tryz.func22, Tryz.ntmps22
  go_upto_region 1 with (fail)
  rw [← HW1.out]
  go_wp2
  go_ret
  have hb2 : Below W.heap.size W (W1.alloc (.cells #[.slice AL nl cl, .slice AR nr cr, .slice AP np cp] 33)) := HB1.out.alloc HB1.out.size _
  exact ⟨_, rfl, st_one (heap_alloc_new W1 _) ⟨nl, cl, nr, cr, np, cp, AL, AR, AP, rfl, HR.out.below hb2⟩, hb2⟩

def longT (rs : List R.Rl) : Bool := rs.any R.rlong || decide (50 < rs.length)
theorem longT_len {rs : List R.Rl} (h : longT rs = false) : rs.length ≤ 50 := by
  unfold longT at h
  rw [Bool.or_eq_false_iff] at h
  have := of_decide_eq_false h.2
  omega

set_option maxRecDepth 100000 in
set_option maxHeartbeats 4000000 in
theorem lLong_any {rs : List R.Rl} {A : Option Addr} {n c : Nat} {W : World} (hS : StAt 3 RlR W A n rs) :
    Calls Tryz.prog 21 #[.slice A n c] W fun e W' => e = .returned (.bool (longT rs)) ∧ Below W.heap.size W W' := by
  have HS := Lib.hid hS
  have Hn := Lib.hid hS.len
  have hnn := hS.le
  clear hS
  go_enter Tryz.func21, Tryz.ntmps21
  go_wp2_with fail
  go_loopg [3] (n + 1) (fun gg s3 wr => ∃ j : Nat, j ≤ n ∧ s3 = .int .i64 (j : Int) ∧ gg + j = n + 1 ∧ Hid ((rs.take j).any R.rlong = false) ∧ Hid (Below W.heap.size W wr))
  case atStart => exact ⟨0, Nat.zero_le _, rfl, rfl, Lib.hid rfl, Lib.hid (Below.refl _ _)⟩
  case round =>
    obtain ⟨j, hj, rfl, hgk, Ha, Hb⟩ := hrel
    have Hgk := Lib.hid hgk
    clear hgk
    by_cases hjn : j < n
    · obtain ⟨r, b, off, nl, cl, nr, cr, np, cp, AL, AR, AP, hx, hA, hb, c0, c1, c2, hR⟩ := rl_at (HS.out.below monoRl Hb.out) hjn
      subst hA
      have Hx := Lib.hid hx
      have HC := Lib.hid (rLong_any (cl := cl) (cr := cr) (cp := cp) hR)
      obtain ⟨s, hs⟩ : ∃ s, s = R.rlong r := ⟨_, rfl⟩
      have Hs := Lib.hid hs
      rw [← hs] at HC
      clear hx hb hR hs
      go_wp2_with fail
      (with_reducible refine HC.out.mono ?_)
      rintro e w2 ⟨rfl, hb2⟩
      have Hb2 := Lib.hid (Hb.out.trans (hb2.mono Hb.out.size))
      clear hb2 HC c0 c1 c2
      cases s with
      | true =>
        have Hh := Lib.hid (show longT rs = true from by
          unfold longT
          rw [Bool.or_eq_true, List.any_eq_true]
          exact .inl ⟨r, List.mem_of_getElem? Hx.out, Hs.out.symm⟩)
        go_wp2_with fail
        go_ret
        exact ⟨by rw [Hh.out]; rfl, Hb2.out⟩
      | false =>
        go_wp2_with fail
        go_roundg (gk - 1)
        case measure => have := Hgk.out; omega
        case rel =>
          have := Hgk.out
          refine ⟨j + 1, by omega, by go_num, by omega, Lib.hid ?_, Hb2⟩
          rw [List.take_add_one, Hx.out, List.any_append, Ha.out]
          simp [← Hs.out]
    · obtain rfl : n = j := by omega
      have ha : rs.any R.rlong = false := by
        have h := Ha.out
        rw [List.take_of_length_le (by rw [Hn.out]; exact Nat.le_refl _)] at h
        exact h
      have Ha2 := Lib.hid ha
      clear ha
      by_cases h50 : 50 < n
      · have Hh := Lib.hid (show longT rs = true from by
          unfold longT
          rw [Hn.out, decide_eq_true h50, Bool.or_true])
        have q : decide ((50 : Int) < (n : Int)) = true := decide_eq_true (by omega)
        go_wp2_with fail
        go_ret
        exact ⟨by rw [Hh.out]; rfl, Hb.out⟩
      · have Hh := Lib.hid (show longT rs = false from by
          unfold longT
          rw [Hn.out, decide_eq_false h50, Ha2.out]
          rfl)
        have q : decide ((50 : Int) < (n : Int)) = false := decide_eq_false (by omega)
        go_wp2_with fail
        go_ret
        exact ⟨by rw [Hh.out]; rfl, Hb.out⟩
end KT
end Go.Proofs.YtbiopedpceddeaaGreatDoor
end
section
namespace Go.Proofs.YtbiopedpceddeaaGreatDoor
open Go.RowKit Go.Maps Go.Lib
set_option linter.unusedVariables false
set_option linter.unusedSimpArgs false
namespace KT
theorem twice_valid : R.rvalid twiceR = 0 := by decide +kernel
theorem twice_text : textW twiceR = [51, 51, 46, 48, 46, 48, 46, 48, 32, 49, 46, 48, 46, 48, 46, 48, 44, 48, 44, 48, 32, 61, 62, 32, 51, 51, 46, 48, 46, 48, 46, 48, 32, 48, 46, 48, 46, 48, 46, 50, 32, 51, 46, 48, 46, 48, 46, 48, 44, 48, 44, 49, 32, 105, 102] := by decide +kernel
theorem twice_small : RlS twiceR := by
  refine ⟨fun x hx => ?_, fun x hx => ?_, fun x hx => ?_⟩
  · simp [twiceR] at hx
    rcases hx with rfl | rfl <;> exact ⟨by unfold U32; decide, by unfold U32; decide, by unfold U32; decide, by unfold U32; decide, by simp [U32]⟩
  · simp [twiceR] at hx
    rcases hx with rfl | rfl | rfl <;> exact ⟨by unfold U32; decide, by unfold U32; decide, by unfold U32; decide, by unfold U32; decide, by simp [U32]⟩
  · simp [twiceR] at hx
theorem twice_good : Good sm [twiceR] := by
  have h := Good.snoc (sm := sm) Good.nil twice_valid twice_small rfl (by decide) (by rw [twice_text]; decide)
  simpa using h
theorem twice_reads : Reads sm 0 [] (storeT [twiceR] ++ [49, 50, 32, 51]) [twiceR] [49, 50, 32, 51] := by
  refine Reads.store (sm := sm) [twiceR] 0 [] (by simpa using twice_good) ?_
  exact .stop fun told t rest r e => by
    rw [lineOf_no10 (by decide)] at e
    cases e
theorem twice_has : hasA [twiceR] [] twiceR = (true, 0) := by
  unfold hasA
  rw [if_neg (by rw [twice_valid]; decide), if_neg (by simp)]
  unfold hasT
  simp [sm_refl]

set_option maxRecDepth 100000 in
set_option maxHeartbeats 4000000 in
theorem kknown_any {W : World} (hL : Lb W) :
    Calls Tryz.prog 23 #[] W fun e W' => e = .returned (.bool true) ∧ Below W.heap.size W W' := by
  have HL := Lib.hid (fun X (h : Below W.heap.size W X) => hL.below h)
  have Hb0 := Lib.hid (Below.refl W.heap.size W)
  clear hL
  go_enter Tryz.func23, Tryz.ntmps23
  go_wp2_with fail
  (with_reducible refine (twice_any _).mono ?_)
  rintro e w1 ⟨A1, A2, rfl, hR, hb⟩
  have Hb1 := Lib.hid hb
  have HC := Lib.hid (Text_any (cl := 2) (cr := 3) (cp := 0) hR (HL.out _ hb).tens)
  rw [show textOf twiceR = textW twiceR from by unfold textOf; rw [twice_valid, if_pos rfl], twice_valid, twice_text] at HC
  clear hR hb
  go_wp2_with fail
  (with_reducible refine HC.out.mono ?_)
  rintro e w2 ⟨rfl, hb⟩
  have Hb2 := Lib.hid (Hb1.out.trans (hb.mono Hb1.out.size))
  clear hb HC
  go_wp2_with fail
  (with_reducible refine (twice_any _).mono ?_)
  rintro e w3 ⟨A3, A4, rfl, hR, hb⟩
  have Hb3 := Lib.hid (Hb2.out.trans (hb.mono Hb2.out.size))
  obtain ⟨w4, hw4⟩ : ∃ w4, w4 = w3.alloc (.cells #[.slice A3 2 2, .slice A4 3 3, .slice none 0 0] 33) := ⟨_, rfl⟩
  have hb4 : Below w3.heap.size w3 w4 := by rw [hw4]; exact (Below.refl _ _).alloc (Nat.le_refl _) _
  have hrow : w4.heap[w3.heap.size]? = some (.cells #[.slice A3 2 2, .slice A4 3 3, .slice none 0 0] 33 (0, 0)) := by rw [hw4]; exact heap_alloc_new w3 _
  have Hb4 := Lib.hid (Hb3.out.trans (hb4.mono Hb3.out.size))
  have HC := Lib.hid (Write_any (c := 1) (st_one hrow ⟨2, 2, 3, 3, 0, 0, A3, A4, none, rfl, hR.below hb4⟩) (by decide) (HL.out _ Hb4.out).tens)
  have Hw4 := Lib.hid hw4
  unfold WritePost at HC
  rw [writeT_good twice_good] at HC
  clear hR hb hb4 hrow hw4
  go_wp2_with (go_at_call 31; rw [← Hw4.out]; fail)
  first | rw [← Hw4.out] | skip
  (with_reducible refine HC.out.mono ?_)
  rintro e w5 ⟨rfl, hb⟩
  have Hb5 := Lib.hid (Hb4.out.trans (hb.mono Hb4.out.size))
  obtain ⟨t, ht⟩ : ∃ t, t = storeT [twiceR] := ⟨_, rfl⟩
  have Hr := Lib.hid twice_reads
  have Hr2 := Lib.hid (Reads.whole twice_good)
  rw [← ht] at Hr Hr2
  have htl : t.length ≤ 1000 := by
    rw [ht]
    have h := storeFrom_len [twiceR] 0 (fun r hr => by
      rw [List.mem_singleton] at hr
      subst hr
      rw [twice_text]
      decide)
    show (storeFrom 0 [twiceR]).length ≤ 1000
    simp only [List.length_cons, List.length_nil] at h
    omega
  rw [← ht]
  obtain ⟨s1, hs1⟩ : ∃ s1, s1 = t ++ [49, 50, 32, 51] := ⟨_, rfl⟩
  have l1 : s1.length ≤ 1004 := by rw [hs1, List.length_append]; simp; omega
  have m1 : (⟨t.toArray⟩ ++ ⟨#[49, 50, 32, 51]⟩ : ByteArray) = ⟨s1.toArray⟩ := by rw [hs1]; exact ByteArray.mk_append_mk t [49, 50, 32, 51]
  have z1 : t.toArray.size = t.length := by simp
  rw [← hs1] at Hr
  have HD := Lib.hid (Read_any (by omega) Hr.out (HL.out _ Hb5.out))
  clear hb HC ht hs1
  go_wp2_with fail
  (refine HD.out.mono ?_)
  rintro e w6 ⟨A6, n6, c6, rfl, hS6, hb⟩
  obtain rfl : 1 = n6 := hS6.len
  have Hb6 := Lib.hid (Hb5.out.trans (hb.mono Hb5.out.size))
  clear hb HD hS6 m1 z1 l1
  go_wp2_with fail
  (with_reducible refine (twice_any _).mono ?_)
  rintro e w7 ⟨A7, A8, rfl, hR, hb⟩
  have Hb7 := Lib.hid (Hb6.out.trans (hb.mono Hb6.out.size))
  have HC := Lib.hid (Has_any (cl := 2) (cr := 3) (cp := 0) (by omega) Hr2.out hR (HL.out _ Hb7.out))
  unfold HasP at HC
  rw [twice_has] at HC
  clear hR hb
  go_wp2_with fail
  (with_reducible refine HC.out.mono ?_)
  rintro e w8 ⟨rfl, hb⟩
  have Hb8 := Lib.hid (Hb7.out.trans (hb.mono Hb7.out.size))
  have HSm := Lib.hid (Sum_any (n := 0) ⟨by decide, by decide⟩ (t := [97]) (by decide) (W := w8))
  rw [show sumT 0 [97] = 98 from by decide +kernel] at HSm
  clear hb HC htl
  go_wp2_with (go_at_call 29; (with_reducible refine HSm.out.mono ?_); rintro e w9 ⟨rfl, hb⟩; have Hb9 := Lib.hid (Hb8.out.trans (hb.mono Hb8.out.size)); clear hb)
  go_ret
  exact ⟨rfl, Hb9.out⟩
end KT
end Go.Proofs.YtbiopedpceddeaaGreatDoor
end
section
namespace Go.Proofs.YtbiopedpceddeaaGreatDoor
open Go.RowKit Go.Maps Go.Lib
set_option linter.unusedVariables false
set_option linter.unusedSimpArgs false
namespace KT
set_option maxRecDepth 100000 in
set_option maxHeartbeats 4000000 in
theorem keepSums_any {n : Int} (hn : I64 n) {s : List UInt8} (hs : s.length ≤ 9223372036854775807) {W : World} (hL : Lb W) :
    Calls Tryz.prog 7 #[.int .i64 n, .string ⟨s.toArray⟩] W fun e W' => e = .returned (.bool true) ∧ Below W.heap.size W W' := by
  have HK := Lib.hid (fun X (h : Below W.heap.size W X) => kknown_any (hL.below h))
  have Hb0 := Lib.hid (Below.refl W.heap.size W)
  have hsz : s.toArray.size = s.length := by simp
  obtain ⟨n0, n1⟩ := id hn
  have Hn := Lib.hid hn
  clear hL hn
  by_cases hl : 10000 < s.length
  · have q : decide ((10000 : Int) < (s.length : Int)) = true := decide_eq_true (by omega)
    go_enter Tryz.func7, Tryz.ntmps7
    go_wp2_with (go_at_call 23; (with_reducible refine (HK.out _ Hb0.out).mono ?_); rintro e w9 ⟨rfl, hb⟩; have Hb9 := Lib.hid hb; clear hb)
    go_ret
    exact ⟨rfl, Hb9.out⟩
  have q : decide ((10000 : Int) < (s.length : Int)) = false := decide_eq_false (by omega)
  have HC := Lib.hid (Sum_any Hn.out (t := s) (by omega) (W := W))
  have HD := Lib.hid (fun X => rSum_any Hn.out (t := s) (by omega) (W := X))
  obtain ⟨m, hm⟩ : ∃ m, m = sumT n s := ⟨_, rfl⟩
  rw [← hm] at HC HD
  have hm0 : 0 ≤ m := by rw [hm]; exact (sumT_range n s).1
  have hm1 : m < 1000003 := by rw [hm]; exact (sumT_range n s).2
  clear hm hl
  go_enter Tryz.func7, Tryz.ntmps7
  go_wp2_with fail
  (with_reducible refine HC.out.mono ?_)
  rintro e w1 ⟨rfl, hb⟩
  have Hb1 := Lib.hid hb
  clear hb HC
  go_wp2_with fail
  (with_reducible refine (HD.out _).mono ?_)
  rintro e w2 ⟨rfl, rfl⟩
  clear HD
  have q0 : decide ((0 : Int) ≤ m) = true := decide_eq_true hm0
  have q1 : decide (m < (1000003 : Int)) = true := decide_eq_true hm1
  go_wp2_with (go_at_call 23; (with_reducible refine (HK.out _ Hb1.out).mono ?_); rintro e w9 ⟨rfl, hb⟩; have Hb9 := Lib.hid (Hb1.out.trans (hb.mono Hb1.out.size)); clear hb)
  go_ret
  exact ⟨rfl, Hb9.out⟩

theorem st_rls {rs : List R.Rl} {A : Option Addr} {n : Nat} {W : World} (h : StAt 3 RlR W A n rs) : ∀ r ∈ rs, R.rvalid r = 0 → RlS r ∧ Wrt r := fun r hr hv => by
  obtain ⟨k, hk⟩ := List.mem_iff_getElem?.1 hr
  obtain ⟨b, off, us, e1, e2, e3, e4, e5⟩ := h.2.2 k r hk
  exact ⟨rls_of_valid e5 hv, wrt_of_valid e5 hv⟩
theorem good_store {rs : List R.Rl} (h : Good sm rs) : (storeT rs).length ≤ 8880 := by
  have h1 := storeFrom_len rs 0 h.short
  have h2 := h.len
  show (storeFrom 0 rs).length ≤ 8880
  omega

end KT
end Go.Proofs.YtbiopedpceddeaaGreatDoor
end
section
namespace Go.Proofs.YtbiopedpceddeaaGreatDoor
open Go.RowKit Go.Maps Go.Lib
set_option linter.unusedVariables false
set_option linter.unusedSimpArgs false
namespace KT
theorem textW_len {r : R.Rl} (h : Wrt r) : (textW r).length ≤ 60702 := by
  have h1 := jn_len_le 32 200 (wordsOf r) (fun x hx => by
    unfold wordsOf at hx
    simp only [List.mem_append, List.mem_cons, List.mem_map] at hx
    rcases hx with ⟨a, ha, rfl⟩ | rfl | ⟨a, ha, rfl⟩ | rfl | ⟨a, ha, rfl⟩
    · exact nodeW_len (h.l a ha)
    · decide
    · exact nodeW_len (h.q a ha)
    · decide
    · exact condW_len (h.p a ha))
  have h2 : (wordsOf r).length = r.left.length + (r.right.length + (r.pre.length + 1) + 1) := by
    unfold wordsOf
    simp only [List.length_append, List.length_cons, List.length_map]
  have := h.nl
  have := h.nr
  have := h.np
  unfold textW
  omega
theorem textOf_len {W : World} {us : List Value} {r : R.Rl} (h : RlR W us r) : (textOf r).length ≤ 60702 := by
  unfold textOf
  split
  · rename_i hv
    exact textW_len (wrt_of_valid h hv)
  · simp

set_option maxRecDepth 100000 in
set_option maxHeartbeats 8000000 in
theorem keepTexts_any {r : R.Rl} {nl cl nr cr np cp : Nat} {AL AR AP : Option Addr} {W : World} (hR : RlAt W r nl nr np AL AR AP) (hL : Lb W) :
    Calls Tryz.prog 5 #[.agg #[.slice AL nl cl, .slice AR nr cr, .slice AP np cp]] W fun e W' => e = .returned (.bool true) ∧ Below W.heap.size W W' := by
  obtain ⟨W1, hW1⟩ : ∃ W1, W1 = W.alloc (.cells #[.slice AL nl cl, .slice AR nr cr, .slice AP np cp] 33) := ⟨_, rfl⟩
  have hb1 : Below W.heap.size W W1 := by rw [hW1]; exact (Below.refl _ _).alloc (Nat.le_refl _) _
  have hrow : W1.heap[W.heap.size]? = some (.cells #[.slice AL nl cl, .slice AR nr cr, .slice AP np cp] 33 (0, 0)) := by rw [hW1]; exact heap_alloc_new W _
  have HB1 := Lib.hid hb1
  have HW1 := Lib.hid hW1
  have HR := Lib.hid (fun X (h : Below W1.heap.size W1 X) => (hR.below hb1).below h)
  have HK := Lib.hid (fun X (h : Below W1.heap.size W1 X) => kknown_any ((hL.below hb1).below h))
  have HL := Lib.hid (fun X (h : Below W1.heap.size W1 X) => (hL.below hb1).below h)
  have HEnd := Lib.hid (show ∀ X, Below W1.heap.size W1 X → Below W.heap.size W X from fun X h => hb1.trans (h.mono hb1.size))
  have HS := Lib.hid (show ∀ Y, Below W1.heap.size W1 Y → Y.cell? ⟨W.heap.size, 0, none⟩ = some (.slice AL nl cl) ∧ Y.cell? ⟨W.heap.size, 1, none⟩ = some (.slice AR nr cr) ∧ Y.cell? ⟨W.heap.size, 2, none⟩ = some (.slice AP np cp) from fun Y hY => by
    obtain ⟨h0, h1, h2, _⟩ := rl_cells ((hY.block _ (Array.getElem?_eq_some_iff.1 hrow).1).trans hrow)
    exact ⟨h0, h1, h2⟩)
  have Hb0 := Lib.hid (Below.refl W1.heap.size W1)
  clear hL hR hb1 hrow hW1
  obtain ⟨c0, c1, c2⟩ := HS.out _ Hb0.out
  have HO := Lib.hid (one_any (cl := cl) (cr := cr) (cp := cp) (HR.out _ Hb0.out))
  go_enter Tryz.func5, Tryz.ntmps5
  go_upto_region 1 with (fail)
  rw [← HW1.out]
  go_wp2_with fail
  (refine HO.out.mono ?_)
  rintro e w1 ⟨B1, rfl, hS1, hb⟩
  have Hb1 := Lib.hid hb
  have HLo := Lib.hid (lLong_any (c := 1) hS1)
  obtain ⟨lg, hlg⟩ : ∃ lg, lg = longT [r] := ⟨_, rfl⟩
  rw [← hlg] at HLo
  clear hb hS1 hlg HO c0 c1 c2
  go_wp2_with fail
  (with_reducible refine HLo.out.mono ?_)
  rintro e w2 ⟨rfl, hb⟩
  have Hb2 := Lib.hid (Hb1.out.trans (hb.mono Hb1.out.size))
  clear hb HLo
  cases lg with
  | true =>
    go_wp2_with (go_at_call 23; (with_reducible refine (HK.out _ Hb2.out).mono ?_); rintro e w9 ⟨rfl, hb⟩; have Hb9 := Lib.hid (Hb2.out.trans (hb.mono Hb2.out.size)); clear hb)
    go_ret
    exact ⟨rfl, HEnd.out _ Hb9.out⟩
  | false =>
  have HT1 := Lib.hid (Text_any (cl := cl) (cr := cr) (cp := cp) (HR.out _ Hb2.out) (HL.out _ Hb2.out).tens)
  have HT2 := Lib.hid (fun X (h : Below W1.heap.size W1 X) => rText_any (cl := cl) (cr := cr) (cp := cp) (HR.out X h) (HL.out X h).tens)
  have htl := textOf_len (W := w2) ⟨nl, cl, nr, cr, np, cp, AL, AR, AP, rfl, HR.out _ Hb2.out⟩
  obtain ⟨t, ht⟩ : ∃ t, t = textOf r := ⟨_, rfl⟩
  obtain ⟨y, hy⟩ : ∃ y, y = R.rvalid r := ⟨_, rfl⟩
  rw [← ht, ← hy] at HT1 HT2
  rw [← ht] at htl
  have Ht := Lib.hid ht
  have Hy := Lib.hid hy
  clear ht hy
  obtain ⟨c0, c1, c2⟩ := HS.out _ Hb2.out
  go_wp2_with fail
  (with_reducible refine HT1.out.mono ?_)
  rintro e w3 ⟨rfl, hb⟩
  have Hb3 := Lib.hid (Hb2.out.trans (hb.mono Hb2.out.size))
  clear hb HT1 c0 c1 c2
  obtain ⟨c0, c1, c2⟩ := HS.out _ Hb3.out
  go_wp2_with fail
  (with_reducible refine (HT2.out _ Hb3.out).mono ?_)
  rintro e w4 ⟨rfl, hb⟩
  have Hb4 := Lib.hid (Hb3.out.trans (hb.mono Hb3.out.size))
  clear hb HT2 c0 c1 c2
  have HP := Lib.hid (Parse_any (t := t) (by omega) (HL.out _ Hb4.out))
  go_wp2_with fail
  (refine HP.out.mono ?_)
  rintro e w7 ⟨v1, v2, v3, q, code, rfl, hown, fl, fr, hb7, hcase⟩
  obtain ⟨A1, k1, e1⟩ := hown.ol.form
  obtain ⟨A2, k2, e2⟩ := hown.or_.form
  obtain ⟨A3, k3, e3⟩ := hown.op.form
  obtain ⟨n1, hn1⟩ : ∃ n, n = q.left.length := ⟨_, rfl⟩
  obtain ⟨n2, hn2⟩ : ∃ n, n = q.right.length := ⟨_, rfl⟩
  obtain ⟨n3, hn3⟩ : ∃ n, n = q.pre.length := ⟨_, rfl⟩
  rw [← hn1] at e1
  rw [← hn2] at e2
  rw [← hn3] at e3
  subst e1 e2 e3
  obtain ⟨w8, hw8⟩ : ∃ w8, w8 = w7.alloc (.cells #[.slice A1 n1 k1, .slice A2 n2 k2, .slice A3 n3 k3] 33) := ⟨_, rfl⟩
  have hb8 : Below w7.heap.size w7 w8 := by rw [hw8]; exact (Below.refl _ _).alloc (Nat.le_refl _) _
  have hrow : w8.heap[w7.heap.size]? = some (.cells #[.slice A1 n1 k1, .slice A2 n2 k2, .slice A3 n3 k3] 33 (0, 0)) := by rw [hw8]; exact heap_alloc_new w7 _
  have Hb8 := Lib.hid (Hb4.out.trans ((hb7.trans (hb8.mono hb7.size)).mono Hb4.out.size))
  have Ho8 := Lib.hid (hown.below hb8)
  have HR8 := Lib.hid (show RlAt w8 q n1 n2 n3 A1 A2 A3 from ⟨Ho8.out.ol.stAt (ndF_rel _) hn1.symm, Ho8.out.or_.stAt (ndF_rel _) hn2.symm, Ho8.out.op.stAt hn3.symm, fl, fr⟩)
  have HS8 := Lib.hid (show ∀ Y, Below w8.heap.size w8 Y → (fun Y : World => Y.cell? ⟨w7.heap.size, 0, none⟩ = some (.slice A1 n1 k1) ∧ Y.cell? ⟨w7.heap.size, 1, none⟩ = some (.slice A2 n2 k2) ∧ Y.cell? ⟨w7.heap.size, 2, none⟩ = some (.slice A3 n3 k3) ∧ Y.cell? ⟨W.heap.size, 0, none⟩ = some (.slice AL nl cl) ∧ Y.cell? ⟨W.heap.size, 1, none⟩ = some (.slice AR nr cr) ∧ Y.cell? ⟨W.heap.size, 2, none⟩ = some (.slice AP np cp)) Y from fun Y hY => by
    obtain ⟨h0, h1, h2, _⟩ := rl_cells ((hY.block _ (Array.getElem?_eq_some_iff.1 hrow).1).trans hrow)
    obtain ⟨h3, h4, h5⟩ := HS.out Y (Hb8.out.trans (hY.mono Hb8.out.size))
    exact ⟨h0, h1, h2, h3, h4, h5⟩)
  have Hw8 := Lib.hid hw8
  have HK8 := Lib.hid (fun X (h : Below w8.heap.size w8 X) => HK.out X (Hb8.out.trans (h.mono Hb8.out.size)))
  have HL8 := Lib.hid (fun X (h : Below w8.heap.size w8 X) => HL.out X (Hb8.out.trans (h.mono Hb8.out.size)))
  clear hb8 hown hb7 hn1 hn2 hn3 fl fr HP hw8 hrow
  go_upto_region 8 with (fail)
  rw [← Hw8.out]
  by_cases hy0 : y = 0
  rotate_left
  · have q0 : (y != 0) = true := by simpa using hy0
    obtain ⟨ov⟩ := ov_ex w8
    have HKo := Lib.hid (fun u => calls_over (ov := ov) (u := u) (HK8.out _ (ov.below u)))
    clear hy0 hcase
    refine wp_region_ovq ov (by kernel_rfl) (by kernel_rfl) ?_
    repeat (go_big_quiet_step ((go_at_call 23; with_reducible exact HKo.out _)))
    refine wpQuiet_nil ?_
    rintro _ ⟨u, rfl⟩
    have Hb9 := Lib.hid (Hb8.out.trans ((ov.below u).mono Hb8.out.size))
    clear HKo
    generalize ov.f u = w9 at *
    clear ov
    go_wp2_with fail
    go_ret
    exact ⟨rfl, HEnd.out _ Hb9.out⟩
  subst hy0
  have hte : t = textW r := by rw [Ht.out]; unfold textOf; rw [← Hy.out, if_pos rfl]
  have hps : parse t = some r := by rw [hte]; exact parse_text Hy.out.symm (rls_of_valid (W := w2) ⟨nl, cl, nr, cr, np, cp, AL, AR, AP, rfl, HR.out _ Hb2.out⟩ Hy.out.symm)
  rcases hcase with ⟨hq, rfl⟩ | ⟨hq, _⟩
  rotate_left
  · rw [hps] at hq
    cases hq
  obtain rfl : r = q := by rw [hps] at hq; injection hq
  have Hw := Lib.hid (show ∀ x ∈ [r], Wrt x from fun x hx => by
    rw [List.mem_singleton] at hx
    subst hx
    exact wrt_of_valid (W := w2) ⟨nl, cl, nr, cr, np, cp, AL, AR, AP, rfl, HR.out _ Hb2.out⟩ Hy.out.symm)
  have HO1 := Lib.hid (fun X (h : Below w8.heap.size w8 X) => one_any (cl := k1) (cr := k2) (cp := k3) (HR8.out.below h))
  have HO2 := Lib.hid (fun X (h : Below w8.heap.size w8 X) => one_any (cl := cl) (cr := cr) (cp := cp) (HR.out X (Hb8.out.trans (h.mono Hb8.out.size))))
  clear hte hps hq htl
  refine wp_region_held_drew (S := fun Y : World => Y.cell? ⟨w7.heap.size, 0, none⟩ = some (.slice A1 n1 k1) ∧ Y.cell? ⟨w7.heap.size, 1, none⟩ = some (.slice A2 n2 k2) ∧ Y.cell? ⟨w7.heap.size, 2, none⟩ = some (.slice A3 n3 k3) ∧ Y.cell? ⟨W.heap.size, 0, none⟩ = some (.slice AL nl cl) ∧ Y.cell? ⟨W.heap.size, 1, none⟩ = some (.slice AR nr cr) ∧ Y.cell? ⟨W.heap.size, 2, none⟩ = some (.slice AP np cp)) (by kernel_rfl) (HS8.out _ (Below.refl _ _).drew) (fun hHeld => ?_)
  refine wpAnyH_take (i := 0) (oi := _) (v := ?_) rfl (by kernel_rfl) (by kernel_rfl) (by kernel_rfl) (fun _ _ _ h => h) (Or.inl ⟨by rfl, fun Y hY => ?_⟩) hHeld ?_
  rotate_left
  · (go_simp) <;> with_reducible rfl
  try simp only [Act.put, List.setIfInBounds_toArray, List.set_cons_zero, List.set_cons_succ, List.getElem_toArray, List.getElem_cons_succ, List.getElem_cons_zero]
  refine wpAnyH_take (i := 1) (oi := _) (v := ?_) rfl (by kernel_rfl) (by kernel_rfl) (by kernel_rfl) (fun _ _ _ h => h) (Or.inl ⟨by rfl, fun Y hY => ?_⟩) hHeld ?_
  rotate_left
  · (go_simp) <;> with_reducible rfl
  try simp only [Act.put, List.setIfInBounds_toArray, List.set_cons_zero, List.set_cons_succ, List.getElem_toArray, List.getElem_cons_succ, List.getElem_cons_zero]
  refine wpAnyH_take (i := 2) (oi := _) (v := ?_) rfl (by kernel_rfl) (by kernel_rfl) (by kernel_rfl) (fun _ _ _ h => h) (Or.inl ⟨by rfl, fun Y hY => ?_⟩) hHeld ?_
  rotate_left
  · (go_simp) <;> with_reducible rfl
  try simp only [Act.put, List.setIfInBounds_toArray, List.set_cons_zero, List.set_cons_succ, List.getElem_toArray, List.getElem_cons_succ, List.getElem_cons_zero]
  refine wpAnyH_take (i := 3) (oi := _) (v := ?_) rfl (by kernel_rfl) (by kernel_rfl) (by kernel_rfl) (fun _ _ _ h => h) (Or.inl ⟨by rfl, fun Y hY => ?_⟩) hHeld ?_
  rotate_left
  · (go_simp) <;> with_reducible rfl
  try simp only [Act.put, List.setIfInBounds_toArray, List.set_cons_zero, List.set_cons_succ, List.getElem_toArray, List.getElem_cons_succ, List.getElem_cons_zero]
  refine wpAnyH_take (i := 4) (oi := _) (v := ?_) rfl (by kernel_rfl) (by kernel_rfl) (by kernel_rfl) (fun _ _ _ h => h) (Or.inl ⟨by rfl, fun Y hY => ?_⟩) hHeld ?_
  rotate_left
  · (go_simp) <;> with_reducible rfl
  try simp only [Act.put, List.setIfInBounds_toArray, List.set_cons_zero, List.set_cons_succ, List.getElem_toArray, List.getElem_cons_succ, List.getElem_cons_zero]
  refine wpAnyH_take (i := 5) (oi := _) (v := ?_) rfl (by kernel_rfl) (by kernel_rfl) (by kernel_rfl) (fun _ _ _ h => h) (Or.inl ⟨by rfl, fun Y hY => ?_⟩) hHeld ?_
  rotate_left
  · (go_simp) <;> with_reducible rfl
  try simp only [Act.put, List.setIfInBounds_toArray, List.set_cons_zero, List.set_cons_succ, List.getElem_toArray, List.getElem_cons_succ, List.getElem_cons_zero]
  refine wpAnyH_take (i := 6) (oi := _) (v := ?_) rfl (by kernel_rfl) (by kernel_rfl) (by kernel_rfl) (fun _ _ _ h => h) (Or.inl ⟨by rfl, fun Y hY => ?_⟩) hHeld ?_
  rotate_left
  · obtain ⟨y0, y1, y2, y3, y4, y5⟩ := hY
    (go_simp) <;> with_reducible rfl
  try simp only [Act.put, List.setIfInBounds_toArray, List.set_cons_zero, List.set_cons_succ, List.getElem_toArray, List.getElem_cons_succ, List.getElem_cons_zero]
  refine wpAnyH_take (i := 8) (oi := _) (v := ?_) rfl (by kernel_rfl) (by kernel_rfl) (by kernel_rfl) (fun _ _ _ h => h) (Or.inl ⟨by rfl, fun Y hY => ?_⟩) hHeld ?_
  rotate_left
  · obtain ⟨y0, y1, y2, y3, y4, y5⟩ := hY
    (go_simp) <;> with_reducible rfl
  try simp only [Act.put, List.setIfInBounds_toArray, List.set_cons_zero, List.set_cons_succ, List.getElem_toArray, List.getElem_cons_succ, List.getElem_cons_zero]
  refine wpAnyH_ready (rs := [7]) (by kernel_rfl) (by simp) ?_
  refine AllReadyH.cons (o := _) rfl (fun KK hKK => ?_) AllReadyH.nil
  clear hHeld
  go_simp
  (refine (HO1.out _ (by first | exact (Below.refl w8.heap.size w8).drew | exact ((Below.refl w8.heap.size w8).drew).drew)).mono ?_)
  rintro e x1 ⟨Aa1, rfl, hs1, hb1⟩
  have Hx1 := Lib.hid (show Below w8.heap.size w8 x1 from (by first | exact ((Below.refl w8.heap.size w8).drew).trans (hb1.mono ((Below.refl w8.heap.size w8).drew).size) | exact (((Below.refl w8.heap.size w8).drew).drew).trans (hb1.mono (((Below.refl w8.heap.size w8).drew).drew).size)))
  have HSt1 := Lib.hid hs1
  clear hs1 hb1
  refine hKK.out _ _ (HS8.out _ Hx1.out) (fun hHeld => ?_)
  clear hKK KK
  try simp only [Act.put, List.setIfInBounds_toArray, List.set_cons_zero, List.set_cons_succ, List.getElem_toArray, List.getElem_cons_succ, List.getElem_cons_zero]
  refine wpAnyH_ready (rs := [9]) (by kernel_rfl) (by simp) ?_
  refine AllReadyH.cons (o := _) rfl (fun KK hKK => ?_) AllReadyH.nil
  clear hHeld
  go_simp
  (refine (HO2.out _ (by first | exact Hx1.out | exact (Hx1.out).drew)).mono ?_)
  rintro e x2 ⟨Aa2, rfl, hs2, hb2⟩
  have Hx2 := Lib.hid (show Below w8.heap.size w8 x2 from (by first | exact (Hx1.out).trans (hb2.mono (Hx1.out).size) | exact ((Hx1.out).drew).trans (hb2.mono ((Hx1.out).drew).size)))
  have HSt2 := Lib.hid hs2
  have hB12 : Below x1.heap.size x1 x2 := by first | exact hb2 | exact (Below.refl _ _).drew.trans hb2
  have HSq := Lib.hid (HSt1.out.below monoRl hB12)
  clear hs2 hb2 hB12 HSt1
  refine hKK.out _ _ (HS8.out _ Hx2.out) (fun hHeld => ?_)
  clear hKK KK
  try simp only [Act.put, List.setIfInBounds_toArray, List.set_cons_zero, List.set_cons_succ, List.getElem_toArray, List.getElem_cons_succ, List.getElem_cons_zero]
  refine wpAnyH_ready (rs := [10]) (by kernel_rfl) (by simp) ?_
  refine AllReadyH.cons (o := _) rfl (fun KK hKK => ?_) AllReadyH.nil
  clear hHeld
  go_simp
  have HX := Lib.hid (fun X (h : Below x2.heap.size x2 X) => rsame_any (W := X) (c := 1) (d := 1) (HSq.out.below monoRl h) Hw.out (HSt2.out.below monoRl h) Hw.out (HL8.out X (Hx2.out.trans (h.mono Hx2.out.size))).tens)
  simp only [sameT_refl] at HX
  (refine (HX.out _ (by first | exact Below.refl _ _ | exact (Below.refl _ _).drew)).mono ?_)
  rintro e x3 ⟨rfl, hb3⟩
  have Hx3 := Lib.hid (show Below w8.heap.size w8 x3 from (by first | exact Hx2.out.trans (hb3.mono Hx2.out.size) | exact (Hx2.out.drew).trans (hb3.mono (Hx2.out.drew).size)))
  clear hb3 HX
  refine hKK.out _ _ (HS8.out _ Hx3.out) (fun hHeld => ?_)
  clear hKK KK
  try simp only [Act.put, List.setIfInBounds_toArray, List.set_cons_zero, List.set_cons_succ, List.getElem_toArray, List.getElem_cons_succ, List.getElem_cons_zero]
  refine wpAnyH_take (i := 11) (oi := _) (v := ?_) rfl (by kernel_rfl) (by kernel_rfl) (by kernel_rfl) (fun _ _ _ h => h) (Or.inl ⟨by rfl, fun Y hY => ?_⟩) hHeld ?_
  rotate_left
  · (go_simp) <;> with_reducible rfl
  try simp only [Act.put, List.setIfInBounds_toArray, List.set_cons_zero, List.set_cons_succ, List.getElem_toArray, List.getElem_cons_succ, List.getElem_cons_zero]
  refine wpAnyH_take (i := 12) (oi := _) (v := ?_) rfl (by kernel_rfl) (by kernel_rfl) (by kernel_rfl) (fun _ _ _ h => h) (Or.inl ⟨by rfl, fun Y hY => ?_⟩) hHeld ?_
  rotate_left
  · (go_simp) <;> with_reducible rfl
  try simp only [Act.put, List.setIfInBounds_toArray, List.set_cons_zero, List.set_cons_succ, List.getElem_toArray, List.getElem_cons_succ, List.getElem_cons_zero]
  refine wpAnyH_take (i := 13) (oi := _) (v := ?_) rfl (by kernel_rfl) (by kernel_rfl) (by kernel_rfl) (fun _ _ _ h => h) (Or.inl ⟨by rfl, fun Y hY => ?_⟩) hHeld ?_
  rotate_left
  · (go_simp) <;> with_reducible rfl
  try simp only [Act.put, List.setIfInBounds_toArray, List.set_cons_zero, List.set_cons_succ, List.getElem_toArray, List.getElem_cons_succ, List.getElem_cons_zero]
  refine wpAnyH_ready (rs := [14]) (by kernel_rfl) (by simp) ?_
  refine AllReadyH.cons (o := _) rfl (fun KK hKK => ?_) AllReadyH.nil
  clear hHeld
  go_simp
  (refine (HK8.out _ (by first | exact Hx3.out | exact Hx3.out.drew)).mono ?_)
  rintro e x4 ⟨rfl, hb4⟩
  have Hx4 := Lib.hid (show Below w8.heap.size w8 x4 from (by first | exact Hx3.out.trans (hb4.mono Hx3.out.size) | exact (Hx3.out.drew).trans (hb4.mono (Hx3.out.drew).size)))
  clear hb4
  refine hKK.out _ _ (HS8.out _ Hx4.out) (fun hHeld => ?_)
  clear hKK KK
  try simp only [Act.put, List.setIfInBounds_toArray, List.set_cons_zero, List.set_cons_succ, List.getElem_toArray, List.getElem_cons_succ, List.getElem_cons_zero]
  refine wpAnyH_take (i := 15) (oi := _) (v := ?_) rfl (by kernel_rfl) (by kernel_rfl) (by kernel_rfl) (fun _ _ _ h => h) (Or.inl ⟨by rfl, fun Y hY => ?_⟩) hHeld ?_
  rotate_left
  · (go_simp) <;> with_reducible rfl
  try simp only [Act.put, List.setIfInBounds_toArray, List.set_cons_zero, List.set_cons_succ, List.getElem_toArray, List.getElem_cons_succ, List.getElem_cons_zero]
  refine wpAnyH_take (i := 16) (oi := _) (v := ?_) rfl (by kernel_rfl) (by kernel_rfl) (by kernel_rfl) (fun _ _ _ h => h) (Or.inl ⟨by rfl, fun Y hY => ?_⟩) hHeld ?_
  rotate_left
  · (go_simp) <;> with_reducible rfl
  try simp only [Act.put, List.setIfInBounds_toArray, List.set_cons_zero, List.set_cons_succ, List.getElem_toArray, List.getElem_cons_succ, List.getElem_cons_zero]
  refine wpAnyH_done (by kernel_rfl) ?_ _
  clear hHeld
  go_wp2_with fail
  go_ret
  exact ⟨rfl, HEnd.out _ (Hb8.out.trans ((by first | exact Hx4.out | exact Hx4.out.drew : Below w8.heap.size w8 _).mono Hb8.out.size))⟩
end KT
end Go.Proofs.YtbiopedpceddeaaGreatDoor
end
