/- Walks of small functions: comparisons of lists, literals. -/
import Derived.Test.YtceelipcclfdmaaProg
import Derived.Test.YtceelipcclfdmaaBase
import Derived.Test.YtceelipcclfdmaaPlain09
namespace Go.Proofs.Ytceelipcclfdmaa
open Go.RowKit

theorem ret_bool {a b : Bool} (h : a = b) : Ending.returned (.bool a) = .returned (.bool b) := by rw [h]
theorem ret_int {k : IntKind} {a b : Int} (h : a = b) : Ending.returned (.int k a) = .returned (.int k b) := by rw [h]
theorem quiet_dr {P : Program} {f : FuncId} {args : Array Value} {w : World} {n : Nat} {v : Value}
    (h : Calls P f args (w.drewN n) fun e w' => e = .returned v ∧ Dr (w.drewN n) w') : Calls P f args (w.drewN n) fun e w'' => e = .returned v ∧ ∃ m, w'' = w.drewN m :=
  h.mono fun _ _ ⟨he, m, hm⟩ => ⟨he, n + m, by rw [hm, World.drewN_drewN]⟩
theorem take_succ_of {α : Type} {xs : List α} {k : Nat} {x : α} (h : xs[k]? = some x) : xs.take (k + 1) = xs.take k ++ [x] := by
  rw [List.take_add_one, h]; rfl
theorem take_all {α : Type} {xs : List α} {n k : Nat} (hn : xs.length = n) (h : n ≤ k) : xs.take k = xs := List.take_of_length_le (by omega)

set_option maxHeartbeats 400000 in
theorem sameInts_any (A B : Option Addr) (n m c d : Nat) (xs ys : List Int) (w : World) (hA : SlAt (IntR .i64) w A n xs) (hB : SlAt (IntR .i64) w B m ys) :
    Calls Try.prog 14 #[.slice A n c, .slice B m d] w fun e w' => e = .returned (.bool (decide (xs = ys))) ∧ Dr w w' := by
  have hn := hA.le
  have hm := hB.le
  have HA := Lib.hid hA; clear hA
  have HB := Lib.hid hB; clear hB
  by_cases hl : n = m
  · subst hl
    go_enter Try.func14, Try.ntmps14
    go_wp2
    go_loopw [5] (fun i wr => ∃ k : Nat, k ≤ n ∧ i = .int .i64 k ∧ Dr w wr ∧ Hid (xs.take k = ys.take k)) (fun i _ => n - (intOf i).toNat)
    case atStart => exact ⟨0, Nat.zero_le _, rfl, Dr.refl _, rfl⟩
    case round =>
      obtain ⟨k, hk, rfl, hdr, HT⟩ := hrel
      by_cases hlt : k < n
      · obtain ⟨x, b, off, u, hx, rfl, _, h1, rfl⟩ := (HA.out.dr (monoInt _) hdr).at_ hlt
        obtain ⟨y, b', off', u', hy, rfl, _, h2, rfl⟩ := (HB.out.dr (monoInt _) hdr).at_ hlt
        have Hx := Lib.hid hx; clear hx
        have Hy := Lib.hid hy; clear hy
        by_cases he : x = y
        · subst he
          go_wp2
          go_quiet (fail)
          go_wp2
          go_roundw
          case rel => exact ⟨k + 1, by omega, by go_num, hdr.drewN _, by show _ = _; rw [take_succ_of Hx.out, take_succ_of Hy.out, HT.out]⟩
          case measure => simp [intOf]; omega
        · have hb : (x != y) = true := by simpa using he
          have Hne := Lib.hid he; clear he
          go_wp2
          go_quiet (fail)
          go_wp2
          go_ret
          refine ⟨ret_bool (decide_eq_false ?_).symm, hdr.drewN _⟩
          rintro rfl
          exact Hne.out (Option.some.inj (Hx.out.symm.trans Hy.out))
      · go_wp2
        go_ret
        have h3 := HT.out
        rw [take_all HA.out.len (by omega), take_all HB.out.len (by omega)] at h3
        exact ⟨ret_bool (decide_eq_true h3).symm, hdr⟩
  · have hb : ((n : Int) != (m : Int)) = true := by simp; omega
    have Hl := Lib.hid hl; clear hl
    go_enter Try.func14, Try.ntmps14
    go_wp2
    go_ret
    refine ⟨ret_bool (decide_eq_false ?_).symm, Dr.refl _⟩
    rintro rfl
    exact Hl.out (HA.out.len.symm.trans HB.out.len)

set_option maxHeartbeats 400000 in
theorem sameTables_any (A B : Option Addr) (n m c d : Nat) (xs ys : List (List Int)) (w : World) (hA : SlAt (SlR (IntR .i64)) w A n xs) (hB : SlAt (SlR (IntR .i64)) w B m ys) :
    Calls Try.prog 52 #[.slice A n c, .slice B m d] w fun e w' => e = .returned (.bool (decide (xs = ys))) ∧ Dr w w' := by
  have hn := hA.le
  have hm := hB.le
  have HA := Lib.hid hA; clear hA
  have HB := Lib.hid hB; clear hB
  by_cases hl : n = m
  · subst hl
    go_enter Try.func52, Try.ntmps52
    go_wp2
    go_loopw [5] (fun i wr => ∃ k : Nat, k ≤ n ∧ i = .int .i64 k ∧ Dr w wr ∧ Hid (xs.take k = ys.take k)) (fun i _ => n - (intOf i).toNat)
    case atStart => exact ⟨0, Nat.zero_le _, rfl, Dr.refl _, rfl⟩
    case round =>
      obtain ⟨k, hk, rfl, hdr, HT⟩ := hrel
      by_cases hlt : k < n
      · obtain ⟨x, b, off, u, hx, rfl, _, h1, A1, c1, rfl, s1⟩ := (HA.out.dr (monoSl (monoInt _)) hdr).at_ hlt
        obtain ⟨y, b', off', u', hy, rfl, _, h2, B1, d1, rfl, s2⟩ := (HB.out.dr (monoSl (monoInt _)) hdr).at_ hlt
        have Hx := Lib.hid hx; clear hx
        have Hy := Lib.hid hy; clear hy
        have S1 := Lib.hid s1; clear s1
        have S2 := Lib.hid s2; clear s2
        have con : ∀ q, Calls Try.prog 14 #[.slice A1 x.length c1, .slice B1 y.length d1] (wr.drewN q) fun e w' => e = .returned (.bool (decide (x = y))) ∧ Dr (wr.drewN q) w' :=
          fun q => sameInts_any A1 B1 _ _ c1 d1 x y _ S1.out S2.out
        have Hcon := Lib.hid con; clear con
        by_cases he : x = y
        · have hd : decide (x = y) = true := decide_eq_true he
          rw [hd] at Hcon
          have He := Lib.hid he; clear he hd
          go_wp2
          go_quiet ((go_at_call 14; exact quiet_dr (Hcon.out _)))
          go_wp2
          go_roundw
          case rel => exact ⟨k + 1, by omega, by go_num, hdr.drewN _, by show _ = _; rw [take_succ_of Hx.out, take_succ_of Hy.out, HT.out, He.out]⟩
          case measure => simp [intOf]; omega
        · have hd : decide (x = y) = false := decide_eq_false he
          rw [hd] at Hcon
          have Hne := Lib.hid he; clear he hd
          go_wp2
          go_quiet ((go_at_call 14; exact quiet_dr (Hcon.out _)))
          go_wp2
          go_ret
          refine ⟨ret_bool (decide_eq_false ?_).symm, hdr.drewN _⟩
          rintro rfl
          exact Hne.out (Option.some.inj (Hx.out.symm.trans Hy.out))
      · go_wp2
        go_ret
        have h3 := HT.out
        rw [take_all HA.out.len (by omega), take_all HB.out.len (by omega)] at h3
        exact ⟨ret_bool (decide_eq_true h3).symm, hdr⟩
  · have hb : ((n : Int) != (m : Int)) = true := by simp; omega
    have Hl := Lib.hid hl; clear hl
    go_enter Try.func52, Try.ntmps52
    go_wp2
    go_ret
    refine ⟨ret_bool (decide_eq_false ?_).symm, Dr.refl _⟩
    rintro rfl
    exact Hl.out (HA.out.len.symm.trans HB.out.len)

end Go.Proofs.Ytceelipcclfdmaa
