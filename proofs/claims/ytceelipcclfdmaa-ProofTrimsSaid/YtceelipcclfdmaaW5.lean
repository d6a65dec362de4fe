/- Walks: models; whether a number is in a list. -/
import Derived.Test.YtceelipcclfdmaaW4
namespace Go.Proofs.Ytceelipcclfdmaa
open Go.RowKit

theorem ret_tup2 {i j : IntKind} {a b a' b' : Int} (h : a = a') (h' : b = b') : Ending.returned (.tuple #[.int i a, .int j b]) = .returned (.tuple #[.int i a', .int j b']) := by rw [h, h']

theorem validate_zero {n : Int} {xs : List (List Int)} (h : S.validate n xs = 0) : 0 ≤ n ∧ n ≤ 4000 ∧ xs.length ≤ 24000 ∧ xs.all (S.isClause n) = true := by
  unfold S.validate at h
  split at h
  · omega
  · split at h
    · rename_i h1 h2; exact ⟨by omega, by omega, by omega, h2⟩
    · omega
theorem validate_le (n : Int) (xs : List (List Int)) : S.validate n xs = 0 ∨ S.validate n xs = 1 ∨ S.validate n xs = 3 := by
  unfold S.validate
  split
  · simp
  · split <;> simp

theorem clause_at {n : Int} {xs : List (List Int)} {k : Nat} {x : List Int} (h : xs.all (S.isClause n) = true) (hx : xs[k]? = some x) : S.isClause n x = true :=
  List.all_eq_true.1 h x (List.mem_of_getElem? hx)
theorem lit_at {n : Int} {x : List Int} {k : Nat} {l : Int} (h : S.isClause n x = true) (hx : x[k]? = some l) : S.isLit n l = true :=
  List.all_eq_true.1 h l (List.mem_of_getElem? hx)

theorem sat_not_any (model : List Bool) (x : List Int) : S.sat model x = x.any fun y => model.getD (y.natAbs - 1) false == decide (0 < y) := rfl

set_option maxHeartbeats 800000 in
theorem checkModel_any (n : Int) (A B : Option Addr) (m c p d : Nat) (xs : List (List Int)) (model : List Bool) (w : World) (hA : SlAt (SlR (IntR .i64)) w A m xs) (hB : SlAt BoolR w B p model) :
    Calls Try.prog 22 #[.int .i64 n, .slice A m c, .slice B p d] w fun e w' => e = .returned (.tuple #[.int .i64 (S.checkModel n xs model).1, .int .i64 (S.checkModel n xs model).2]) ∧ Below w.heap.size w w' := by
  have hl := hA.le
  have hpl := hB.le
  have HA := Lib.hid hA; clear hA
  have HB := Lib.hid hB; clear hB
  have hW1 : Below w.heap.size w (w.alloc (.cells #[.slice B p d] 42)) := (Below.refl _ _).alloc (Nat.le_refl _) _
  have con := validate_any n A m c xs (w.alloc (.cells #[.slice B p d] 42)) (HA.out.below (monoSl (monoInt _)) hW1)
  have Hcon := Lib.hid con; clear con
  by_cases h0 : S.validate n xs = 0
  case neg =>
    obtain ⟨v, hv⟩ : ∃ v, v = S.validate n xs := ⟨_, rfl⟩
    rw [← hv] at Hcon h0
    have hb : (v != 0) = true := by simpa using h0
    have Hv := Lib.hid hv; clear hv
    go_enter Try.func22, Try.ntmps22
    go_wp2_with fail
    refine Hcon.out.mono ?_
    rintro e w' ⟨rfl, hbw⟩
    go_wp2
    go_ret2
    exact ⟨ret_tup2 (by rw [S.checkModel, if_pos (by rw [← Hv.out]; exact h0)]) (by rw [S.checkModel, if_pos (by rw [← Hv.out]; exact h0)]; exact Hv.out), hW1.trans (hbw.mono (by simp))⟩
  rw [h0] at Hcon
  obtain ⟨hn0, hn4, _, hcl⟩ := validate_zero h0
  have H0 := Lib.hid h0; clear h0
  have Hcl := Lib.hid hcl; clear hcl
  by_cases hpn : (p : Int) = n
  case neg =>
    have hb : ((p : Int) != n) = true := by simpa using hpn
    have Hpn := Lib.hid hpn; clear hpn
    go_enter Try.func22, Try.ntmps22
    go_wp2_with fail
    refine Hcon.out.mono ?_
    rintro e w' ⟨rfl, hbw⟩
    have hcell : w'.cell? ⟨w.heap.size, 0, none⟩ = some (.slice B p d) := (hbw.cell (p := ⟨w.heap.size, 0, none⟩) (by simp)).trans (cell_alloc_box w _ _)
    go_wp2
    go_ret2
    have e1 : S.checkModel n xs model = (0, 1) := by rw [S.checkModel, if_neg (by rw [H0.out]; simp), if_pos (by rw [HB.out.len]; exact Hpn.out)]
    exact ⟨ret_tup2 (by rw [e1]) (by rw [e1]), hW1.trans (hbw.mono (by simp))⟩
  subst hpn
  go_enter Try.func22, Try.ntmps22
  go_wp2_with fail
  refine Hcon.out.mono ?_
  rintro e w1 ⟨rfl, hbw⟩
  have hcell : w1.cell? ⟨w.heap.size, 0, none⟩ = some (.slice B p d) := (hbw.cell (p := ⟨w.heap.size, 0, none⟩) (by simp)).trans (cell_alloc_box w _ _)
  have hB1 : Below w.heap.size w w1 := hW1.trans (hbw.mono (by simp))
  have hsz : w.heap.size + 1 ≤ w1.heap.size := by have := hbw.size; simpa using this
  go_wp2
  go_loopw [23] (fun i wr => ∃ k : Nat, k ≤ m ∧ i = .int .i64 k ∧ Dr w1 wr ∧ Hid ((xs.take k).all (S.sat model) = true)) (fun i _ => m - (intOf i).toNat)
  case atStart => exact ⟨0, Nat.zero_le _, rfl, Dr.refl _, rfl⟩
  case round =>
    obtain ⟨k, hk, rfl, hdr, HT⟩ := hrel
    have hbr := hB1.dr hdr
    by_cases hlt : k < m
    · obtain ⟨x, b, off, u, hx, rfl, _, hcl1, A1, c1, rfl, s1⟩ := (HA.out.below (monoSl (monoInt _)) hbr).at_ hlt
      have hclx := clause_at Hcl.out hx
      have con := hasM_any (fun y => model.getD (y.natAbs - 1) false == decide (0 < y)) w.heap.size A1 x.length c1 x wr s1 (fun y hy W hW =>
        cloM_any model p y w.heap.size B p d W (HB.out.below monoBool (hbr.dr hW)) hn4 rfl (List.all_eq_true.1 hclx y hy) (by
          rw [((hdr.trans hW).below w1.heap.size).cell (p := ⟨w.heap.size, 0, none⟩) (by show w.heap.size < _; omega)]; exact hcell))
      rw [← sat_not_any] at con
      clear s1 hclx
      have Hx := Lib.hid hx; clear hx
      cases hp : S.sat model x
      · rw [hp] at con
        have Hcon := Lib.hid con; clear con
        have Hp := Lib.hid hp; clear hp
        clear hcell
        go_wp2_with fail
        refine Hcon.out.mono ?_
        rintro e w' ⟨rfl, hd⟩
        go_wp2
        go_ret2
        have e1 : S.checkModel p xs model = ((k : Int), 8) := by
          rw [S.checkModel, if_neg (by rw [H0.out]; simp), if_neg (by rw [HB.out.len]; simp), S.firstBad_at HT.out Hx.out Hp.out]
        exact ⟨ret_tup2 (by rw [e1]) (by rw [e1]), hbr.dr hd⟩
      · rw [hp] at con
        have Hcon := Lib.hid con; clear con
        have Hp := Lib.hid hp; clear hp
        clear hcell
        go_wp2_with fail
        refine Hcon.out.mono ?_
        rintro e w' ⟨rfl, hd⟩
        go_wp2
        go_roundw
        case rel => exact ⟨k + 1, by omega, by go_num, hdr.trans hd, all_take_step Hx.out HT.out Hp.out⟩
        case measure => simp [intOf]; omega
    · go_wp2
      go_ret2
      have e1 : S.checkModel p xs model = (0, 0) := by
        rw [S.checkModel, if_neg (by rw [H0.out]; simp), if_neg (by rw [HB.out.len]; simp), S.firstBad_all (all_take_all HA.out.len (by omega) HT.out)]
      exact ⟨ret_tup2 (by rw [e1]) (by rw [e1]), hbr⟩

set_option maxHeartbeats 400000 in
theorem refHas_any (A : Option Addr) (m c : Nat) (xs : List Int) (x : Int) (w : World) (hA : SlAt (IntR .i64) w A m xs) :
    Calls Try.prog 45 #[.slice A m c, .int .i64 x] w fun e w' => e = .returned (.bool (decide (x ∈ xs))) ∧ w = w' := by
  have hl := hA.le
  have HA := Lib.hid hA; clear hA
  go_enter Try.func45, Try.ntmps45
  go_wp2
  go_loop [5] (fun i => ∃ k : Nat, k ≤ m ∧ i = .int .i64 k ∧ Hid (x ∉ xs.take k)) (fun i => m - (intOf i).toNat)
  case atStart => exact ⟨0, Nat.zero_le _, rfl, by show _ ∉ _; simp⟩
  case round =>
    obtain ⟨k, hk, rfl, HT⟩ := hrel
    by_cases hlt : k < m
    · obtain ⟨y, b, off, u, hx, rfl, _, h1, rfl⟩ := HA.out.at_ hlt
      have Hx := Lib.hid hx; clear hx
      by_cases he : y = x
      · subst he
        go_wp2
        go_ret
        exact ⟨ret_bool (decide_eq_true (List.mem_of_getElem? Hx.out)).symm, rfl⟩
      · have hb : (y == x) = false := by simpa using he
        have He := Lib.hid he; clear he
        go_wp2
        go_round
        case rel => exact ⟨k + 1, by omega, by go_num, by show _ ∉ _; rw [take_succ_of Hx.out, List.mem_append]; rintro (h | h); exact HT.out h; exact He.out (List.mem_singleton.1 h).symm⟩
        case measure => simp [intOf]; omega
    · go_wp2
      go_ret
      have h3 := HT.out
      rw [take_all HA.out.len (by omega)] at h3
      exact ⟨ret_bool (decide_eq_false h3).symm, rfl⟩
end Go.Proofs.Ytceelipcclfdmaa
