/- Walks of the program's layer of rows: inputs, the product of 1, repetitions. -/
import Derived.Test.YtableoihgkmbjaaQ2
import Derived.StillTailTactics
namespace Go.Proofs.Ytableoihgkmbjaa
open Go.RowKit
set_option linter.unusedVariables false

theorem and_small : ∀ a : Fin 64, bits .and .i64 (a.val : Int) 1 = ((a.val % 2 : Nat) : Int) ∧ bits .and .i64 (a.val : Int) 3 = ((a.val % 4 : Nat) : Int) ∧ bits .and .i64 (a.val : Int) 7 = ((a.val % 8 : Nat) : Int) := by decide
theorem and_s {a : Nat} (h : a < 64) : bits .and .i64 (a : Int) 1 = ((a % 2 : Nat) : Int) ∧ bits .and .i64 (a : Int) 3 = ((a % 4 : Nat) : Int) ∧ bits .and .i64 (a : Int) 7 = ((a % 8 : Nat) : Int) := and_small ⟨a, h⟩

set_option maxHeartbeats 1000000 in
theorem pinput_any (k w i a : Nat) (hk : k = 1 ∨ k = 2) (hw : w = 1 ∨ w = 2 ∨ w = 3) (hi : i < k) (ha : a < K.size k w) (W : World) :
    Calls Try.prog 49 #[.agg #[.int .i64 k, .int .i64 w], .int .i64 i, .int .i64 a] W fun e w' => e = .returned (.int .u32 ((K.inp k w a).getD i 0)) ∧ Below W.heap.size W w' := by
  have h64 : a < 64 := by have := (size_facts hk hw).2.2.2; omega
  obtain ⟨a1, a2, a3⟩ := and_s h64
  have HB := Lib.hid (show Below W.heap.size W (W.alloc (.cells #[.int .i64 k, .int .i64 w] 44)) from (Below.refl _ _).alloc (Nat.le_refl _) _)
  have h9 : (a : Int) < 64 := by omega
  rcases kw_cases hk hw with ⟨rfl, rfl⟩ | ⟨rfl, rfl⟩ | ⟨rfl, rfl⟩ | ⟨rfl, rfl⟩ | ⟨rfl, rfl⟩ | ⟨rfl, rfl⟩
  all_goals
    have hsz : a < 2 ^ _ := ha
    simp only [Nat.reduceMul, Nat.reducePow] at hsz
    clear hk hw ha
  · obtain rfl : i = 0 := by omega
    go_enter Try.func49, Try.ntmps49
    go_wp2
    go_ret
    refine ⟨ret_int ?_, HB.out⟩; simp [K.inp]; omega
  · obtain rfl : i = 0 := by omega
    go_enter Try.func49, Try.ntmps49
    go_wp2
    go_ret
    refine ⟨ret_int ?_, HB.out⟩; simp [K.inp]; omega
  · obtain rfl : i = 0 := by omega
    go_enter Try.func49, Try.ntmps49
    go_wp2
    go_ret
    refine ⟨ret_int ?_, HB.out⟩; simp [K.inp]; omega
  · obtain rfl | rfl : i = 0 ∨ i = 1 := by omega
    all_goals
      go_enter Try.func49, Try.ntmps49
      go_wp2
      go_ret
      refine ⟨ret_int ?_, HB.out⟩; simp [K.inp]
  · obtain rfl | rfl : i = 0 ∨ i = 1 := by omega
    all_goals
      go_enter Try.func49, Try.ntmps49
      go_wp2
      go_ret
      refine ⟨ret_int ?_, HB.out⟩; simp [K.inp]
  · obtain rfl | rfl : i = 0 ∨ i = 1 := by omega
    all_goals
      go_enter Try.func49, Try.ntmps49
      go_wp2
      go_ret
      refine ⟨ret_int ?_, HB.out⟩; simp [K.inp]

theorem pmul_1 (J : Nat) (hJ : J = 1 ∨ J = 2 ∨ J = 3 ∨ J = 4 ∨ J = 6) (W : World) :
    Calls Try.prog 59 #[.int .u64 1, .int .u64 (2 ^ J : Nat)] W fun e w' => e = .returned (.tuple #[.int .u64 0, .int .u64 (2 ^ J : Nat)]) ∧ W = w' := by
  rcases hJ with rfl | rfl | rfl | rfl | rfl
  all_goals
    go_enter Try.func59, Try.ntmps59
    go_wp2
    go_ret2
    exact ⟨rfl, rfl⟩

theorem splice_twice (x : Value) (z : Value) (n c : Nat) (h : n + n ≤ c) : splice (List.replicate n x ++ List.replicate (c - n) z) n (List.replicate n x) = List.replicate (n + n) x ++ List.replicate (c - (n + n)) z := by
  unfold splice
  rw [List.take_append_of_le_length (by simp), List.take_of_length_le (by simp), List.length_replicate, List.drop_append, List.drop_of_length_le (by simp), List.length_replicate, List.nil_append, List.drop_replicate, ← List.append_assoc, List.replicate_append_replicate]
  congr 2
  omega

theorem src_rep {w : World} {g : Nat} {x z : Value} {n c : Nat} {T : TypeId} (hg : w.heap[g]? = some (.cells (List.replicate n x ++ List.replicate (c - n) z).toArray T (0, 0))) :
    ∀ (j : Nat) (v : Value), (List.replicate n x)[j]? = some v → w.cell? ((⟨g, 0, none⟩ : Addr).add j) = some v := by
  intro j v hv
  rw [addr_add_zero, cell_of_row w g _ _ T (0, 0) hg]
  show (List.replicate n x ++ List.replicate (c - n) z).toArray[0 + j]? = some v
  rw [Nat.zero_add, List.getElem?_toArray, List.getElem?_append_left (List.getElem?_eq_some_iff.1 hv).1]
  exact hv

theorem sizeU32 : (Try.prog.info? 40).map (·.size) = some 1 := by kernel_rfl

theorem first_src {W w : World} {g : Nat} {x : Value} {T : TypeId} (hb : Below W.heap.size W w) (hg : W.heap[g]? = some (.cells #[x] T (0, 0))) :
    ∀ (j : Nat) (v : Value), [x][j]? = some v → w.cell? ((⟨g, 0, none⟩ : Addr).add j) = some v := by
  intro j v hv
  have hlt : g < W.heap.size := (Array.getElem?_eq_some_iff.1 hg).1
  rw [addr_add_zero, hb.cell (p := ⟨g, 0 + j, none⟩) hlt, cell_of_row W g _ _ T (0, 0) hg]
  rw [Nat.zero_add]
  simpa using hv
def repC (x : Int) (n c : Nat) : List Value := List.replicate n (.int .u32 x) ++ List.replicate (c - n) (.int .u32 0)
theorem repC_len {x : Int} {n c : Nat} (h : n ≤ c) : (repC x n c).length = c := by simp [repC]; omega
theorem one_rep {x : Int} {n : Nat} : ∀ u ∈ List.replicate n (Value.int .u32 x), u.oneCell' = true := fun u hu => by rw [List.eq_of_mem_replicate hu]; rfl
theorem rep_n {x : Int} {n c : Nat} (h : n + n ≤ c) : (List.replicate n (Value.int .u32 x)).length = Nat.min n (c - n) := by
  rw [List.length_replicate]; exact (Nat.min_eq_left (by omega)).symm
theorem rep_fit {x : Int} {n c : Nat} (h : n + n ≤ c) : n + (List.replicate n (Value.int .u32 x)).length ≤ (repC x n c).length := by
  rw [List.length_replicate, repC_len (by omega)]; exact h
theorem first_n {c : Nat} (h : 2 ≤ c) {x : Value} : [x].length = Nat.min 1 c := (Nat.min_eq_left (Nat.le_of_succ_le h)).symm
theorem one_int1 {q : IntKind} (x : Int) : ∀ u ∈ [Value.int q x], u.oneCell' = true := by simp [Value.oneCell']
theorem first_fit {c : Nat} (h : 2 ≤ c) {x z : Value} : 0 + [x].length ≤ (List.replicate c z).length := by simp; omega
theorem splice_first {c : Nat} (h : 2 ≤ c) {x z : Value} : splice (List.replicate c z) 0 [x] = List.replicate 1 x ++ List.replicate (c - 1) z := by
  simp [splice]
theorem pow_step {c J n : Nat} (hc : c = 2 ^ J) (h : ∃ j, n = 2 ^ j ∧ j ≤ J) (hlt : n < c) : n + n ≤ c ∧ 1 ≤ n := by
  obtain ⟨j, rfl, hj⟩ := h
  subst hc
  have hjJ : j < J := (Nat.pow_lt_pow_iff_right (by decide)).1 hlt
  have := Nat.pow_le_pow_right (n := 2) (by decide) hjJ
  rw [Nat.pow_succ] at this
  exact ⟨by omega, Nat.pos_of_ne_zero (by simp)⟩
theorem pow_next {c J n : Nat} (hc : c = 2 ^ J) (h : ∃ j, n = 2 ^ j ∧ j ≤ J) (hlt : n < c) : ∃ j, n + n = 2 ^ j ∧ j ≤ J := by
  obtain ⟨j, rfl, hj⟩ := h
  subst hc
  have hjJ : j < J := (Nat.pow_lt_pow_iff_right (by decide)).1 hlt
  exact ⟨j + 1, by rw [Nat.pow_succ]; omega, hjJ⟩

theorem copy_twice {P : Program} {T E : TypeId} {W w : World} (x : Int) {n c : Nat} {t : TypeId} (hu : P.underlying T = some (.slice E)) (hsz : (P.info? E).map (·.size) = some 1) (h : n + n ≤ c) {g : Nat}
    (hg : w.heap[g]? = some (.cells (repC x n c).toArray t (0, 0))) {B : Nat} (hb : Below B W w) (hBg : B ≤ g) (o : TypeId) :
    ∃ w', (Builtin.copy_ #[T, T] o #[.slice (some ⟨g, n, none⟩) (c - n) (c - n), .slice (some ⟨g, 0, none⟩) n c]).run P w = .ok (.int .i64 (n : Int)) w' ∧ Hid (w'.heap[g]? = some (.cells (repC x (n + n) c).toArray t (0, 0))) ∧ Hid (Below B W w') := by
  have hrun := run_copy_row (P := P) w T T o E g n (c - n) (c - n) ⟨g, 0, none⟩ n c (repC x n c).toArray t (List.replicate n (.int .u32 x)) hu hsz hg (rep_n h) (src_rep hg) (by simpa using rep_fit (x := x) h) one_rep
  rw [List.length_replicate] at hrun
  refine ⟨_, hrun, ?_, below_setRow hb hBg _⟩
  have := setRow_heap w g (repC x n c).toArray (splice (repC x n c) n (List.replicate n (.int .u32 x))).toArray t (0, 0) hg
  rw [show repC x (n + n) c = splice (repC x n c) n (List.replicate n (.int .u32 x)) from (splice_twice _ _ _ _ h).symm]
  refine Lib.hid ?_
  simpa [splice] using this
set_option maxRecDepth 100000 in
set_option maxHeartbeats 800000 in
theorem prepeat_any (x : Int) (J : Nat) (hJ : J = 1 ∨ J = 2 ∨ J = 3 ∨ J = 4 ∨ J = 6) (g : Nat) (W : World) (hg : W.heap[g]? = some (.cells #[.int .u32 x] 40 (0, 0))) :
    Calls Try.prog 50 #[.slice (some ⟨g, 0, none⟩) 1 1, .int .i64 (2 ^ J : Nat)] W fun e w' =>
      e = .returned (.slice (some ⟨W.heap.size, 0, none⟩) (2 ^ J) (2 ^ J)) ∧ w'.heap[W.heap.size]? = some (.cells (List.replicate (2 ^ J) (.int .u32 x)).toArray 40 (0, 0)) ∧ Below W.heap.size W w' := by
  have Hmul := Lib.hid (pmul_1 J hJ)
  have hc64 : 2 ^ J ≤ 64 := by rcases hJ with rfl | rfl | rfl | rfl | rfl <;> decide
  have hc2 : 2 ≤ 2 ^ J := by rcases hJ with rfl | rfl | rfl | rfl | rfl <;> decide
  have hc6 : J ≤ 6 := by omega
  clear hJ
  obtain ⟨c, hc⟩ : ∃ c, c = 2 ^ J := ⟨_, rfl⟩
  rw [← hc] at Hmul hc64 hc2 ⊢
  have Hc := Lib.hid hc; clear hc
  have hci : (c : Int) ≤ 64 := by omega
  have hci2 : 2 ≤ (c : Int) := by omega
  have Hg := Lib.hid hg; clear hg
  have HB0 := Lib.hid (show Below W.heap.size W (W.alloc (.cells (Array.replicate c (.int .u32 0)) 40)) from (Below.refl _ _).alloc (Nat.le_refl _) _)
  have hmk := fun (W' : World) => run_make_n (P := Try.prog) 24 40 (.int .u32 0) 4 Try.underlying24 infoU32 rfl .i64 .i64 c (c : Int) rfl (by omega) (by omega) W'
  go_enter Try.func50, Try.ntmps50
  go_wp2_with fail
  (with_reducible refine (Hmul.out _).mono ?_)
  rintro e w1 ⟨rfl, rfl⟩
  go_wp2_with (with_reducible refine wpList_copy_splice rfl (.tmp 31) (.tmp 32) 24 24 rfl 40 Try.underlying24 sizeU32 _ _ _ _ _ _ rfl rfl W.heap.size 0 (List.replicate c (.int .u32 0)) 40 (heap_alloc_new W _) [.int .u32 x] (first_n hc2) (fun _ => ⟨rfl, ⟨g, 0, none⟩, rfl, first_src HB0.out Hg.out⟩) (first_fit hc2) (one_int1 x) W.heap.size W HB0.out (Nat.le_refl _) ?_; intro w2 HG2 hb2)
  rw [splice_first hc2] at HG2
  have Hb2 := Lib.hid hb2; clear hb2
  go_loopw [8] (fun i wr => ∃ n : Nat, n ≤ c ∧ i = .int .i64 n ∧ Hid ((∃ j, n = 2 ^ j ∧ j ≤ J) ∧ wr.heap[W.heap.size]? = some (.cells (repC x n c).toArray 40 (0, 0)) ∧ Below W.heap.size W wr)) (fun i _ => c - (intOf i).toNat)
  case atStart => exact ⟨1, by omega, by go_num, ⟨0, rfl, Nat.zero_le _⟩, HG2.out, Hb2.out⟩
  case round =>
    obtain ⟨n, hn, rfl, HI⟩ := hrel
    by_cases hlt : n < c
    · have h2 : n + n ≤ c ∧ 1 ≤ n := pow_step Hc.out HI.out.1 hlt
      have HI2 := Lib.hid HI.out.2.1
      have HB3 := Lib.hid HI.out.2.2
      have HJ2 := Lib.hid (pow_next Hc.out HI.out.1 hlt)
      clear HI
      have hs1 : ∀ W', (Instr.slice 24 (.slice (some ⟨W.heap.size, 0, none⟩) c c) (some (.int .i64 (n : Int))) none none).run Try.prog W' = .ok (.slice (some ⟨W.heap.size, n, none⟩) (c - n) (c - n)) W' := fun W' => by
        have := run_slice_fromN (P := Try.prog) Try.underlying24 infoU32 W.heap.size 0 c c n (by omega) W'
        rw [if_neg (by omega : ¬ c = n), Nat.zero_add, Nat.mul_one] at this
        exact this
      have hs2 : ∀ W', (Instr.slice 24 (.slice (some ⟨W.heap.size, 0, none⟩) c c) none (some (.int .i64 (n : Int))) none).run Try.prog W' = .ok (.slice (some ⟨W.heap.size, 0, none⟩) n c) W' := fun W' =>
        run_slice_to (P := Try.prog) Try.underlying24 infoU32 W.heap.size 0 c c n (by omega) W'
      go_wp2_with fail
      have Hb4 := Lib.hid (show Below W.heap.size W wr.drew from HB3.out.trans ((Below.refl _ _).drew))
      have Hg4 := Lib.hid (show wr.drew.heap[W.heap.size]? = some (.cells (repC x n c).toArray 40 (0, 0)) from HI2.out)
      obtain ⟨w5, hcp, HG5, Hb5⟩ := copy_twice x Try.underlying24 sizeU32 h2.1 Hg4.out Hb4.out (Nat.le_refl _) 3
      go_region
      go_wp2
      go_roundw
      case rel => exact ⟨n + n, h2.1, by go_num, HJ2.out, HG5.out, Hb5.out⟩
      case measure => simp [intOf]; omega
    · have hnc : n = c := by omega
      subst hnc
      go_wp2
      go_ret
      refine ⟨rfl, ?_, HI.out.2.2⟩
      have := HI.out.2.1
      rwa [repC, Nat.sub_self, List.replicate_zero, List.append_nil] at this
end Go.Proofs.Ytableoihgkmbjaa
