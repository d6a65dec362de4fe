/- Merged: RT2, RT3, RT4, RPlainT2, RT5, RT6, RT9. -/
import Derived.Test.YtbiopedpceddeaaGreatDoorL04
import Derived.Test.YtbiopedpceddeaaGreatDoorL03
import Derived.BigGuardPart
set_option linter.unusedVariables false
set_option linter.unusedSimpArgs false
section
namespace Go.Proofs.YtbiopedpceddeaaGreatDoor
open Go.RowKit
set_option linter.unusedVariables false
set_option linter.unusedSimpArgs false

/-- a function value answers p x at x, and turns nothing -/
def Answers (f : FuncId) (caps : Array Value) (p : Int → Bool) (w : World) : Prop := (∀ args W', (callFunc f args).run Tryz.prog W' = .ok (.enter f args) W') ∧ ∀ x, Calls Tryz.prog f (#[.int .i64 x] ++ caps) w fun e w' => e = .returned (.bool (p x)) ∧ w = w'

set_option maxHeartbeats 400000 in
theorem idxF_any (f : FuncId) (caps : Array Value) (p : Int → Bool) (A : Option Addr) (m c : Nat) (xs : List Int) (w : World) (hA : SlAt (IntR .i64) w A m xs) (hf : Answers f caps p w) :
    Calls Tryz.prog 245 #[.slice A m c, .func (.func f) #[] caps] w fun e w' => ∃ r : Int, e = .returned (.int .i64 r) ∧ decide (0 ≤ r) = xs.any p ∧ -1 ≤ r ∧ w = w' := by
  have hl := hA.le
  have HA := Lib.hid hA; clear hA
  have HP := Lib.hid hf.2
  have hen := hf.1
  clear hf
  go_enter Tryz.func245, Tryz.ntmps245
  go_wp2
  go_loop [8] (fun i => ∃ k : Nat, k ≤ m ∧ i = .int .i64 k ∧ Hid ((xs.take k).any p = false)) (fun i => m - (intOf i).toNat)
  case atStart => exact ⟨0, Nat.zero_le _, rfl, rfl⟩
  case round =>
    obtain ⟨k, hk, rfl, HT⟩ := hrel
    by_cases hlt : k < m
    · obtain ⟨x, b, off, u, hx, rfl, _, h1, rfl⟩ := HA.out.at_ hlt
      have con := HP.out x
      have Hx := Lib.hid hx; clear hx
      cases hpx : p x
      · rw [hpx] at con
        have Hcon := Lib.hid con; clear con
        have Hpx := Lib.hid hpx; clear hpx
        go_wp2_with fail
        (with_reducible refine Hcon.out.mono ?_)
        rintro e w' ⟨rfl, rfl⟩
        go_wp2
        go_round
        case rel => exact ⟨k + 1, by omega, by go_num, any_take_step Hx.out HT.out Hpx.out⟩
        case measure => simp [intOf]; omega
      · rw [hpx] at con
        have Hcon := Lib.hid con; clear con
        have Hpx := Lib.hid hpx; clear hpx
        go_wp2_with fail
        (with_reducible refine Hcon.out.mono ?_)
        rintro e w' ⟨rfl, rfl⟩
        go_wp2
        go_ret
        exact ⟨_, rfl, by rw [any_true_at Hx.out Hpx.out]; simp, by omega, rfl⟩
    · go_wp2
      go_ret
      have h3 := HT.out
      rw [take_all HA.out.len (by omega)] at h3
      exact ⟨_, rfl, by rw [h3]; rfl, by omega, rfl⟩

set_option maxHeartbeats 400000 in
theorem hasF_any (f : FuncId) (caps : Array Value) (p : Int → Bool) (A : Option Addr) (m c : Nat) (xs : List Int) (w : World) (hA : SlAt (IntR .i64) w A m xs) (hf : Answers f caps p w) :
    Calls Tryz.prog 194 #[.slice A m c, .func (.func f) #[] caps] w fun e w' => e = .returned (.bool (xs.any p)) ∧ w = w' := by
  have Hcon := Lib.hid (idxF_any f caps p A m c xs w hA hf); clear hA hf
  go_enter Tryz.func194, Tryz.ntmps194
  go_wp2_with fail
  (with_reducible refine Hcon.out.mono ?_)
  rintro e w' ⟨r, rfl, hr, hr1, rfl⟩
  have Hr := Lib.hid hr; clear hr
  go_wp2
  go_ret
  exact ⟨ret_bool (by rw [← Hr.out]), rfl⟩

end Go.Proofs.YtbiopedpceddeaaGreatDoor
end
section
namespace Go.Proofs.YtbiopedpceddeaaGreatDoor
open Go.RowKit
set_option linter.unusedVariables false
set_option linter.unusedSimpArgs false

theorem argsOk_any (k : Nat) (l : List Int) : T.argsOk k l = !(l.any fun a => !(decide (0 ≤ a) && decide (a < k))) := by
  unfold T.argsOk
  rw [List.not_any_eq_all_not]
  congr 1
  funext a
  simp

end Go.Proofs.YtbiopedpceddeaaGreatDoor
end
section
namespace Go.Proofs.YtbiopedpceddeaaGreatDoor
open Go.RowKit
set_option linter.unusedVariables false
set_option linter.unusedSimpArgs false

/-- the cells of a node in a list of nodes -/
theorem nd_cells {W : World} {At : Option Addr} {n : Nat} {t : List T.Nd} (h : StAt 5 NdR W At n t) {j : Nat} (hj : j < n) : ∃ x b off A c, t[j]? = some x ∧ At = some ⟨b, off, none⟩ ∧ b < W.heap.size ∧
    W.cell? ⟨b, off + j * 5, none⟩ = some (.int .i64 x.op) ∧ W.cell? ⟨b, off + j * 5 + 1, none⟩ = some (.int .i64 x.w) ∧ W.cell? ⟨b, off + j * 5 + 2, none⟩ = some (.int .i64 x.fl) ∧ W.cell? ⟨b, off + j * 5 + 3, none⟩ = some (.slice A x.args.length c) ∧ W.cell? ⟨b, off + j * 5 + 4, none⟩ = some (.int .u32 x.imm) ∧
    SlAt (IntR .i64) W A x.args.length x.args ∧ 0 ≤ x.imm ∧ x.imm < 4294967296 := by
  obtain ⟨x, b, off, us, hx, hA, hb, _, hc, A, c, rfl, hs, h1, h2⟩ := h.at_ hj
  refine ⟨x, b, off, A, c, hx, hA, hb, ?_, ?_, ?_, ?_, ?_, hs, h1, h2⟩
  · have := hc 0 _ rfl; rwa [Nat.add_zero] at this
  · exact hc 1 _ rfl
  · exact hc 2 _ rfl
  · exact hc 3 _ rfl
  · exact hc 4 _ rfl

theorem getD_of {α : Type} {l : List α} {j : Nat} {x d : α} (h : l[j]? = some x) : l.getD j d = x := by rw [List.getD_eq_getElem?_getD, h]; rfl

theorem typed_cases (op : Int) : (1 ≤ op ∧ op ≤ 13) ∨ op = 14 ∨ op = 15 ∨ op = 16 ∨ op = 17 ∨ op = 18 ∨ (¬ (1 ≤ op ∧ op ≤ 13) ∧ op ≠ 14 ∧ op ≠ 15 ∧ op ≠ 16 ∧ op ≠ 17 ∧ op ≠ 18) := by omega
/-- what typed says where an operation is known -/
theorem typed_13 {t : List T.Nd} {x : T.Nd} (h : 1 ≤ x.op ∧ x.op ≤ 13) : T.typed t x = (decide (T.wd t x 0 = x.w) && decide (T.wd t x 1 = x.w)) := by unfold T.typed; rw [if_pos h]
theorem typed_14 {t : List T.Nd} {x : T.Nd} (h : x.op = 14) : T.typed t x = decide (T.wd t x 0 = T.wd t x 1) := by unfold T.typed; rw [if_neg (by omega), if_pos h]
theorem typed_15 {t : List T.Nd} {x : T.Nd} (h : x.op = 15) : T.typed t x = (decide (T.wd t x 0 = 1) && decide (T.wd t x 1 = x.w) && decide (T.wd t x 2 = x.w)) := by unfold T.typed; rw [if_neg (by omega), if_neg (by omega), if_pos h]
theorem typed_16 {t : List T.Nd} {x : T.Nd} (h : x.op = 16 ∨ x.op = 17) : T.typed t x = decide (T.wd t x 0 < x.w) := by unfold T.typed; rw [if_neg (by omega), if_neg (by omega), if_neg (by omega), if_pos h]
theorem typed_18 {t : List T.Nd} {x : T.Nd} (h : x.op = 18) : T.typed t x = decide (x.w < T.wd t x 0) := by unfold T.typed; rw [if_neg (by omega), if_neg (by omega), if_neg (by omega), if_neg (by omega), if_pos h]
theorem typed_else {t : List T.Nd} {x : T.Nd} (h : ¬ (1 ≤ x.op ∧ x.op ≤ 13) ∧ x.op ≠ 14 ∧ x.op ≠ 15 ∧ x.op ≠ 16 ∧ x.op ≠ 17 ∧ x.op ≠ 18) : T.typed t x = true := by
  unfold T.typed; rw [if_neg h.1, if_neg h.2.1, if_neg h.2.2.1, if_neg (by omega), if_neg h.2.2.2.2.2]

end Go.Proofs.YtbiopedpceddeaaGreatDoor
end
section
namespace Go.Proofs.YtbiopedpceddeaaGreatDoor.T
set_option linter.unusedVariables false
set_option linter.unusedSimpArgs false
/-- what is asked of the nodes where their variables are gone through -/
def okVars (t : List Nd) : Prop := ∀ y ∈ t, 0 ≤ y.imm ∧ (y.op = 33 → y.imm < 4 ∧ 1 ≤ y.w)
theorem okVars.take {t : List Nd} (h : okVars t) (j : Nat) : okVars (t.take j) := fun y hy => h y (List.mem_of_mem_take hy)
theorem widths_mem {t : List Nd} {v : Nat} {z : Int} : (widths t)[v]? = some z → z ≠ 0 → ∃ (i : Nat) (y : Nd), t[i]? = some y ∧ y.op = 33 ∧ y.imm.toNat = v ∧ y.w = z := by
  refine snocInd (P := fun t => (widths t)[v]? = some z → z ≠ 0 → ∃ (i : Nat) (y : Nd), t[i]? = some y ∧ y.op = 33 ∧ y.imm.toNat = v ∧ y.w = z) (fun h hz => ?_) (fun t x ih h hz => ?_) t
  · exfalso
    have hv : v < 4 := (List.getElem?_eq_some_iff.1 h).1
    have : v = 0 ∨ v = 1 ∨ v = 2 ∨ v = 3 := by omega
    rcases this with rfl | rfl | rfl | rfl <;> exact hz (Option.some.inj h).symm
  · have go : (widths t)[v]? = some z → ∃ (i : Nat) (y : Nd), (t ++ [x])[i]? = some y ∧ y.op = 33 ∧ y.imm.toNat = v ∧ y.w = z := fun h' => by
      obtain ⟨i, y, h1, h2⟩ := ih h' hz
      exact ⟨i, y, by rw [List.getElem?_append_left (List.getElem?_eq_some_iff.1 h1).1]; exact h1, h2⟩
    rw [widths_snoc] at h
    split at h
    · rename_i hx
      by_cases he : x.imm.toNat = v
      · have hl := widths_len t
        have hv : v < 4 := by have := (List.getElem?_eq_some_iff.1 h).1; rw [List.length_set] at this; omega
        rw [he, List.getElem?_set_self (by omega)] at h
        exact ⟨t.length, x, by simp, hx, he, Option.some.inj h⟩
      · rw [List.getElem?_set_ne he] at h; exact go h
    · exact go h
theorem clash_other {t : List Nd} {x : Nd} (h : clashes t = false) (hx : x.op ≠ 33) : clashes (t ++ [x]) = false := by
  rw [clashes_iff] at h ⊢
  intro i j a b hij ha hb
  by_cases hj : j < t.length
  · rw [List.getElem?_append_left hj] at hb
    rw [List.getElem?_append_left (by omega)] at ha
    exact h i j a b hij ha hb
  · have : j = t.length := by have := (List.getElem?_eq_some_iff.1 hb).1; simp at this; omega
    subst this
    simp at hb
    subst hb
    unfold clash
    simp [hx]
theorem clash_good {t : List Nd} {x : Nd} (h : clashes t = false) (ht : okVars t) (hx : x.op = 33) (h0 : 0 ≤ x.imm) {v : Int} (hv : (widths t)[x.imm.toNat]? = some v) (hg : v = 0 ∨ v = x.w) : clashes (t ++ [x]) = false := by
  have h' := h
  rw [clashes_iff] at h ⊢
  intro i j a b hij ha hb
  by_cases hj : j < t.length
  · rw [List.getElem?_append_left hj] at hb
    rw [List.getElem?_append_left (by omega)] at ha
    exact h i j a b hij ha hb
  · have : j = t.length := by have := (List.getElem?_eq_some_iff.1 hb).1; simp at this; omega
    subst this
    simp at hb
    subst hb
    rw [List.getElem?_append_left hij] at ha
    unfold clash
    by_cases ho : a.op = 33
    · by_cases he : a.imm = x.imm
      · have hm := ht a (List.mem_of_getElem? ha)
        have := widths_at h' (fun y hy => (ht y hy).1) ha ho (hm.2 ho).1
        rw [he, hv] at this
        have hw := Option.some.inj this
        have := (hm.2 ho).2
        have : a.w = x.w := by omega
        simp [this]
      · simp [he]
    · simp [ho]
theorem clash_bad {t : List Nd} {x : Nd} (ht : okVars t) (hx : x.op = 33) (h0 : 0 ≤ x.imm) {v : Int} (hv : (widths t)[x.imm.toNat]? = some v) (h1 : v ≠ 0) (h2 : v ≠ x.w) : clashes (t ++ [x]) = true := by
  cases e : clashes (t ++ [x])
  · exfalso
    obtain ⟨i, y, hy, ho, hi, hw⟩ := widths_mem hv h1
    have hlt := (List.getElem?_eq_some_iff.1 hy).1
    have := clashes_iff.1 e i t.length y x hlt (by rw [List.getElem?_append_left hlt]; exact hy) (by simp)
    have hy0 := (ht y (List.mem_of_getElem? hy)).1
    have he : y.imm = x.imm := by omega
    unfold clash at this
    simp [ho, hx, he, hw] at this
    exact h2 this
  · rfl
theorem clashes_take {t : List Nd} {j : Nat} (h : clashes (t.take j) = true) : clashes t = true := by
  cases e : clashes t
  · exfalso
    have : clashes (t.take j) = false := clashes_iff.2 fun i k a b hik ha hb => by
      rw [List.getElem?_take] at ha hb
      split at ha
      · split at hb
        · exact clashes_iff.1 e i k a b hik ha hb
        · cases hb
      · cases ha
    rw [h] at this
    cases this
  · rfl
/-- the nodes of a term of right shapes -/
theorem okVars_of {z : Bool} {t : List Nd} (h : ∀ i x, t[i]? = some x → shaped z i x = true) (h0 : ∀ y ∈ t, 0 ≤ y.imm) : okVars t := fun y hy => by
  refine ⟨h0 y hy, fun ho => ?_⟩
  obtain ⟨i, hi⟩ := List.mem_iff_getElem?.1 hy
  obtain ⟨_, _, h3, _, h5, _⟩ := shaped_args (h i y hi)
  unfold immOk at h5
  rw [if_neg (by omega), if_pos ho] at h5
  exact ⟨by simpa using h5, h3⟩
end Go.Proofs.YtbiopedpceddeaaGreatDoor.T
end
section
namespace Go.Proofs.YtbiopedpceddeaaGreatDoor
open Go.RowKit
set_option linter.unusedVariables false
set_option linter.unusedSimpArgs false

theorem wd_four (t : List T.Nd) {v : Nat} (hv : v < 4) : ∃ z, (T.widths t)[v]? = some z := ⟨_, List.getElem?_eq_getElem (by rw [T.widths_len]; exact hv)⟩

end Go.Proofs.YtbiopedpceddeaaGreatDoor
end
section
namespace Go.Proofs.YtbiopedpceddeaaGreatDoor
open Go.RowKit
set_option linter.unusedVariables false
set_option linter.unusedSimpArgs false

theorem nd_imm {W : World} {At : Option Addr} {n : Nat} {t : List T.Nd} (h : StAt 5 NdR W At n t) : ∀ y ∈ t, 0 ≤ y.imm := fun y hy => by
  obtain ⟨i, hi⟩ := List.mem_iff_getElem?.1 hy
  have hl : i < n := by have := (List.getElem?_eq_some_iff.1 hi).1; rw [h.len] at this; exact this
  obtain ⟨x, _, _, _, _, hx, _, _, _, _, _, _, _, _, h0, _⟩ := nd_cells h hl
  rw [hi] at hx
  cases hx
  exact h0

end Go.Proofs.YtbiopedpceddeaaGreatDoor
end
section
namespace Go.Proofs.YtbiopedpceddeaaGreatDoor
open Go.RowKit
set_option linter.unusedVariables false
set_option linter.unusedSimpArgs false

/-- the widths of the operands -/
def wdL (t : List T.Nd) (l : List Int) : List Int := l.map fun a => (t.getD a.toNat default).w
theorem wdL_at {t : List T.Nd} {x : T.Nd} {i : Nat} (h : i < x.args.length) : (wdL t x.args)[i]? = some (T.wd t x i) := by
  unfold wdL T.wd
  rw [List.getElem?_map, List.getElem?_eq_getElem h, show x.args.getD i 0 = x.args[i] from getD_of (List.getElem?_eq_getElem h)]; rfl

set_option maxRecDepth 100000 in
set_option maxHeartbeats 8000000 in
theorem rTyped_any (t : List T.Nd) (x : T.Nd) (n ct : Nat) (At A : Option Addr) (c : Nat) (W : World) (hT : StAt 5 NdR W At n t) (hA : SlAt (IntR .i64) W A x.args.length x.args) (hlen : (x.args.length : Int) = T.ar x.op) (har : 0 ≤ T.ar x.op) (harg : ∀ a ∈ x.args, 0 ≤ a ∧ a < (n : Int)) :
    Calls Tryz.prog 132 #[.slice At n ct, ndV x A c] W fun e w' => e = .returned (.bool (T.typed t x)) ∧ Below W.heap.size W w' := by
  obtain ⟨W1, hW1⟩ : ∃ W1, W1 = W.alloc (.cells #[.int .i64 x.op, .int .i64 x.w, .int .i64 x.fl, .slice A x.args.length c, .int .u32 x.imm] 62) := ⟨_, rfl⟩
  have hB1 : Below W.heap.size W W1 := by rw [hW1]; exact (Below.refl _ _).alloc (Nat.le_refl _) _
  have hr1 : W1.heap[W.heap.size]? = some (.cells #[.int .i64 x.op, .int .i64 x.w, .int .i64 x.fl, .slice A x.args.length c, .int .u32 x.imm] 62 (0, 0)) := by rw [hW1]; exact heap_alloc_new W _
  have hs1 : W1.heap.size = W.heap.size + 1 := by rw [hW1]; simp
  have HX := Lib.hid (show ∀ Y : World, Below W1.heap.size W1 Y → Y.cell? ⟨W.heap.size, 0, none⟩ = some (.int .i64 x.op) ∧ Y.cell? ⟨W.heap.size, 1, none⟩ = some (.int .i64 x.w) ∧ Y.cell? ⟨W.heap.size, 3, none⟩ = some (.slice A x.args.length c) from fun Y hY => by
    have h1 := row_step (Lib.hid hY) hr1
    refine ⟨?_, ?_, ?_⟩
    all_goals rw [cell_of_row _ _ _ _ _ (0, 0) h1]; rfl)
  have HT := Lib.hid (hT.below monoNd hB1)
  have HA := Lib.hid (hA.below (monoInt _) hB1)
  have HB1 := Lib.hid hB1
  have Hs1 := Lib.hid hs1
  have Harg := Lib.hid harg
  have hle := hT.le
  have hle2 := hA.le
  have hm3 : x.args.length ≤ 3 := by
    rcases ar_cases x.op with h | h | h | h | h | h <;> omega
  have HF : Hid (∀ s, s = T.typed t x → s = T.typed t x) := fun s h => h
  obtain ⟨sh, hsh⟩ : ∃ sh, sh = T.typed t x := ⟨_, rfl⟩
  rw [← hsh]
  have Hsh := Lib.hid hsh
  have Hlen := Lib.hid hlen
  have Har := Lib.hid har
  have HWd := Lib.hid (fun i (h : i < x.args.length) => wdL_at (t := t) h)
  obtain ⟨Wd, hWd⟩ : ∃ Wd : Nat → Int, Wd = T.wd t x := ⟨_, rfl⟩
  have HWde := Lib.hid hWd
  rw [← hWd] at HWd
  clear hT hA hB1 hr1 hs1 hsh HF hlen har harg hWd
  rw [show ndV x A c = .agg #[.int .i64 x.op, .int .i64 x.w, .int .i64 x.fl, .slice A x.args.length c, .int .u32 x.imm] from rfl]
  obtain ⟨x0, x1, x3⟩ := HX.out W1 (Below.refl _ _)
  obtain ⟨xs, hxs⟩ : ∃ xs, xs = x.args := ⟨_, rfl⟩
  rw [← hxs] at HX HA Harg HWd hle2 hm3 Hlen hW1 x3 ⊢
  have Hxs := Lib.hid hxs
  clear hxs
  generalize hm : xs.length = m at HX HA HWd hle2 hm3 Hlen hW1 x3 ⊢
  have Hm := Lib.hid hm
  clear hm
  go_enter Tryz.func132, Tryz.ntmps132
  rw [hW1] at x0 x1 x3
  go_wp2
  rw [← hW1] at x0 x1 x3 ⊢
  clear hW1 x0 x1 x3
  go_loopg [5, 6] (m + 1) (fun g v i wr => ∃ (j : Nat), j ≤ m ∧ i = .int .i64 (j : Int) ∧ g + j = m + 1 ∧ OwnAt wr 3 1 v j (((wdL t xs).take j).map (Value.int .i64)) ∧ Below W1.heap.size W1 wr ∧ (∀ g, v.ownBlock = some g → W1.heap.size ≤ g))
  case atStart => exact ⟨0, Nat.zero_le _, rfl, rfl, OwnAt.nil_ _ _ _, Below.refl _ _, fun g hg => by simp [Value.ownBlock] at hg⟩
  case round =>
    obtain ⟨j, hj, rfl, hgk, hown, hbw, hob⟩ := hrel
    have Hgk := Lib.hid hgk; clear hgk
    have Hown := Lib.hid hown; clear hown
    have Hob := Lib.hid hob; clear hob
    obtain ⟨x0, x1, x3⟩ := HX.out wr hbw
    by_cases hlt : j < m
    · obtain ⟨y, b, off, u, hy, rfl, hb, hc, hu⟩ := (HA.out.below (monoInt _) hbw).at_ hlt
      have hu' : u = .int .i64 y := hu
      subst hu'
      have hay := Harg.out y (List.mem_of_getElem? hy)
      obtain ⟨p, rfl⟩ : ∃ p : Nat, y = p := ⟨y.toNat, by omega⟩
      have hp : p < n := by omega
      obtain ⟨z, b2, off2, A2, c2, hz, rfl, _, _, hw2, _⟩ := nd_cells (HT.out.below monoNd hbw) (j := p) hp
      have Hz := Lib.hid (show (wdL t xs)[j]? = some z.w from by unfold wdL; rw [List.getElem?_map, hy]; simp only [Option.map_some, Int.toNat_natCast]; rw [getD_of hz])
      obtain ⟨zw, hzw⟩ : ∃ zw, zw = z.w := ⟨_, rfl⟩
      rw [← hzw] at Hz hw2
      have Hbw := Lib.hid hbw
      clear hy hu hz hzw hay hbw hb
      go_wp2_with (at_builtin; refine wpList_append_one' rfl (.tmp 14) (.tmp 24) 60 rfl 3 (.int .i64 0) 8 Tryz.underlying60 infoInt rfl _ j _ rfl Hown.out (.int .i64 zw) rfl 3 wr.heap.size rfl rfl (by omega) (by omega) ?_; intro v' w3 hown' hgr hat)
      have Hown' := Lib.hid (show OwnAt w3 3 1 v' (j + 1) (((wdL t xs).take (j + 1)).map (Value.int .i64)) from by rw [K.take_succ_at Hz.out, List.map_append]; exact hown')
      obtain ⟨hb3, hv3⟩ := below_append Hbw.out Hbw.out.size Hob.out hgr hat
      have Hv3 := Lib.hid hv3
      have Hb3 := Lib.hid hb3
      clear hown' hgr hat hb3 hv3 x0 x1 x3
      go_wp2
      go_roundg (gk - 1)
      case measure => have := Hgk.out; omega
      case rel => have := Hgk.out; exact ⟨j + 1, by omega, by go_num, by omega, Hown'.out, Hb3.out, Hv3.out⟩
    · obtain rfl : j = m := by omega
      have hwl : (wdL t xs).length = j := by unfold wdL; rw [List.length_map]; exact Hm.out
      have hown := Hown.out
      rw [List.take_of_length_le (by omega)] at hown
      have Hb9 := Lib.hid (HB1.out.trans (hbw.mono (by have := Hs1.out; omega)))
      obtain ⟨Av, cv, hv⟩ := hown.form
      subst hv
      have HL := Lib.hid (show ∀ i, i < j → ∃ g off, Av = some ⟨g, off, none⟩ ∧ wr.cell? ⟨g, off + i, none⟩ = some (.int .i64 (Wd i)) from fun i hi => by
        obtain ⟨y, g, off, u, hy, hA, _, hc, hu⟩ := hown.slInts.at_ hi
        have hu' : u = .int .i64 y := hu
        subst hu'
        rw [HWd.out i hi] at hy
        cases hy
        exact ⟨g, off, hA, hc⟩)
      clear hown hwl hbw Hown Hob
      rcases typed_cases x.op with h | h | h | h | h | h | h
      · have hj2 : (j : Int) = 2 := by rw [Hlen.out]; unfold T.ar; rw [if_neg (by omega), if_pos (by omega)]
        have hjn : j = 2 := by omega
        subst hjn
        clear hj2
        have hop0 : (x.op == 0) = false := by simp; omega
        have hop1 : (x.op == 33) = false := by simp; omega
        have hop14 : (x.op == 14) = false := by simp; omega
        have hop15 : (x.op == 15) = false := by simp; omega
        have hop16 : (x.op == 16) = false := by simp; omega
        have hop17 : (x.op == 17) = false := by simp; omega
        have hop18 : (x.op == 18) = false := by simp; omega
        obtain ⟨g, off, hAv, l0⟩ := HL.out 0 (by omega)
        rw [Nat.add_zero] at l0
        obtain ⟨g1, off1, hA1, l1⟩ := HL.out 1 (by omega)
        rw [hAv] at hA1
        injection hA1 with hA1
        injection hA1 with e1 e2
        subst e1 e2
        subst hAv
        obtain ⟨a0, ha0⟩ : ∃ a0, a0 = Wd 0 := ⟨_, rfl⟩
        rw [← ha0] at l0
        obtain ⟨a1, ha1⟩ : ∃ a1, a1 = Wd 1 := ⟨_, rfl⟩
        rw [← ha1] at l1
        have h9 := Hsh.out
        rw [typed_13 h, ← HWde.out, ← ha0, ← ha1] at h9
        clear ha0 ha1
        clear h
        by_cases e0 : a0 = x.w
        · have z0 : (a0 == x.w) = true := by simpa using e0
          have Hf := Lib.hid (show sh = (a1 == x.w) from by rw [h9, decide_eq_true e0, Bool.true_and]; by_cases h : a1 = x.w <;> simp [h])
          clear e0 h9
          go_wp2
          go_quiet (fail)
          go_wp2
          go_ret
          exact ⟨ret_bool Hf.out.symm, Hb9.out.dr ⟨_, rfl⟩⟩
        · have z0 : (a0 == x.w) = false := by simpa using e0
          have Hf := Lib.hid (show sh = false from by rw [h9, decide_eq_false e0, Bool.false_and])
          clear e0 h9
          go_wp2
          go_quiet (fail)
          go_wp2
          go_ret
          exact ⟨ret_bool Hf.out.symm, Hb9.out.dr ⟨_, rfl⟩⟩
      · have hj2 : (j : Int) = 2 := by rw [Hlen.out]; unfold T.ar; rw [if_neg (by omega), if_pos (by omega)]
        have hjn : j = 2 := by omega
        subst hjn
        clear hj2
        have hop0 : (x.op == 0) = false := by simp; omega
        have hop1 : (x.op == 33) = false := by simp; omega
        have hop14 : (x.op == 14) = true := by simp; omega
        obtain ⟨g, off, hAv, l0⟩ := HL.out 0 (by omega)
        rw [Nat.add_zero] at l0
        obtain ⟨g1, off1, hA1, l1⟩ := HL.out 1 (by omega)
        rw [hAv] at hA1
        injection hA1 with hA1
        injection hA1 with e1 e2
        subst e1 e2
        subst hAv
        obtain ⟨a0, ha0⟩ : ∃ a0, a0 = Wd 0 := ⟨_, rfl⟩
        rw [← ha0] at l0
        obtain ⟨a1, ha1⟩ : ∃ a1, a1 = Wd 1 := ⟨_, rfl⟩
        rw [← ha1] at l1
        have h9 := Hsh.out
        rw [typed_14 h, ← HWde.out, ← ha0, ← ha1] at h9
        clear ha0 ha1
        have Hf := Lib.hid (show sh = (a0 == a1) from by rw [h9]; by_cases h : a0 = a1 <;> simp [h])
        clear h h9
        go_wp2
        go_quiet (fail)
        go_wp2
        go_ret
        exact ⟨ret_bool Hf.out.symm, Hb9.out.dr ⟨_, rfl⟩⟩
      · have hj3 : (j : Int) = 3 := by rw [Hlen.out]; unfold T.ar; rw [if_neg (by omega), if_neg (by omega), if_pos (by omega)]
        have hjn : j = 3 := by omega
        subst hjn
        clear hj3
        have hop0 : (x.op == 0) = false := by simp; omega
        have hop1 : (x.op == 33) = false := by simp; omega
        have hop14 : (x.op == 14) = false := by simp; omega
        have hop15 : (x.op == 15) = true := by simp; omega
        obtain ⟨g, off, hAv, l0⟩ := HL.out 0 (by omega)
        rw [Nat.add_zero] at l0
        obtain ⟨g1, off1, hA1, l1⟩ := HL.out 1 (by omega)
        rw [hAv] at hA1
        injection hA1 with hA1
        injection hA1 with e1 e2
        subst e1 e2
        obtain ⟨g2, off2, hA2, l2⟩ := HL.out 2 (by omega)
        rw [hAv] at hA2
        injection hA2 with hA2
        injection hA2 with e1 e2
        subst e1 e2
        subst hAv
        obtain ⟨a0, ha0⟩ : ∃ a0, a0 = Wd 0 := ⟨_, rfl⟩
        rw [← ha0] at l0
        obtain ⟨a1, ha1⟩ : ∃ a1, a1 = Wd 1 := ⟨_, rfl⟩
        rw [← ha1] at l1
        obtain ⟨a2, ha2⟩ : ∃ a2, a2 = Wd 2 := ⟨_, rfl⟩
        rw [← ha2] at l2
        have h9 := Hsh.out
        rw [typed_15 h, ← HWde.out, ← ha0, ← ha1, ← ha2] at h9
        clear ha0 ha1 ha2
        clear h
        by_cases e0 : a0 = 1
        · have z0 : (a0 == 1) = true := by simpa using e0
          by_cases e1 : a1 = x.w
          · have z1 : (a1 == x.w) = true := by simpa using e1
            have Hf := Lib.hid (show sh = (a2 == x.w) from by rw [h9, decide_eq_true e0, decide_eq_true e1, Bool.true_and, Bool.true_and]; by_cases h : a2 = x.w <;> simp [h])
            clear e0 e1 h9
            go_wp2
            go_quiet (fail)
            go_wp2
            go_ret
            exact ⟨ret_bool Hf.out.symm, Hb9.out.dr ⟨_, rfl⟩⟩
          · have z1 : (a1 == x.w) = false := by simpa using e1
            have Hf := Lib.hid (show sh = false from by rw [h9, decide_eq_false e1, Bool.and_false, Bool.false_and])
            clear e0 e1 h9
            go_wp2
            go_quiet (fail)
            go_wp2
            go_ret
            exact ⟨ret_bool Hf.out.symm, Hb9.out.dr ⟨_, rfl⟩⟩
        · have z0 : (a0 == 1) = false := by simpa using e0
          have Hf := Lib.hid (show sh = false from by rw [h9, decide_eq_false e0, Bool.false_and, Bool.false_and])
          clear e0 h9
          go_wp2
          go_quiet (fail)
          go_wp2
          go_ret
          exact ⟨ret_bool Hf.out.symm, Hb9.out.dr ⟨_, rfl⟩⟩
      · have hj1 : (j : Int) = 1 := by rw [Hlen.out]; unfold T.ar; rw [if_neg (by omega), if_neg (by omega), if_neg (by omega), if_pos (by omega)]
        have hjn : j = 1 := by omega
        subst hjn
        clear hj1
        have hop0 : (x.op == 0) = false := by simp; omega
        have hop1 : (x.op == 33) = false := by simp; omega
        have hop14 : (x.op == 14) = false := by simp; omega
        have hop15 : (x.op == 15) = false := by simp; omega
        have hop16 : (x.op == 16) = true := by simp; omega
        obtain ⟨g, off, hAv, l0⟩ := HL.out 0 (by omega)
        rw [Nat.add_zero] at l0
        subst hAv
        obtain ⟨a0, ha0⟩ : ∃ a0, a0 = Wd 0 := ⟨_, rfl⟩
        rw [← ha0] at l0
        have h9 := Hsh.out
        rw [typed_16 (.inl h), ← HWde.out, ← ha0] at h9
        clear ha0
        have Hf := Lib.hid (show sh = decide (a0 < x.w) from h9)
        clear h h9
        go_wp2
        go_quiet (fail)
        go_wp2
        go_ret
        exact ⟨ret_bool Hf.out.symm, Hb9.out.dr ⟨_, rfl⟩⟩
      · have hj1 : (j : Int) = 1 := by rw [Hlen.out]; unfold T.ar; rw [if_neg (by omega), if_neg (by omega), if_neg (by omega), if_pos (by omega)]
        have hjn : j = 1 := by omega
        subst hjn
        clear hj1
        have hop0 : (x.op == 0) = false := by simp; omega
        have hop1 : (x.op == 33) = false := by simp; omega
        have hop14 : (x.op == 14) = false := by simp; omega
        have hop15 : (x.op == 15) = false := by simp; omega
        have hop16 : (x.op == 16) = false := by simp; omega
        have hop17 : (x.op == 17) = true := by simp; omega
        obtain ⟨g, off, hAv, l0⟩ := HL.out 0 (by omega)
        rw [Nat.add_zero] at l0
        subst hAv
        obtain ⟨a0, ha0⟩ : ∃ a0, a0 = Wd 0 := ⟨_, rfl⟩
        rw [← ha0] at l0
        have h9 := Hsh.out
        rw [typed_16 (.inr h), ← HWde.out, ← ha0] at h9
        clear ha0
        have Hf := Lib.hid (show sh = decide (a0 < x.w) from h9)
        clear h h9
        go_wp2
        go_quiet (fail)
        go_wp2
        go_ret
        exact ⟨ret_bool Hf.out.symm, Hb9.out.dr ⟨_, rfl⟩⟩
      · have hj1 : (j : Int) = 1 := by rw [Hlen.out]; unfold T.ar; rw [if_neg (by omega), if_neg (by omega), if_neg (by omega), if_pos (by omega)]
        have hjn : j = 1 := by omega
        subst hjn
        clear hj1
        have hop0 : (x.op == 0) = false := by simp; omega
        have hop1 : (x.op == 33) = false := by simp; omega
        have hop14 : (x.op == 14) = false := by simp; omega
        have hop15 : (x.op == 15) = false := by simp; omega
        have hop16 : (x.op == 16) = false := by simp; omega
        have hop17 : (x.op == 17) = false := by simp; omega
        have hop18 : (x.op == 18) = true := by simp; omega
        obtain ⟨g, off, hAv, l0⟩ := HL.out 0 (by omega)
        rw [Nat.add_zero] at l0
        subst hAv
        obtain ⟨a0, ha0⟩ : ∃ a0, a0 = Wd 0 := ⟨_, rfl⟩
        rw [← ha0] at l0
        have h9 := Hsh.out
        rw [typed_18 h, ← HWde.out, ← ha0] at h9
        clear ha0
        have Hf := Lib.hid (show sh = decide (x.w < a0) from h9)
        clear h h9
        go_wp2
        go_quiet (fail)
        go_wp2
        go_ret
        exact ⟨ret_bool Hf.out.symm, Hb9.out.dr ⟨_, rfl⟩⟩
      · have Hf := Lib.hid (show sh = true from by rw [Hsh.out, typed_else h])
        have h033 : x.op = 0 ∨ x.op = 33 := by
          have := Har.out
          rcases ar_cases x.op with h1 | h1 | h1 | h1 | h1 | h1 <;> omega
        clear h
        rcases h033 with h | h
        · have hop0 : (x.op == 0) = true := by simpa using h
          clear h
          go_wp2
          go_ret
          exact ⟨ret_bool Hf.out.symm, Hb9.out⟩
        · have hop0 : (x.op == 0) = false := by simp; omega
          have hop1 : (x.op == 33) = true := by simpa using h
          clear h
          go_wp2
          go_ret
          exact ⟨ret_bool Hf.out.symm, Hb9.out⟩
end Go.Proofs.YtbiopedpceddeaaGreatDoor
end
