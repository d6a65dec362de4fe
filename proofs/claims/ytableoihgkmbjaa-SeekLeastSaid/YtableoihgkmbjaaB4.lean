/- Walks of the program's layer of bits: words that fit; the table of operations. -/
import Derived.Test.YtableoihgkmbjaaB3
import Derived.Test.YtableoihgkmbjaaMaps
import Derived.Maps.Keyed
import Derived.Shelf.Abstract
namespace Go.Proofs.Ytableoihgkmbjaa
open Go.RowKit Go.Maps Go.Shelf
set_option linter.unusedVariables false

theorem take_succ_of {α : Type} {xs : List α} {k : Nat} {x : α} (h : xs[k]? = some x) : xs.take (k + 1) = xs.take k ++ [x] := by
  rw [List.take_add_one, h]; rfl
theorem take_all {α : Type} {xs : List α} {n k : Nat} (hn : xs.length = n) (h : n ≤ k) : xs.take k = xs := List.take_of_length_le (by omega)
theorem all_take_step {α : Type} {p : α → Bool} {xs : List α} {k : Nat} {x : α} (hx : xs[k]? = some x) (h : (xs.take k).all p = true) (hp : p x = true) : (xs.take (k + 1)).all p = true := by
  rw [take_succ_of hx, List.all_append, h]; simp [hp]
theorem all_false_at {α : Type} {p : α → Bool} {xs : List α} {k : Nat} {x : α} (hx : xs[k]? = some x) (hp : p x = false) : xs.all p = false := by
  cases h : xs.all p
  · rfl
  · rw [List.all_eq_true] at h; rw [h x (List.mem_of_getElem? hx)] at hp; cases hp

set_option maxHeartbeats 400000 in
theorem fits_any (n : Int) (A : Option Addr) (m c : Nat) (xs : List Int) (w : World) (hA : SlAt (IntR .u32) w A m xs) :
    Calls Try.prog 66 #[.int .i64 n, .slice A m c] w fun e w' => e = .returned (.bool (B.isWd n && xs.all fun x => decide (x < B.pw n))) ∧ w = w' := by
  have hl := hA.le
  have HA := Lib.hid hA; clear hA
  have H1 := Lib.hid (isWidth_any n w)
  cases h : B.isWd n
  · rw [h] at H1
    clear h
    go_enter Try.func66, Try.ntmps66
    go_wp2_with fail
    refine H1.out.mono ?_
    rintro e w' ⟨rfl, rfl⟩
    go_wp2
    go_ret
    exact ⟨rfl, rfl⟩
  · have hn := B.isWd_iff.1 h
    rw [h] at H1
    have HM := Lib.hid (fun W => mask_any n W (by omega) hn.2)
    clear h hn
    go_enter Try.func66, Try.ntmps66
    go_wp2_with fail
    refine H1.out.mono ?_
    rintro e w' ⟨rfl, rfl⟩
    go_wp2
    go_loop [12] (fun i => ∃ k : Nat, k ≤ m ∧ i = .int .i64 k ∧ Hid ((xs.take k).all (fun x => decide (x < B.pw n)) = true)) (fun i => m - (intOf i).toNat)
    case atStart => exact ⟨0, Nat.zero_le _, rfl, rfl⟩
    case round =>
      obtain ⟨k, hk, rfl, HT⟩ := hrel
      by_cases hlt : k < m
      · obtain ⟨x, b, off, u, hx, rfl, _, h1, rfl⟩ := HA.out.at_ hlt
        have Hx := Lib.hid hx; clear hx
        by_cases hc : x < B.pw n
        · have hd : decide (B.pw n - 1 < x) = false := by simp; omega
          have Hc := Lib.hid hc; clear hc
          generalize B.pw n - 1 = z at HM hd
          go_wp2_with fail
          refine (HM.out _).mono ?_
          rintro e w' ⟨rfl, rfl⟩
          go_wp2
          go_round
          case rel => exact ⟨k + 1, by omega, by go_num, all_take_step Hx.out HT.out (by simpa using Hc.out)⟩
          case measure => simp [intOf]; omega
        · have hd : decide (B.pw n - 1 < x) = true := by simp; omega
          have Hc := Lib.hid (show decide (x < B.pw n) = false by simpa using hc); clear hc
          generalize B.pw n - 1 = z at HM hd
          go_wp2_with fail
          refine (HM.out _).mono ?_
          rintro e w' ⟨rfl, rfl⟩
          go_wp2
          go_ret
          exact ⟨ret_bool (by rw [all_false_at Hx.out Hc.out]; rfl), rfl⟩
      · go_wp2
        go_ret
        have h3 := HT.out
        rw [take_all HA.out.len (by omega)] at h3
        exact ⟨ret_bool (by rw [h3]), rfl⟩

theorem wraps_any (f g : Nat) (w : World) : Calls Try.prog 68 #[.func (.func f) #[] #[], .func (.func g) #[] #[]] w fun e w' =>
    e = .returned (.agg #[.func (.func 94) #[] #[.pointer (some ⟨w.heap.size, 0, none⟩)], .func (.func f) #[] #[], .nilFunc]) ∧ w'.heap[w.heap.size]? = some (.cells #[.func (.func g) #[] #[]] 112 (0, 0)) ∧ Below w.heap.size w w' ∧ w.heap.size < w'.heap.size := by
  go_enter Try.func68, Try.ntmps68
  go_wp2
  exact bodyPost_ret (v := .agg #[.func (.func 94) #[] #[.pointer (some ⟨w.heap.size, 0, none⟩)], .func (.func f) #[] #[], .nilFunc]) (by simp [results, Try.results68, go_sem]) rfl
    ⟨rfl, (Below.heap_alloc _ _ _ (by simp)).trans (heap_alloc_new w _), ((Below.refl _ _).alloc (Nat.le_refl _) _).alloc (by simp) _, by simp; omega⟩
theorem plain_any (g : Nat) (w : World) : Calls Try.prog 83 #[.func (.func g) #[] #[]] w fun e w' =>
    e = .returned (.agg #[.func (.func 95) #[] #[.pointer (some ⟨w.heap.size, 0, none⟩)], .nilFunc, .nilFunc]) ∧ w'.heap[w.heap.size]? = some (.cells #[.func (.func g) #[] #[]] 112 (0, 0)) ∧ Below w.heap.size w w' ∧ w.heap.size < w'.heap.size := by
  go_enter Try.func83, Try.ntmps83
  go_wp2
  exact bodyPost_ret (v := .agg #[.func (.func 95) #[] #[.pointer (some ⟨w.heap.size, 0, none⟩)], .nilFunc, .nilFunc]) (by simp [results, Try.results83, go_sem]) rfl
    ⟨rfl, (Below.heap_alloc _ _ _ (by simp)).trans (heap_alloc_new w _), ((Below.refl _ _).alloc (Nat.le_refl _) _).alloc (by simp) _, by simp; omega⟩

/-- 'm[k] = v' of a composite literal, at the operation. -/
theorem wpList_insert_at {κ α : Type} [DecidableEq κ] {P : Program} {kt et t : TypeId} {ek : κ → Value} {R : World → κ → Value → α → Prop} {w : World} {b : Nat} {l : List (κ × α)}
    {ops : Array Oper} {rest : List Oper} {o : Oper} {a : Act} {Q : Exit → Act → World → Prop} (hg : o.guard = none) (m x v : Operand) (hop : o.op = Op.insert t m x v)
    (h : MapAt P kt ek R w b l) (K : Keyed P kt) (hinj : ∀ a b, ek a = ek b → a = b) (ht : P.underlying t = some (.map kt et)) (k : κ) (val : Value) {kl : Lit} (hkey : keyOf P kt (ek k) = some kl)
    (hm : a.eval m = .map (some b)) (hx : a.eval x = ek k) (hv : a.eval v = val)
    (hK : ∀ w', w.grownBy w' (some b) → w'.heap.size = w.heap.size → (∀ (R' : World → κ → Value → α → Prop) (a : α), (∀ k' u a', k' ≠ k → R w k' u a' → R' w' k' u a') → R' w' k val a → MapAt P kt ek R' w' b (AL.put l k a)) →
      wpList P ops Q rest (a.put o.dst undef) w') : wpList P ops Q (o :: rest) a w := by
  refine wpList_plain hg fun K' hK' => ?_
  obtain ⟨w', hrun, r1, r2, r3⟩ := h.update K hinj ht hkey val
  unfold Oper.wp
  simp [execOp, hop, hm, hx, hv, hrun, Result.andThen]
  exact hK' _ _ (hK w' r1 r2 r3)

/-- An element of the table of operations: its function does what operation k does, as long as the blocks that it has captured stay. -/
def ElB (b : Nat) (w : World) (k : Int) (u : Value) (_ : Unit) : Prop :=
  ∃ (f : Nat) (caps : Array Value) (v1 v2 : Value) (own : List Nat), u = .agg #[.func (.func f) #[] caps, v1, v2] ∧ (v1.oneCell' = true ∧ v2.oneCell' = true) ∧ (∀ args w, (callFunc f args).run Try.prog w = .ok (.enter f args) w) ∧
    (∀ B0 ∈ own, B0 < w.heap.size ∧ b < B0) ∧ ∀ W : World, (∀ B0 ∈ own, W.heap[B0]? = w.heap[B0]?) → DoesAt k f caps W

theorem ElB.keep {b : Nat} {w w' : World} {k : Int} {u : Value} {x : Unit} (h : ElB b w k u x) (hg : w.grownBy w' (some b)) : ElB b w' k u x := by
  obtain ⟨f, caps, v1, v2, own, hu, hv, he, ho, hd⟩ := h
  exact ⟨f, caps, v1, v2, own, hu, hv, he, fun B0 hB => ⟨Nat.lt_of_lt_of_le (ho B0 hB).1 hg.size, (ho B0 hB).2⟩, fun W hW => hd W fun B0 hB => (hW B0 hB).trans (hg.block B0 (ho B0 hB).1 (fun e => Nat.lt_irrefl b (by injection e with e; have h9 := (ho B0 hB).2; rw [e] at h9; exact h9)))⟩
theorem ElB.below {b : Nat} {w w' : World} {k : Int} {u : Value} {x : Unit} (h : ElB b w k u x) (hb : Below w.heap.size w w') : ElB b w' k u x := by
  obtain ⟨f, caps, v1, v2, own, hu, hv, he, ho, hd⟩ := h
  exact ⟨f, caps, v1, v2, own, hu, hv, he, fun B0 hB => ⟨Nat.lt_of_lt_of_le (ho B0 hB).1 hb.size, (ho B0 hB).2⟩, fun W hW => hd W fun B0 hB => (hW B0 hB).trans (hb.block B0 (ho B0 hB).1)⟩

theorem elB_wraps {b B1 : Nat} {w : World} {k : Int} {g : Nat} {v1 v2 : Value} (hv : v1.oneCell' = true ∧ v2.oneCell' = true) {T : TypeId} (hB : w.heap[B1]? = some (.cells #[.func (.func g) #[] #[]] T (0, 0))) (hne : b < B1)
    (eg : ∀ args w, (callFunc g args).run Try.prog w = .ok (.enter g args) w) (x : Int → Int → Int)
    (hg : ∀ (a b : Int) (w : World), Calls Try.prog g #[.int .u32 a, .int .u32 b] w fun e w' => e = .returned (.int .u32 (x a b % 4294967296)) ∧ w = w') (hx : ∀ n a b, B.do_ k n a b = some (x a b % B.pw n)) :
    ElB b w k (.agg #[.func (.func 94) #[] #[.pointer (some ⟨B1, 0, none⟩)], v1, v2]) () :=
  ⟨_, _, _, _, [B1], rfl, hv, enters_of Try.func94 (by kernel_rfl) rfl, fun B0 h => by rw [List.mem_singleton.1 h]; exact ⟨(Array.getElem?_eq_some_iff.1 hB).1, hne⟩,
    fun W hW => wraps_do k g B1 W eg x (cell_of_one ((hW B1 (by simp)).trans hB)) (fun a b => hg a b W) hx⟩
theorem elB_plain {b B1 : Nat} {w : World} {k : Int} {g : Nat} {v1 v2 : Value} (hv : v1.oneCell' = true ∧ v2.oneCell' = true) {T : TypeId} (hB : w.heap[B1]? = some (.cells #[.func (.func g) #[] #[]] T (0, 0))) (hne : b < B1)
    (eg : ∀ args w, (callFunc g args).run Try.prog w = .ok (.enter g args) w) (x : Int → Int → Int)
    (hg : ∀ (a b : Int) (w : World), 0 ≤ a → a < 4294967296 → 0 ≤ b → b < 4294967296 → Calls Try.prog g #[.int .u32 a, .int .u32 b] w fun e w' => e = .returned (.int .u32 (x a b)) ∧ w = w') (hx : ∀ n a b, B.do_ k n a b = some (x a b)) :
    ElB b w k (.agg #[.func (.func 95) #[] #[.pointer (some ⟨B1, 0, none⟩)], v1, v2]) () :=
  ⟨_, _, _, _, [B1], rfl, hv, enters_of Try.func95 (by kernel_rfl) rfl, fun B0 h => by rw [List.mem_singleton.1 h]; exact ⟨(Array.getElem?_eq_some_iff.1 hB).1, hne⟩,
    fun W hW => plain_do k g B1 W eg x (cell_of_one ((hW B1 (by simp)).trans hB)) (fun a b => hg a b W) hx⟩
theorem elB_fn {b : Nat} {w : World} {k : Int} {f : Nat} {v1 v2 : Value} (hv : v1.oneCell' = true ∧ v2.oneCell' = true) (eg : ∀ args w, (callFunc f args).run Try.prog w = .ok (.enter f args) w) (hd : ∀ W, DoesAt k f #[] W) :
    ElB b w k (.agg #[.func (.func f) #[] #[], v1, v2]) () :=
  ⟨f, #[], v1, v2, [], rfl, hv, eg, fun B0 h => by simp at h, fun W _ => hd W⟩
end Go.Proofs.Ytableoihgkmbjaa
