/- Merged: QBW1, QBW2, QBW3. -/
import Derived.Test.YtbiopedpceddeaaGreatDoorN37
import Derived.Deep.RegionWith
import Derived.StillTailTactics
import Derived.BigRegion
import Derived.Deep.DeepCutAuto
set_option linter.unusedVariables false
set_option linter.unusedSimpArgs false
section
namespace Go.Proofs.YtbiopedpceddeaaGreatDoor
open Go.RowKit Go.Maps Go.Shelf
set_option linter.unusedVariables false
set_option linter.unusedSimpArgs false

/-- An element of the table of operations: its function does what operation k does, as long as the blocks that it has captured stay. -/
def ElW (b : Nat) (w : World) (k : Int) (u : Value) (_ : Unit) : Prop :=
  ∃ (f : Nat) (caps : Array Value) (v1 v2 : Value) (own : List Nat), u = .agg #[.func (.func f) #[] caps, v1, v2] ∧ (v1.oneCell' = true ∧ v2.oneCell' = true) ∧ WL k v1 v2 ∧ (∀ args w, (callFunc f args).run Tryz.prog w = .ok (.enter f args) w) ∧
    (∀ B0 ∈ own, B0 < w.heap.size ∧ b < B0) ∧ ∀ W : World, (∀ B0 ∈ own, W.heap[B0]? = w.heap[B0]?) → DoesAt k f caps W

theorem ElW.keep {b : Nat} {w w' : World} {k : Int} {u : Value} {x : Unit} (h : ElW b w k u x) (hg : w.grownBy w' (some b)) : ElW b w' k u x := by
  obtain ⟨f, caps, v1, v2, own, hu, hv, hl, he, ho, hd⟩ := h
  exact ⟨f, caps, v1, v2, own, hu, hv, hl, he, fun B0 hB => ⟨Nat.lt_of_lt_of_le (ho B0 hB).1 hg.size, (ho B0 hB).2⟩, fun W hW => hd W fun B0 hB => (hW B0 hB).trans (hg.block B0 (ho B0 hB).1 (fun e => Nat.lt_irrefl b (by injection e with e; have h9 := (ho B0 hB).2; rw [e] at h9; exact h9)))⟩
theorem ElW.below {b : Nat} {w w' : World} {k : Int} {u : Value} {x : Unit} (h : ElW b w k u x) (hb : Below w.heap.size w w') : ElW b w' k u x := by
  obtain ⟨f, caps, v1, v2, own, hu, hv, hl, he, ho, hd⟩ := h
  exact ⟨f, caps, v1, v2, own, hu, hv, hl, he, fun B0 hB => ⟨Nat.lt_of_lt_of_le (ho B0 hB).1 hb.size, (ho B0 hB).2⟩, fun W hW => hd W fun B0 hB => (hW B0 hB).trans (hb.block B0 (ho B0 hB).1)⟩

theorem elW_wraps {b B1 : Nat} {w : World} {k : Int} {g : Nat} {v1 v2 : Value} (hv : v1.oneCell' = true ∧ v2.oneCell' = true) (hl : WL k v1 v2) {T : TypeId} (hB : w.heap[B1]? = some (.cells #[.func (.func g) #[] #[]] T (0, 0))) (hne : b < B1)
    (eg : ∀ args w, (callFunc g args).run Tryz.prog w = .ok (.enter g args) w) (x : Int → Int → Int)
    (hg : ∀ (a b : Int) (w : World), Calls Tryz.prog g #[.int .u32 a, .int .u32 b] w fun e w' => e = .returned (.int .u32 (x a b % 4294967296)) ∧ w = w') (hx : ∀ n a b, B.do_ k n a b = some (x a b % B.pw n)) :
    ElW b w k (.agg #[.func (.func 246) #[] #[.pointer (some ⟨B1, 0, none⟩)], v1, v2]) () :=
  ⟨_, _, _, _, [B1], rfl, hv, hl, enters_of Tryz.func246 (by kernel_rfl) rfl, fun B0 h => by rw [List.mem_singleton.1 h]; exact ⟨(Array.getElem?_eq_some_iff.1 hB).1, hne⟩,
    fun W hW => wraps_do k g B1 W eg x (cell_of_one ((hW B1 (by simp)).trans hB)) (fun a b => hg a b W) hx⟩
theorem elW_plain {b B1 : Nat} {w : World} {k : Int} {g : Nat} {v1 v2 : Value} (hv : v1.oneCell' = true ∧ v2.oneCell' = true) (hl : WL k v1 v2) {T : TypeId} (hB : w.heap[B1]? = some (.cells #[.func (.func g) #[] #[]] T (0, 0))) (hne : b < B1)
    (eg : ∀ args w, (callFunc g args).run Tryz.prog w = .ok (.enter g args) w) (x : Int → Int → Int)
    (hg : ∀ (a b : Int) (w : World), 0 ≤ a → a < 4294967296 → 0 ≤ b → b < 4294967296 → Calls Tryz.prog g #[.int .u32 a, .int .u32 b] w fun e w' => e = .returned (.int .u32 (x a b)) ∧ w = w') (hx : ∀ n a b, B.do_ k n a b = some (x a b)) :
    ElW b w k (.agg #[.func (.func 247) #[] #[.pointer (some ⟨B1, 0, none⟩)], v1, v2]) () :=
  ⟨_, _, _, _, [B1], rfl, hv, hl, enters_of Tryz.func247 (by kernel_rfl) rfl, fun B0 h => by rw [List.mem_singleton.1 h]; exact ⟨(Array.getElem?_eq_some_iff.1 hB).1, hne⟩,
    fun W hW => plain_do k g B1 W eg x (cell_of_one ((hW B1 (by simp)).trans hB)) (fun a b => hg a b W) hx⟩
theorem elW_fn {b : Nat} {w : World} {k : Int} {f : Nat} {v1 v2 : Value} (hv : v1.oneCell' = true ∧ v2.oneCell' = true) (hl : WL k v1 v2) (eg : ∀ args w, (callFunc f args).run Tryz.prog w = .ok (.enter f args) w) (hd : ∀ W, DoesAt k f #[] W) :
    ElW b w k (.agg #[.func (.func f) #[] #[], v1, v2]) () :=
  ⟨f, #[], v1, v2, [], rfl, hv, hl, eg, fun B0 h => by simp at h, fun W _ => hd W⟩

def OpsW (b : Nat) (w : World) (l : List (Int × Unit)) : Prop := MapAt Tryz.prog 3 (Value.int .i64) (ElW b) w b l

theorem OpsW.below {b : Nat} {w w' : World} {l : List (Int × Unit)} (h : OpsW b w l) (hb : Below w.heap.size w w') : OpsW b w' l :=
  MapAt.keep h (hb.block b h.lt) fun k u a hu => hu.below hb
theorem OpsW.put {b : Nat} {w w' : World} {l : List (Int × Unit)} {k : Int} {val : Value} (hg : w.grownBy w' (some b))
    (hput : ∀ (R' : World → Int → Value → Unit → Prop) (a : Unit), (∀ k' u a', k' ≠ k → ElW b w k' u a' → R' w' k' u a') → R' w' k val a → MapAt Tryz.prog 3 (Value.int .i64) R' w' b (AL.put l k a)) (hv : ElW b w k val ()) : OpsW b w' (AL.put l k ()) :=
  hput (ElW b) () (fun _ _ _ _ h => h.keep hg) (hv.keep hg)
theorem OpsW.made (w : World) : OpsW w.heap.size (w.alloc (.map #[] 0)) [] := MapAt.made w
theorem below_putW {b : Nat} {w0 w w' : World} (hb : Below w0.heap.size w0 w) (hB : w0.heap.size ≤ b) (hg : w.grownBy w' (some b)) : Below w0.heap.size w0 w' := hb.grown hg hb.size (fun k e => by injection e with e; omega)

set_option maxRecDepth 100000 in
set_option maxHeartbeats 4000000 in
theorem operationsW_any (w : World) : Calls Tryz.prog 159 #[] w fun e w' => ∃ l, e = .returned (.map (some w.heap.size)) ∧ OpsW w.heap.size w' l ∧ (∀ k, AL.get l k = if 1 ≤ k ∧ k ≤ 13 then some () else none) ∧ Below w.heap.size w w' := by
  have hmm := @run_makeMap Tryz.prog
  have K := int_keyed Tryz.underlying3
  go_enter Tryz.func159, Tryz.ntmps159
  go_wp2_with fail
  have ho0 := OpsW.made w
  have hb0 : Below w.heap.size w (w.alloc (.map #[] 0)) := (Below.refl _ _).alloc (Nat.le_refl _) _
  refine (wraps_any _ _ _).mono ?_
  rintro e v1 ⟨rfl, hB, hb, hs'⟩
  have hB' := hB
  rw [World.size_alloc] at hB'
  have Ho := Lib.hid (ho0.below hb)
  have Hb := Lib.hid (hb0.trans (hb.mono hb0.size))
  have hs : w.heap.size < v1.heap.size := by simp at hs'; omega
  clear ho0 hb0 hs'
  have He1 := Lib.hid (elW_wraps (b := w.heap.size) (k := 1) (v1 := .func (.func 199) #[] #[]) (v2 := .nilFunc) ⟨rfl, rfl⟩ wl1 hB' (by omega) (enters_of Tryz.func200 (by kernel_rfl) rfl) (fun a b => a + b) small1_any B.do_1)
  clear hB hB' hb
  go_wp2_with (refine wpList_insert_at rfl (.tmp 1) (.const (.int .i64 1)) (.tmp 2) rfl Ho.out K (ek_int_inj .i64) Tryz.underlying215 1 (.agg #[.func (.func 246) #[] #[.pointer (some ⟨w.heap.size + 1, 0, none⟩)], .func (.func 199) #[] #[], .nilFunc]) (keyOf_int_mk Tryz.underlying3 rfl) rfl rfl rfl ?_; intro w1 hg hsz hput; replace Ho := Lib.hid (OpsW.put hg hput (He1.out)); replace Hb := Lib.hid (below_putW Hb.out (Nat.le_refl _) hg); have hs1 : w.heap.size < w1.heap.size := (by rw [hsz]; exact hs); replace hs := hs1; clear hg hput hsz hs1)
  refine (wraps_any _ _ _).mono ?_
  rintro e v2 ⟨rfl, hB, hb, hs'⟩
  have hB' := hB
  replace Ho := Lib.hid (Ho.out.below hb)
  replace Hb := Lib.hid (Hb.out.trans (hb.mono Hb.out.size))
  have hne := hs
  replace hs : w.heap.size < v2.heap.size := Nat.lt_trans hs hs'
  clear hs'
  have He2 := Lib.hid (elW_wraps (b := w.heap.size) (k := 2) (v1 := .func (.func 201) #[] #[]) (v2 := .nilFunc) ⟨rfl, rfl⟩ wl2 hB' hne (enters_of Tryz.func202 (by kernel_rfl) rfl) (fun a b => a - b) small2_any B.do_2)
  clear hB hB' hb hne
  go_wp2_with (refine wpList_insert_at rfl (.tmp 1) (.const (.int .i64 2)) (.tmp 3) rfl Ho.out K (ek_int_inj .i64) Tryz.underlying215 2 (.agg #[.func (.func 246) #[] #[.pointer (some ⟨w1.heap.size, 0, none⟩)], .func (.func 201) #[] #[], .nilFunc]) (keyOf_int_mk Tryz.underlying3 rfl) rfl rfl rfl ?_; intro w2 hg hsz hput; replace Ho := Lib.hid (OpsW.put hg hput (He2.out)); replace Hb := Lib.hid (below_putW Hb.out (Nat.le_refl _) hg); have hs2 : w.heap.size < w2.heap.size := (by rw [hsz]; exact hs); replace hs := hs2; clear hg hput hsz hs2)
  refine (wraps_any _ _ _).mono ?_
  rintro e v3 ⟨rfl, hB, hb, hs'⟩
  have hB' := hB
  replace Ho := Lib.hid (Ho.out.below hb)
  replace Hb := Lib.hid (Hb.out.trans (hb.mono Hb.out.size))
  have hne := hs
  replace hs : w.heap.size < v3.heap.size := Nat.lt_trans hs hs'
  clear hs'
  have He3 := Lib.hid (elW_wraps (b := w.heap.size) (k := 3) (v1 := .func (.func 203) #[] #[]) (v2 := .nilFunc) ⟨rfl, rfl⟩ wl3 hB' hne (enters_of Tryz.func205 (by kernel_rfl) rfl) (fun a b => a * b) small3_any B.do_3)
  clear hB hB' hb hne
  go_wp2_with (first | (refine wpList_insert_at rfl (.tmp 1) (.const (.int .i64 3)) (.tmp 4) rfl Ho.out K (ek_int_inj .i64) Tryz.underlying215 3 (.agg #[.func (.func 246) #[] #[.pointer (some ⟨w2.heap.size, 0, none⟩)], .func (.func 203) #[] #[], .nilFunc]) (keyOf_int_mk Tryz.underlying3 rfl) rfl rfl rfl ?_; intro w3 hg hsz hput; replace Ho := Lib.hid (OpsW.put hg hput (He3.out)); replace Hb := Lib.hid (below_putW Hb.out (Nat.le_refl _) hg); have hs3 : w.heap.size < w3.heap.size := (by rw [hsz]; exact hs); replace hs := hs3; clear hg hput hsz hs3) | (refine wpList_insert_at rfl (.tmp 1) (.const (.int .i64 4)) (.tmp 5) rfl Ho.out K (ek_int_inj .i64) Tryz.underlying215 4 (.agg #[.func (.func 206) #[] #[], .nilFunc, .func (.func 207) #[] #[]]) (keyOf_int_mk Tryz.underlying3 rfl) rfl rfl rfl ?_; intro w4 hg hsz hput; replace Ho := Lib.hid (OpsW.put hg hput (elW_fn (b := w.heap.size) (k := 4) (v1 := .nilFunc) (v2 := .func (.func 207) #[] #[]) ⟨rfl, rfl⟩ wl4 (enters_of Tryz.func206 (by kernel_rfl) rfl) does4)); replace Hb := Lib.hid (below_putW Hb.out (Nat.le_refl _) hg); have hs4 : w.heap.size < w4.heap.size := (by rw [hsz]; exact hs); replace hs := hs4; clear hg hput hsz hs4) | (refine wpList_insert_at rfl (.tmp 1) (.const (.int .i64 5)) (.tmp 6) rfl Ho.out K (ek_int_inj .i64) Tryz.underlying215 5 (.agg #[.func (.func 208) #[] #[], .nilFunc, .nilFunc]) (keyOf_int_mk Tryz.underlying3 rfl) rfl rfl rfl ?_; intro w5 hg hsz hput; replace Ho := Lib.hid (OpsW.put hg hput (elW_fn (b := w.heap.size) (k := 5) (v1 := .nilFunc) (v2 := .nilFunc) ⟨rfl, rfl⟩ wl5 (enters_of Tryz.func208 (by kernel_rfl) rfl) does5)); replace Hb := Lib.hid (below_putW Hb.out (Nat.le_refl _) hg); have hs5 : w.heap.size < w5.heap.size := (by rw [hsz]; exact hs); replace hs := hs5; clear hg hput hsz hs5) | (refine wpList_insert_at rfl (.tmp 1) (.const (.int .i64 6)) (.tmp 7) rfl Ho.out K (ek_int_inj .i64) Tryz.underlying215 6 (.agg #[.func (.func 209) #[] #[], .nilFunc, .func (.func 211) #[] #[]]) (keyOf_int_mk Tryz.underlying3 rfl) rfl rfl rfl ?_; intro w6 hg hsz hput; replace Ho := Lib.hid (OpsW.put hg hput (elW_fn (b := w.heap.size) (k := 6) (v1 := .nilFunc) (v2 := .func (.func 211) #[] #[]) ⟨rfl, rfl⟩ wl6 (enters_of Tryz.func209 (by kernel_rfl) rfl) does6)); replace Hb := Lib.hid (below_putW Hb.out (Nat.le_refl _) hg); have hs6 : w.heap.size < w6.heap.size := (by rw [hsz]; exact hs); replace hs := hs6; clear hg hput hsz hs6) | (refine wpList_insert_at rfl (.tmp 1) (.const (.int .i64 7)) (.tmp 8) rfl Ho.out K (ek_int_inj .i64) Tryz.underlying215 7 (.agg #[.func (.func 212) #[] #[], .nilFunc, .nilFunc]) (keyOf_int_mk Tryz.underlying3 rfl) rfl rfl rfl ?_; intro w7 hg hsz hput; replace Ho := Lib.hid (OpsW.put hg hput (elW_fn (b := w.heap.size) (k := 7) (v1 := .nilFunc) (v2 := .nilFunc) ⟨rfl, rfl⟩ wl7 (enters_of Tryz.func212 (by kernel_rfl) rfl) does7)); replace Hb := Lib.hid (below_putW Hb.out (Nat.le_refl _) hg); have hs7 : w.heap.size < w7.heap.size := (by rw [hsz]; exact hs); replace hs := hs7; clear hg hput hsz hs7))
  refine (plain_any _ _).mono ?_
  rintro e v8 ⟨rfl, hB, hb, hs'⟩
  have hB' := hB
  replace Ho := Lib.hid (Ho.out.below hb)
  replace Hb := Lib.hid (Hb.out.trans (hb.mono Hb.out.size))
  have hne := hs
  replace hs : w.heap.size < v8.heap.size := Nat.lt_trans hs hs'
  clear hs'
  have He8 := Lib.hid (elW_plain (b := w.heap.size) (k := 8) (v1 := .nilFunc) (v2 := .nilFunc) ⟨rfl, rfl⟩ wl8 hB' hne (enters_of Tryz.func214 (by kernel_rfl) rfl) (fun a b => ((a.toNat &&& b.toNat : Nat) : Int)) small8_any B.do_8)
  clear hB hB' hb hne
  go_wp2_with (refine wpList_insert_at rfl (.tmp 1) (.const (.int .i64 8)) (.tmp 9) rfl Ho.out K (ek_int_inj .i64) Tryz.underlying215 8 (.agg #[.func (.func 247) #[] #[.pointer (some ⟨w7.heap.size, 0, none⟩)], .nilFunc, .nilFunc]) (keyOf_int_mk Tryz.underlying3 rfl) rfl rfl rfl ?_; intro w8 hg hsz hput; replace Ho := Lib.hid (OpsW.put hg hput (He8.out)); replace Hb := Lib.hid (below_putW Hb.out (Nat.le_refl _) hg); have hs8 : w.heap.size < w8.heap.size := (by rw [hsz]; exact hs); replace hs := hs8; clear hg hput hsz hs8)
  refine (plain_any _ _).mono ?_
  rintro e v9 ⟨rfl, hB, hb, hs'⟩
  have hB' := hB
  replace Ho := Lib.hid (Ho.out.below hb)
  replace Hb := Lib.hid (Hb.out.trans (hb.mono Hb.out.size))
  have hne := hs
  replace hs : w.heap.size < v9.heap.size := Nat.lt_trans hs hs'
  clear hs'
  have He9 := Lib.hid (elW_plain (b := w.heap.size) (k := 9) (v1 := .nilFunc) (v2 := .nilFunc) ⟨rfl, rfl⟩ wl9 hB' hne (enters_of Tryz.func215 (by kernel_rfl) rfl) (fun a b => ((a.toNat ||| b.toNat : Nat) : Int)) small9_any B.do_9)
  clear hB hB' hb hne
  go_wp2_with (refine wpList_insert_at rfl (.tmp 1) (.const (.int .i64 9)) (.tmp 10) rfl Ho.out K (ek_int_inj .i64) Tryz.underlying215 9 (.agg #[.func (.func 247) #[] #[.pointer (some ⟨w8.heap.size, 0, none⟩)], .nilFunc, .nilFunc]) (keyOf_int_mk Tryz.underlying3 rfl) rfl rfl rfl ?_; intro w9 hg hsz hput; replace Ho := Lib.hid (OpsW.put hg hput (He9.out)); replace Hb := Lib.hid (below_putW Hb.out (Nat.le_refl _) hg); have hs9 : w.heap.size < w9.heap.size := (by rw [hsz]; exact hs); replace hs := hs9; clear hg hput hsz hs9)
  refine (plain_any _ _).mono ?_
  rintro e v10 ⟨rfl, hB, hb, hs'⟩
  have hB' := hB
  replace Ho := Lib.hid (Ho.out.below hb)
  replace Hb := Lib.hid (Hb.out.trans (hb.mono Hb.out.size))
  have hne := hs
  replace hs : w.heap.size < v10.heap.size := Nat.lt_trans hs hs'
  clear hs'
  have He10 := Lib.hid (elW_plain (b := w.heap.size) (k := 10) (v1 := .nilFunc) (v2 := .nilFunc) ⟨rfl, rfl⟩ wl10 hB' hne (enters_of Tryz.func216 (by kernel_rfl) rfl) (fun a b => ((a.toNat ^^^ b.toNat : Nat) : Int)) small10_any B.do_10)
  clear hB hB' hb hne
  go_wp2_with (first | (refine wpList_insert_at rfl (.tmp 1) (.const (.int .i64 10)) (.tmp 11) rfl Ho.out K (ek_int_inj .i64) Tryz.underlying215 10 (.agg #[.func (.func 247) #[] #[.pointer (some ⟨w9.heap.size, 0, none⟩)], .nilFunc, .nilFunc]) (keyOf_int_mk Tryz.underlying3 rfl) rfl rfl rfl ?_; intro w10 hg hsz hput; replace Ho := Lib.hid (OpsW.put hg hput (He10.out)); replace Hb := Lib.hid (below_putW Hb.out (Nat.le_refl _) hg); have hs10 : w.heap.size < w10.heap.size := (by rw [hsz]; exact hs); replace hs := hs10; clear hg hput hsz hs10) | (refine wpList_insert_at rfl (.tmp 1) (.const (.int .i64 11)) (.tmp 12) rfl Ho.out K (ek_int_inj .i64) Tryz.underlying215 11 (.agg #[.func (.func 217) #[] #[], .func (.func 218) #[] #[], .nilFunc]) (keyOf_int_mk Tryz.underlying3 rfl) rfl rfl rfl ?_; intro w11 hg hsz hput; replace Ho := Lib.hid (OpsW.put hg hput (elW_fn (b := w.heap.size) (k := 11) (v1 := .func (.func 218) #[] #[]) (v2 := .nilFunc) ⟨rfl, rfl⟩ wl11 (enters_of Tryz.func217 (by kernel_rfl) rfl) does11)); replace Hb := Lib.hid (below_putW Hb.out (Nat.le_refl _) hg); have hs11 : w.heap.size < w11.heap.size := (by rw [hsz]; exact hs); replace hs := hs11; clear hg hput hsz hs11) | (refine wpList_insert_at rfl (.tmp 1) (.const (.int .i64 12)) (.tmp 13) rfl Ho.out K (ek_int_inj .i64) Tryz.underlying215 12 (.agg #[.func (.func 219) #[] #[], .nilFunc, .func (.func 220) #[] #[]]) (keyOf_int_mk Tryz.underlying3 rfl) rfl rfl rfl ?_; intro w12 hg hsz hput; replace Ho := Lib.hid (OpsW.put hg hput (elW_fn (b := w.heap.size) (k := 12) (v1 := .nilFunc) (v2 := .func (.func 220) #[] #[]) ⟨rfl, rfl⟩ wl12 (enters_of Tryz.func219 (by kernel_rfl) rfl) does12)); replace Hb := Lib.hid (below_putW Hb.out (Nat.le_refl _) hg); have hs12 : w.heap.size < w12.heap.size := (by rw [hsz]; exact hs); replace hs := hs12; clear hg hput hsz hs12) | (refine wpList_insert_at rfl (.tmp 1) (.const (.int .i64 13)) (.tmp 14) rfl Ho.out K (ek_int_inj .i64) Tryz.underlying215 13 (.agg #[.func (.func 221) #[] #[], .nilFunc, .func (.func 223) #[] #[]]) (keyOf_int_mk Tryz.underlying3 rfl) rfl rfl rfl ?_; intro w13 hg hsz hput; replace Ho := Lib.hid (OpsW.put hg hput (elW_fn (b := w.heap.size) (k := 13) (v1 := .nilFunc) (v2 := .func (.func 223) #[] #[]) ⟨rfl, rfl⟩ wl13 (enters_of Tryz.func221 (by kernel_rfl) rfl) does13)); replace Hb := Lib.hid (below_putW Hb.out (Nat.le_refl _) hg); have hs13 : w.heap.size < w13.heap.size := (by rw [hsz]; exact hs); replace hs := hs13; clear hg hput hsz hs13))
  go_ret
  exact ⟨_, rfl, Ho.out, ops_get, Hb.out⟩
end Go.Proofs.YtbiopedpceddeaaGreatDoor
end
section
namespace Go.Proofs.YtbiopedpceddeaaGreatDoor
open Go.RowKit Go.Maps Go.Shelf
set_option linter.unusedVariables false
set_option linter.unusedSimpArgs false

/-- the store of three cells into a block above which what is read lies -/
theorem elW_store {b : Nat} {w w' : World} {k : Int} {u : Value} {x : Unit} (h : ElW b w k u x) (hs : w.heap.size ≤ w'.heap.size) (hb : ∀ B0, b < B0 → B0 < w.heap.size → w'.heap[B0]? = w.heap[B0]?) : ElW b w' k u x := by
  obtain ⟨f, caps, v1, v2, own, hu, hv, hl, he, ho, hd⟩ := h
  exact ⟨f, caps, v1, v2, own, hu, hv, hl, he, fun B0 hB => ⟨Nat.lt_of_lt_of_le (ho B0 hB).1 hs, (ho B0 hB).2⟩, fun W hW => hd W fun B0 hB => (hW B0 hB).trans (hb B0 (ho B0 hB).2 (ho B0 hB).1)⟩
set_option maxRecDepth 100000 in
set_option maxHeartbeats 2000000 in
theorem askedW_any (op n a b : Int) (w : World) (hop : (Lit.int .i64 op).wf = true) : Calls Tryz.prog 106 #[.int .i64 op, .int .i64 n, .int .u32 a, .int .u32 b] w fun e w' =>
    ∃ u : Value, e = .returned (.tuple #[u, .bool (B.okOp op n a b)]) ∧ Below w.heap.size w w' ∧ w.heap.size < w'.heap.size ∧ ((B.okOp op n a b = true ∧ ∃ bm, ElW bm w' op u ()) ∨ B.okOp op n a b = false ∧ ∃ u0 u1 u2, u = .agg #[u0, u1, u2] ∧ u0.oneCell' = true ∧ u1.oneCell' = true ∧ u2.oneCell' = true) := by
  have HO := Lib.hid (fun W => operationsW_any W)
  have HF := Lib.hid (fun p W h0 h1 => fits_two n a b p W h0 h1)
  have K := int_keyed Tryz.underlying3
  have facts : ∀ w1 : World, Below (w.alloc (.cells #[.nilFunc, .nilFunc, .nilFunc] 164)).heap.size (w.alloc (.cells #[.nilFunc, .nilFunc, .nilFunc] 164)) w1 → 
      w1.cell? ⟨w.heap.size, 0, none⟩ = some .nilFunc ∧ w1.cell? ⟨w.heap.size, 1, none⟩ = some .nilFunc ∧ w1.cell? ⟨w.heap.size, 2, none⟩ = some .nilFunc ∧ (∀ j, w1.frozen? ⟨w.heap.size, j, none⟩ = false) ∧ w.heap.size < w1.heap.size := fun w1 hb =>
    ⟨(hb.cell (p := ⟨w.heap.size, 0, none⟩) (by simp)).trans (by rw [cell_of_row _ _ _ _ _ (0, 0) (heap_alloc_new w _)]; rfl), (hb.cell (p := ⟨w.heap.size, 1, none⟩) (by simp)).trans (by rw [cell_of_row _ _ _ _ _ (0, 0) (heap_alloc_new w _)]; rfl),
      (hb.cell (p := ⟨w.heap.size, 2, none⟩) (by simp)).trans (by rw [cell_of_row _ _ _ _ _ (0, 0) (heap_alloc_new w _)]; rfl), fun j => (hb.frozen (p := ⟨w.heap.size, j, none⟩) (by simp)).trans (by simp [go_sem]), by have := hb.size; simp at this; omega⟩
  have Hfacts := Lib.hid facts; clear facts
  by_cases hk : 1 ≤ op ∧ op ≤ 13
  · go_enter Tryz.func106, Tryz.ntmps106
    go_wp2_with fail
    refine (HO.out _).mono ?_
    rintro e w1 ⟨l, rfl, ho, hget, hb⟩
    obtain ⟨u, hl0, hlook, hu⟩ := MapAt.lookup ho K (ek_int_inj .i64) Tryz.underlying215 (zeroOp w1) (k := op) (keyOf_int_mk Tryz.underlying3 hop)
    rw [World.size_alloc] at hlook
    rw [hget op, if_pos hk] at hlook hu
    rw [show (some ()).isSome = true from rfl] at hlook
    have hel : ElW (w.alloc (.cells #[.nilFunc, .nilFunc, .nilFunc] 164)).heap.size w1 op u () := by
      rcases hu with ⟨h, _⟩ | ⟨_, _, h⟩
      · cases h
      · exact h
    have Hel := Lib.hid hel
    obtain ⟨f, caps, v1, v2, own, rfl, ⟨hv1, hv2⟩, hl1, hr0⟩ := hel
    have hst1 : ∀ W A m, (store A v1 m).run Tryz.prog W = stored Tryz.prog W A v1 m := fun W A m => run_store _ W A v1 m hv1
    have hst2 : ∀ W A m, (store A v2 m).run Tryz.prog W = stored Tryz.prog W A v2 m := fun W A m => run_store _ W A v2 m hv2
    have HV := Lib.hid (And.intro hv1 hv2)
    clear hv1 hv2 hu hget ho hl0 hr0 hl1
    obtain ⟨hc0, hc1, hc2, hf0, hsz⟩ := Hfacts.out _ hb
    have Hb := Lib.hid hb; clear hb
    have hret : ∀ (a' : Act) (W : World), a'.tmps.getD 8 undef = .pointer (some ⟨w.heap.size, 0, none⟩) → a'.tmps.getD 9 undef = .bool (B.isW n a && B.isW n b) → a'.defers = [] →
        W = (((((w1.setCell ⟨w.heap.size, 0, none⟩ (.func (.func f) #[] caps)).setCell ⟨w.heap.size, 1, none⟩ v1).setCell ⟨w.heap.size, 2, none⟩ v2).alloc (.cells #[.func (.func f) #[] caps, v1, v2] 164)).alloc (.cells #[.int .u32 a, .int .u32 b] 26)).drew →
        bodyPost Tryz.prog Tryz.f106 (fun e w' => ∃ u : Value, e = .returned (.tuple #[u, .bool (B.okOp op n a b)]) ∧ Below w.heap.size w w' ∧ w.heap.size < w'.heap.size ∧ ((B.okOp op n a b = true ∧ ∃ bm, ElW bm w' op u ()) ∨ B.okOp op n a b = false ∧ ∃ u0 u1 u2, u = .agg #[u0, u1, u2] ∧ u0.oneCell' = true ∧ u1.oneCell' = true ∧ u2.oneCell' = true)) Exit.ret a' W := by
      intro a' W h8 h9 hd hW
      subst hW
      rw [Array.getD_eq_getD_getElem?] at h8 h9
      have hbig : Below w.heap.size w (((((w1.setCell ⟨w.heap.size, 0, none⟩ (.func (.func f) #[] caps)).setCell ⟨w.heap.size, 1, none⟩ v1).setCell ⟨w.heap.size, 2, none⟩ v2).alloc (.cells #[.func (.func f) #[] caps, v1, v2] 164)).alloc (.cells #[.int .u32 a, .int .u32 b] 26)).drew :=
        (((((((Below.refl _ _).alloc (Nat.le_refl _) _).trans (Hb.out.mono (by simp))).setCell (p := ⟨w.heap.size, 0, none⟩) (Nat.le_refl _) _).setCell (p := ⟨w.heap.size, 1, none⟩) (Nat.le_refl _) _).setCell (p := ⟨w.heap.size, 2, none⟩) (Nat.le_refl _) _).alloc (by simp; omega) _).alloc (by simp; omega) _ |>.drew
      refine bodyPost_ret (v := .tuple #[.agg #[.func (.func f) #[] caps, v1, v2], .bool (B.isW n a && B.isW n b)]) ?_ hd ⟨.agg #[.func (.func f) #[] caps, v1, v2], ?_, hbig, by simp; omega, ?_⟩
      · simp [results, Tryz.results106, go_sem, h8, h9, hc0, hc1, hc2, hf0, hsz]
      · have e : B.okOp op n a b = (B.isW n a && B.isW n b) := by unfold B.okOp; simp [hk.1, hk.2]
        rw [e]
      · cases hok : B.okOp op n a b
        · exact .inr ⟨rfl, _, _, _, rfl, rfl, HV.out.1, HV.out.2⟩
        · refine .inl ⟨rfl, (w.alloc (.cells #[.nilFunc, .nilFunc, .nilFunc] 164)).heap.size, ?_⟩
          refine elW_store Hel.out (by simp; omega) fun B0 h1 h2 => ?_
          rw [World.size_alloc] at h1
          show (World.alloc (World.alloc (World.setCell (World.setCell (World.setCell w1 ⟨w.heap.size, 0, none⟩ _) ⟨w.heap.size, 1, none⟩ _) ⟨w.heap.size, 2, none⟩ _) _) _).heap[B0]? = w1.heap[B0]?
          rw [Below.heap_alloc _ _ _ (by simp; omega), Below.heap_alloc _ _ _ (by simp; omega), heap_set3 _ _ _ _ _ _ (by omega)]
    have Hret := Lib.hid hret; clear hret
    go_wp2_with fail
    go_region_with ((go_at_call 102; refine Calls.mono (HF.out _ _ ?_ ?_) ?_; go_simp; go_simp; rintro e w5 ⟨rfl, rfl⟩))
    all_goals go_wp2
    all_goals exact Hret.out _ _ rfl rfl rfl rfl
  · go_enter Tryz.func106, Tryz.ntmps106
    go_wp2_with fail
    refine (HO.out _).mono ?_
    rintro e w1 ⟨l, rfl, ho, hget, hb⟩
    obtain ⟨u, hl0, hlook, hu⟩ := MapAt.lookup ho K (ek_int_inj .i64) Tryz.underlying215 (zeroOp w1) (k := op) (keyOf_int_mk Tryz.underlying3 hop)
    rw [World.size_alloc] at hlook
    rw [hget op, if_neg hk] at hlook hu
    rw [show (none : Option Unit).isSome = false from rfl] at hlook
    obtain rfl : u = .agg #[.nilFunc, .nilFunc, .nilFunc] := by
      rcases hu with ⟨_, h⟩ | ⟨_, h, _⟩
      · exact h
      · cases h
    clear hu hget ho hl0
    obtain ⟨hc0, hc1, hc2, hf0, hsz⟩ := Hfacts.out _ hb
    have Hb := Lib.hid hb; clear hb
    have Hk := Lib.hid hk; clear hk
    go_wp2_with fail
    go_big_region
    all_goals go_wp2
    all_goals
      have hbig : Below w.heap.size w ((((w1.setCell ⟨w.heap.size, 0, none⟩ .nilFunc).setCell ⟨w.heap.size, 1, none⟩ .nilFunc).setCell ⟨w.heap.size, 2, none⟩ .nilFunc).alloc (.cells #[.nilFunc, .nilFunc, .nilFunc] 164)).drew :=
        (((((((Below.refl _ _).alloc (Nat.le_refl _) _).trans (Hb.out.mono (by simp))).setCell (p := ⟨w.heap.size, 0, none⟩) (Nat.le_refl _) _).setCell (p := ⟨w.heap.size, 1, none⟩) (Nat.le_refl _) _).setCell (p := ⟨w.heap.size, 2, none⟩) (Nat.le_refl _) _).alloc (by simp; omega) _).drew
      refine bodyPost_ret (v := .tuple #[.agg #[.nilFunc, .nilFunc, .nilFunc], .bool false]) ?_ rfl ⟨.agg #[.nilFunc, .nilFunc, .nilFunc], ?_, hbig, by simp; omega, ?_⟩
      · simp [results, Tryz.results106, go_sem, hc0, hc1, hc2, hf0, hsz]
      · have e : B.okOp op n a b = false := by
          have h1 : (decide (1 ≤ op) && decide (op ≤ 13)) = false := by
            have := Hk.out
            by_cases h : 1 ≤ op
            · have : ¬ op ≤ 13 := fun h' => this ⟨h, h'⟩
              simp [this]
            · simp [h]
          unfold B.okOp; rw [h1]; rfl
        rw [e]
      · refine .inr ⟨?_, _, _, _, rfl, rfl, rfl, rfl⟩
        have h1 : (decide (1 ≤ op) && decide (op ≤ 13)) = false := by
          have := Hk.out
          by_cases h : 1 ≤ op
          · have : ¬ op ≤ 13 := fun h' => this ⟨h, h'⟩
            simp [this]
          · simp [h]
        unfold B.okOp; rw [h1]; rfl
end Go.Proofs.YtbiopedpceddeaaGreatDoor
end
section
namespace Go.Proofs.YtbiopedpceddeaaGreatDoor
open Go.RowKit Go.Maps Go.Shelf
set_option linter.unusedVariables false
set_option linter.unusedSimpArgs false

theorem okOp_wds {op n a b : Int} (hok : B.okOp op n a b = true) (ha : 0 ≤ a) (hb : 0 ≤ b) : B.Wds n a b := by
  unfold B.okOp at hok
  simp only [Bool.and_eq_true, B.isW_iff, decide_eq_true_eq] at hok
  obtain ⟨⟨_, h1, h2, h3⟩, _, _, h4⟩ := hok
  exact ⟨h1, h2, ha, h3, hb, h4⟩
/-- what is asked for: a word that an operation makes -/
def doEnd (op n a b : Int) : Value := .tuple #[.int .u32 ((B.do_ op n a b).getD 0), .bool (B.has op n a b), .int .i64 0]

set_option maxRecDepth 100000 in
set_option maxHeartbeats 2000000 in
theorem pDo_ok (op n a b : Int) (w : World) (hop : (Lit.int .i64 op).wf = true) (ha : 0 ≤ a) (hb : 0 ≤ b) (hok : B.okOp op n a b = true) : Calls Tryz.prog 107 #[.int .i64 op, .int .i64 n, .int .u32 a, .int .u32 b] w fun e w' =>
    e = .returned (doEnd op n a b) ∧ Below w.heap.size w w' := by
  have HA := Lib.hid (askedW_any op n a b w hop)
  have hw := okOp_wds hok ha hb
  rw [hok] at HA
  have Hw := Lib.hid hw; clear hw
  clear hok
  obtain ⟨dd, hdd⟩ : ∃ dd, doEnd op n a b = dd := ⟨_, rfl⟩
  rw [hdd]
  have Hdd := Lib.hid hdd
  clear hdd
  cases hx : B.do_ op n a b with
  | none =>
    have hh : B.has op n a b = false := by unfold B.has; rw [hx]; rfl
    have Hd2 := Lib.hid (show dd = .tuple #[.int .u32 0, .bool false, .int .i64 0] from by rw [← Hdd.out, doEnd, hh, hx]; rfl)
    have Hh := Lib.hid hh
    clear hx hh
    go_enter Tryz.func107, Tryz.ntmps107
    go_wp2_with fail
    refine HA.out.mono ?_
    rintro e w1 ⟨u, rfl, hbw, hsz, hcase⟩
    obtain ⟨bm, hel⟩ : ∃ bm, ElW bm w1 op u () := by
      rcases hcase with ⟨_, h⟩ | ⟨h, _⟩
      · exact h
      · cases h
    obtain ⟨f, caps, v1, v2, own, rfl, ⟨hv1, hv2⟩, hl, eg, ho, hd⟩ := hel
    have hst1 : ∀ W A m, (store A v1 m).run Tryz.prog W = stored Tryz.prog W A v1 m := fun W A m => run_store _ W A v1 m hv1
    have hst2 : ∀ W A m, (store A v2 m).run Tryz.prog W = stored Tryz.prog W A v2 m := fun W A m => run_store _ W A v2 m hv2
    have con := hd (w1.alloc (.cells #[.func (.func f) #[] caps, v1, v2] 164)) (fun B0 hB => Below.heap_alloc _ _ _ (ho B0 hB).1) n a b Hw.out
    rw [Hh.out] at con
    have Hcon := Lib.hid con; clear con
    clear hv1 hv2 hcase ho hd hl
    go_wp2_with fail
    refine Hcon.out.mono ?_
    rintro e w2 ⟨rfl, hdr⟩
    go_wp2
    go_ret3
    exact ⟨by rw [Hd2.out]; rfl, (hbw.alloc hbw.size _).dr hdr⟩
  | some r =>
    have hh : B.has op n a b = true := by unfold B.has; rw [hx]; rfl
    have hf : B.full op n a b = r := by unfold B.full; rw [hx]; rfl
    have Hd2 := Lib.hid (show dd = .tuple #[.int .u32 r, .bool true, .int .i64 0] from by rw [← Hdd.out, doEnd, hh, hx]; rfl)
    have Hh := Lib.hid hh
    have Hf := Lib.hid hf
    clear hx hh hf
    go_enter Tryz.func107, Tryz.ntmps107
    go_wp2_with fail
    refine HA.out.mono ?_
    rintro e w1 ⟨u, rfl, hbw, hsz, hcase⟩
    obtain ⟨bm, hel⟩ : ∃ bm, ElW bm w1 op u () := by
      rcases hcase with ⟨_, h⟩ | ⟨h, _⟩
      · exact h
      · cases h
    obtain ⟨f, caps, v1, v2, own, rfl, ⟨hv1, hv2⟩, hl, eg, ho, hd⟩ := hel
    have hst1 : ∀ W A m, (store A v1 m).run Tryz.prog W = stored Tryz.prog W A v1 m := fun W A m => run_store _ W A v1 m hv1
    have hst2 : ∀ W A m, (store A v2 m).run Tryz.prog W = stored Tryz.prog W A v2 m := fun W A m => run_store _ W A v2 m hv2
    have con := hd (w1.alloc (.cells #[.func (.func f) #[] caps, v1, v2] 164)) (fun B0 hB => Below.heap_alloc _ _ _ (ho B0 hB).1) n a b Hw.out
    rw [Hh.out, Hf.out] at con
    have Hcon := Lib.hid con; clear con
    clear hv1 hv2 hcase ho hd hl
    go_wp2_with fail
    refine Hcon.out.mono ?_
    rintro e w2 ⟨rfl, hdr⟩
    go_wp2
    go_ret3
    exact ⟨by rw [Hd2.out]; rfl, (hbw.alloc hbw.size _).dr hdr⟩
end Go.Proofs.YtbiopedpceddeaaGreatDoor
end
