/- Walks of the program's layer of bits: the table of operations, Total. -/
import Derived.Test.YtableoihgkmbjaaB4
namespace Go.Proofs.Ytableoihgkmbjaa
open Go.RowKit Go.Maps Go.Shelf
set_option linter.unusedVariables false

def OpsAt (b : Nat) (w : World) (l : List (Int × Unit)) : Prop := MapAt Try.prog 3 (Value.int .i64) (ElB b) w b l

theorem OpsAt.below {b : Nat} {w w' : World} {l : List (Int × Unit)} (h : OpsAt b w l) (hb : Below w.heap.size w w') : OpsAt b w' l :=
  MapAt.keep h (hb.block b h.lt) fun k u a hu => hu.below hb
theorem OpsAt.put {b : Nat} {w w' : World} {l : List (Int × Unit)} {k : Int} {val : Value} (hg : w.grownBy w' (some b))
    (hput : ∀ (R' : World → Int → Value → Unit → Prop) (a : Unit), (∀ k' u a', k' ≠ k → ElB b w k' u a' → R' w' k' u a') → R' w' k val a → MapAt Try.prog 3 (Value.int .i64) R' w' b (AL.put l k a)) (hv : ElB b w k val ()) : OpsAt b w' (AL.put l k ()) :=
  hput (ElB b) () (fun _ _ _ _ h => h.keep hg) (hv.keep hg)
theorem OpsAt.made (w : World) : OpsAt w.heap.size (w.alloc (.map #[] 0)) [] := MapAt.made w
theorem below_put {b : Nat} {w0 w w' : World} (hb : Below w0.heap.size w0 w) (hB : w0.heap.size ≤ b) (hg : w.grownBy w' (some b)) : Below w0.heap.size w0 w' := hb.grown hg hb.size (fun k e => by injection e with e; omega)

theorem ops_get (k : Int) : AL.get (AL.put (AL.put (AL.put (AL.put (AL.put (AL.put (AL.put (AL.put (AL.put (AL.put (AL.put (AL.put (AL.put [] 1 ()) 2 ()) 3 ()) 4 ()) 5 ()) 6 ()) 7 ()) 8 ()) 9 ()) 10 ()) 11 ()) 12 ()) 13 ()) k = if 1 ≤ k ∧ k ≤ 13 then some () else none := by
  have e : (AL.put (AL.put (AL.put (AL.put (AL.put (AL.put (AL.put (AL.put (AL.put (AL.put (AL.put (AL.put (AL.put ([] : List (Int × Unit)) 1 ()) 2 ()) 3 ()) 4 ()) 5 ()) 6 ()) 7 ()) 8 ()) 9 ()) 10 ()) 11 ()) 12 ()) 13 ()) = [(1, ()), (2, ()), (3, ()), (4, ()), (5, ()), (6, ()), (7, ()), (8, ()), (9, ()), (10, ()), (11, ()), (12, ()), (13, ())] := by decide
  rw [e]
  by_cases h : 1 ≤ k ∧ k ≤ 13
  · rw [if_pos h]
    rcases B.op_cases h.1 h.2 with rfl | rfl | rfl | rfl | rfl | rfl | rfl | rfl | rfl | rfl | rfl | rfl | rfl <;> rfl
  · rw [if_neg h]
    refine AL.get_none fun p hp e => h ?_
    simp only [List.mem_cons, List.not_mem_nil, or_false] at hp
    rcases hp with rfl | rfl | rfl | rfl | rfl | rfl | rfl | rfl | rfl | rfl | rfl | rfl | rfl <;> (subst e; decide)

set_option maxRecDepth 100000 in
set_option maxHeartbeats 4000000 in
theorem operations_any (w : World) : Calls Try.prog 65 #[] w fun e w' => ∃ l, e = .returned (.map (some w.heap.size)) ∧ OpsAt w.heap.size w' l ∧ (∀ k, AL.get l k = if 1 ≤ k ∧ k ≤ 13 then some () else none) ∧ Below w.heap.size w w' := by
  have hmm := @run_makeMap Try.prog
  have K := int_keyed Try.underlying3
  go_enter Try.func65, Try.ntmps65
  go_wp2_with fail
  have ho0 := OpsAt.made w
  have hb0 : Below w.heap.size w (w.alloc (.map #[] 0)) := (Below.refl _ _).alloc (Nat.le_refl _) _
  refine (wraps_any _ _ _).mono ?_
  rintro e v1 ⟨rfl, hB, hb, hs'⟩
  have hB' := hB
  rw [World.size_alloc] at hB'
  have Ho := Lib.hid (ho0.below hb)
  have Hb := Lib.hid (hb0.trans (hb.mono hb0.size))
  have hs : w.heap.size < v1.heap.size := by simp at hs'; omega
  clear ho0 hb0 hs'
  have He1 := Lib.hid (elB_wraps (b := w.heap.size) (k := 1) (v1 := .func (.func 69) #[] #[]) (v2 := .nilFunc) ⟨rfl, rfl⟩ hB' (by omega) (enters_of Try.func70 (by kernel_rfl) rfl) (fun a b => a + b) small1_any B.do_1)
  clear hB hB' hb
  go_wp2_with (refine wpList_insert_at rfl (.tmp 1) (.const (.int .i64 1)) (.tmp 2) rfl Ho.out K (ek_int_inj .i64) Try.underlying107 1 (.agg #[.func (.func 94) #[] #[.pointer (some ⟨w.heap.size + 1, 0, none⟩)], .func (.func 69) #[] #[], .nilFunc]) (keyOf_int_mk Try.underlying3 rfl) rfl rfl rfl ?_; intro w1 hg hsz hput; replace Ho := Lib.hid (OpsAt.put hg hput (He1.out)); replace Hb := Lib.hid (below_put Hb.out (Nat.le_refl _) hg); have hs1 : w.heap.size < w1.heap.size := (by rw [hsz]; exact hs); replace hs := hs1; clear hg hput hsz hs1)
  refine (wraps_any _ _ _).mono ?_
  rintro e v2 ⟨rfl, hB, hb, hs'⟩
  have hB' := hB
  replace Ho := Lib.hid (Ho.out.below hb)
  replace Hb := Lib.hid (Hb.out.trans (hb.mono Hb.out.size))
  have hne := hs
  replace hs : w.heap.size < v2.heap.size := Nat.lt_trans hs hs'
  clear hs'
  have He2 := Lib.hid (elB_wraps (b := w.heap.size) (k := 2) (v1 := .func (.func 71) #[] #[]) (v2 := .nilFunc) ⟨rfl, rfl⟩ hB' hne (enters_of Try.func72 (by kernel_rfl) rfl) (fun a b => a - b) small2_any B.do_2)
  clear hB hB' hb hne
  go_wp2_with (refine wpList_insert_at rfl (.tmp 1) (.const (.int .i64 2)) (.tmp 3) rfl Ho.out K (ek_int_inj .i64) Try.underlying107 2 (.agg #[.func (.func 94) #[] #[.pointer (some ⟨w1.heap.size, 0, none⟩)], .func (.func 71) #[] #[], .nilFunc]) (keyOf_int_mk Try.underlying3 rfl) rfl rfl rfl ?_; intro w2 hg hsz hput; replace Ho := Lib.hid (OpsAt.put hg hput (He2.out)); replace Hb := Lib.hid (below_put Hb.out (Nat.le_refl _) hg); have hs2 : w.heap.size < w2.heap.size := (by rw [hsz]; exact hs); replace hs := hs2; clear hg hput hsz hs2)
  refine (wraps_any _ _ _).mono ?_
  rintro e v3 ⟨rfl, hB, hb, hs'⟩
  have hB' := hB
  replace Ho := Lib.hid (Ho.out.below hb)
  replace Hb := Lib.hid (Hb.out.trans (hb.mono Hb.out.size))
  have hne := hs
  replace hs : w.heap.size < v3.heap.size := Nat.lt_trans hs hs'
  clear hs'
  have He3 := Lib.hid (elB_wraps (b := w.heap.size) (k := 3) (v1 := .func (.func 73) #[] #[]) (v2 := .nilFunc) ⟨rfl, rfl⟩ hB' hne (enters_of Try.func74 (by kernel_rfl) rfl) (fun a b => a * b) small3_any B.do_3)
  clear hB hB' hb hne
  go_wp2_with (first | (refine wpList_insert_at rfl (.tmp 1) (.const (.int .i64 3)) (.tmp 4) rfl Ho.out K (ek_int_inj .i64) Try.underlying107 3 (.agg #[.func (.func 94) #[] #[.pointer (some ⟨w2.heap.size, 0, none⟩)], .func (.func 73) #[] #[], .nilFunc]) (keyOf_int_mk Try.underlying3 rfl) rfl rfl rfl ?_; intro w3 hg hsz hput; replace Ho := Lib.hid (OpsAt.put hg hput (He3.out)); replace Hb := Lib.hid (below_put Hb.out (Nat.le_refl _) hg); have hs3 : w.heap.size < w3.heap.size := (by rw [hsz]; exact hs); replace hs := hs3; clear hg hput hsz hs3) | (refine wpList_insert_at rfl (.tmp 1) (.const (.int .i64 4)) (.tmp 5) rfl Ho.out K (ek_int_inj .i64) Try.underlying107 4 (.agg #[.func (.func 75) #[] #[], .nilFunc, .func (.func 76) #[] #[]]) (keyOf_int_mk Try.underlying3 rfl) rfl rfl rfl ?_; intro w4 hg hsz hput; replace Ho := Lib.hid (OpsAt.put hg hput (elB_fn (b := w.heap.size) (k := 4) (v1 := .nilFunc) (v2 := .func (.func 76) #[] #[]) ⟨rfl, rfl⟩ (enters_of Try.func75 (by kernel_rfl) rfl) does4)); replace Hb := Lib.hid (below_put Hb.out (Nat.le_refl _) hg); have hs4 : w.heap.size < w4.heap.size := (by rw [hsz]; exact hs); replace hs := hs4; clear hg hput hsz hs4) | (refine wpList_insert_at rfl (.tmp 1) (.const (.int .i64 5)) (.tmp 6) rfl Ho.out K (ek_int_inj .i64) Try.underlying107 5 (.agg #[.func (.func 77) #[] #[], .nilFunc, .nilFunc]) (keyOf_int_mk Try.underlying3 rfl) rfl rfl rfl ?_; intro w5 hg hsz hput; replace Ho := Lib.hid (OpsAt.put hg hput (elB_fn (b := w.heap.size) (k := 5) (v1 := .nilFunc) (v2 := .nilFunc) ⟨rfl, rfl⟩ (enters_of Try.func77 (by kernel_rfl) rfl) does5)); replace Hb := Lib.hid (below_put Hb.out (Nat.le_refl _) hg); have hs5 : w.heap.size < w5.heap.size := (by rw [hsz]; exact hs); replace hs := hs5; clear hg hput hsz hs5) | (refine wpList_insert_at rfl (.tmp 1) (.const (.int .i64 6)) (.tmp 7) rfl Ho.out K (ek_int_inj .i64) Try.underlying107 6 (.agg #[.func (.func 78) #[] #[], .nilFunc, .func (.func 81) #[] #[]]) (keyOf_int_mk Try.underlying3 rfl) rfl rfl rfl ?_; intro w6 hg hsz hput; replace Ho := Lib.hid (OpsAt.put hg hput (elB_fn (b := w.heap.size) (k := 6) (v1 := .nilFunc) (v2 := .func (.func 81) #[] #[]) ⟨rfl, rfl⟩ (enters_of Try.func78 (by kernel_rfl) rfl) does6)); replace Hb := Lib.hid (below_put Hb.out (Nat.le_refl _) hg); have hs6 : w.heap.size < w6.heap.size := (by rw [hsz]; exact hs); replace hs := hs6; clear hg hput hsz hs6) | (refine wpList_insert_at rfl (.tmp 1) (.const (.int .i64 7)) (.tmp 8) rfl Ho.out K (ek_int_inj .i64) Try.underlying107 7 (.agg #[.func (.func 82) #[] #[], .nilFunc, .nilFunc]) (keyOf_int_mk Try.underlying3 rfl) rfl rfl rfl ?_; intro w7 hg hsz hput; replace Ho := Lib.hid (OpsAt.put hg hput (elB_fn (b := w.heap.size) (k := 7) (v1 := .nilFunc) (v2 := .nilFunc) ⟨rfl, rfl⟩ (enters_of Try.func82 (by kernel_rfl) rfl) does7)); replace Hb := Lib.hid (below_put Hb.out (Nat.le_refl _) hg); have hs7 : w.heap.size < w7.heap.size := (by rw [hsz]; exact hs); replace hs := hs7; clear hg hput hsz hs7))
  refine (plain_any _ _).mono ?_
  rintro e v8 ⟨rfl, hB, hb, hs'⟩
  have hB' := hB
  replace Ho := Lib.hid (Ho.out.below hb)
  replace Hb := Lib.hid (Hb.out.trans (hb.mono Hb.out.size))
  have hne := hs
  replace hs : w.heap.size < v8.heap.size := Nat.lt_trans hs hs'
  clear hs'
  have He8 := Lib.hid (elB_plain (b := w.heap.size) (k := 8) (v1 := .nilFunc) (v2 := .nilFunc) ⟨rfl, rfl⟩ hB' hne (enters_of Try.func84 (by kernel_rfl) rfl) (fun a b => ((a.toNat &&& b.toNat : Nat) : Int)) small8_any B.do_8)
  clear hB hB' hb hne
  go_wp2_with (refine wpList_insert_at rfl (.tmp 1) (.const (.int .i64 8)) (.tmp 9) rfl Ho.out K (ek_int_inj .i64) Try.underlying107 8 (.agg #[.func (.func 95) #[] #[.pointer (some ⟨w7.heap.size, 0, none⟩)], .nilFunc, .nilFunc]) (keyOf_int_mk Try.underlying3 rfl) rfl rfl rfl ?_; intro w8 hg hsz hput; replace Ho := Lib.hid (OpsAt.put hg hput (He8.out)); replace Hb := Lib.hid (below_put Hb.out (Nat.le_refl _) hg); have hs8 : w.heap.size < w8.heap.size := (by rw [hsz]; exact hs); replace hs := hs8; clear hg hput hsz hs8)
  refine (plain_any _ _).mono ?_
  rintro e v9 ⟨rfl, hB, hb, hs'⟩
  have hB' := hB
  replace Ho := Lib.hid (Ho.out.below hb)
  replace Hb := Lib.hid (Hb.out.trans (hb.mono Hb.out.size))
  have hne := hs
  replace hs : w.heap.size < v9.heap.size := Nat.lt_trans hs hs'
  clear hs'
  have He9 := Lib.hid (elB_plain (b := w.heap.size) (k := 9) (v1 := .nilFunc) (v2 := .nilFunc) ⟨rfl, rfl⟩ hB' hne (enters_of Try.func85 (by kernel_rfl) rfl) (fun a b => ((a.toNat ||| b.toNat : Nat) : Int)) small9_any B.do_9)
  clear hB hB' hb hne
  go_wp2_with (refine wpList_insert_at rfl (.tmp 1) (.const (.int .i64 9)) (.tmp 10) rfl Ho.out K (ek_int_inj .i64) Try.underlying107 9 (.agg #[.func (.func 95) #[] #[.pointer (some ⟨w8.heap.size, 0, none⟩)], .nilFunc, .nilFunc]) (keyOf_int_mk Try.underlying3 rfl) rfl rfl rfl ?_; intro w9 hg hsz hput; replace Ho := Lib.hid (OpsAt.put hg hput (He9.out)); replace Hb := Lib.hid (below_put Hb.out (Nat.le_refl _) hg); have hs9 : w.heap.size < w9.heap.size := (by rw [hsz]; exact hs); replace hs := hs9; clear hg hput hsz hs9)
  refine (plain_any _ _).mono ?_
  rintro e v10 ⟨rfl, hB, hb, hs'⟩
  have hB' := hB
  replace Ho := Lib.hid (Ho.out.below hb)
  replace Hb := Lib.hid (Hb.out.trans (hb.mono Hb.out.size))
  have hne := hs
  replace hs : w.heap.size < v10.heap.size := Nat.lt_trans hs hs'
  clear hs'
  have He10 := Lib.hid (elB_plain (b := w.heap.size) (k := 10) (v1 := .nilFunc) (v2 := .nilFunc) ⟨rfl, rfl⟩ hB' hne (enters_of Try.func86 (by kernel_rfl) rfl) (fun a b => ((a.toNat ^^^ b.toNat : Nat) : Int)) small10_any B.do_10)
  clear hB hB' hb hne
  go_wp2_with (first | (refine wpList_insert_at rfl (.tmp 1) (.const (.int .i64 10)) (.tmp 11) rfl Ho.out K (ek_int_inj .i64) Try.underlying107 10 (.agg #[.func (.func 95) #[] #[.pointer (some ⟨w9.heap.size, 0, none⟩)], .nilFunc, .nilFunc]) (keyOf_int_mk Try.underlying3 rfl) rfl rfl rfl ?_; intro w10 hg hsz hput; replace Ho := Lib.hid (OpsAt.put hg hput (He10.out)); replace Hb := Lib.hid (below_put Hb.out (Nat.le_refl _) hg); have hs10 : w.heap.size < w10.heap.size := (by rw [hsz]; exact hs); replace hs := hs10; clear hg hput hsz hs10) | (refine wpList_insert_at rfl (.tmp 1) (.const (.int .i64 11)) (.tmp 12) rfl Ho.out K (ek_int_inj .i64) Try.underlying107 11 (.agg #[.func (.func 87) #[] #[], .func (.func 88) #[] #[], .nilFunc]) (keyOf_int_mk Try.underlying3 rfl) rfl rfl rfl ?_; intro w11 hg hsz hput; replace Ho := Lib.hid (OpsAt.put hg hput (elB_fn (b := w.heap.size) (k := 11) (v1 := .func (.func 88) #[] #[]) (v2 := .nilFunc) ⟨rfl, rfl⟩ (enters_of Try.func87 (by kernel_rfl) rfl) does11)); replace Hb := Lib.hid (below_put Hb.out (Nat.le_refl _) hg); have hs11 : w.heap.size < w11.heap.size := (by rw [hsz]; exact hs); replace hs := hs11; clear hg hput hsz hs11) | (refine wpList_insert_at rfl (.tmp 1) (.const (.int .i64 12)) (.tmp 13) rfl Ho.out K (ek_int_inj .i64) Try.underlying107 12 (.agg #[.func (.func 89) #[] #[], .nilFunc, .func (.func 90) #[] #[]]) (keyOf_int_mk Try.underlying3 rfl) rfl rfl rfl ?_; intro w12 hg hsz hput; replace Ho := Lib.hid (OpsAt.put hg hput (elB_fn (b := w.heap.size) (k := 12) (v1 := .nilFunc) (v2 := .func (.func 90) #[] #[]) ⟨rfl, rfl⟩ (enters_of Try.func89 (by kernel_rfl) rfl) does12)); replace Hb := Lib.hid (below_put Hb.out (Nat.le_refl _) hg); have hs12 : w.heap.size < w12.heap.size := (by rw [hsz]; exact hs); replace hs := hs12; clear hg hput hsz hs12) | (refine wpList_insert_at rfl (.tmp 1) (.const (.int .i64 13)) (.tmp 14) rfl Ho.out K (ek_int_inj .i64) Try.underlying107 13 (.agg #[.func (.func 91) #[] #[], .nilFunc, .func (.func 93) #[] #[]]) (keyOf_int_mk Try.underlying3 rfl) rfl rfl rfl ?_; intro w13 hg hsz hput; replace Ho := Lib.hid (OpsAt.put hg hput (elB_fn (b := w.heap.size) (k := 13) (v1 := .nilFunc) (v2 := .func (.func 93) #[] #[]) ⟨rfl, rfl⟩ (enters_of Try.func91 (by kernel_rfl) rfl) does13)); replace Hb := Lib.hid (below_put Hb.out (Nat.le_refl _) hg); have hs13 : w.heap.size < w13.heap.size := (by rw [hsz]; exact hs); replace hs := hs13; clear hg hput hsz hs13))
  go_ret
  exact ⟨_, rfl, Ho.out, ops_get, Hb.out⟩
end Go.Proofs.Ytableoihgkmbjaa
