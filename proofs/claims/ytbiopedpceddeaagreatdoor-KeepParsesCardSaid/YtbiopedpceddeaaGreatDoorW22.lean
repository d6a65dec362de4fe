/- Merged: C4KA0b, C4KE0, C4PK3, C4PK7, C4KA1, C4KA2. -/
import Derived.Test.YtbiopedpceddeaaGreatDoorW20
import Derived.Lib.ItoaMem
import Derived.Test.YtbiopedpceddeaaGreatDoorW21
import Derived.Test.YtbiopedpceddeaaGreatDoorW04
import Derived.Deep.DeepCutAuto
import Derived.Test.YtbiopedpceddeaaGreatDoorW18
import Derived.Test.YtbiopedpceddeaaGreatDoorW03
import Derived.Test.YtbiopedpceddeaaGreatDoorW11
set_option linter.unusedVariables false
set_option linter.unusedSimpArgs false
section
namespace Go.Proofs.YtbiopedpceddeaaGreatDoor
open Go.RowKit Go.Maps Go.Sort
set_option linter.unusedVariables false
set_option linter.unusedSimpArgs false
namespace KT
theorem below_putRow {α : Type} [Inhabited α] {enc : α → Value} {W w1 : World} (hb : Below W.heap.size W w1) {blk off : Nat} (d : Array α) (h : W.heap.size ≤ blk) (k : Nat) : Below W.heap.size W ((putRow enc w1 blk off d).drewN k) := by
  refine hb.grown (row := some blk) ⟨rfl, rfl, rfl, by simp [putRow, mapBlock], fun i hi hne => ?_⟩ hb.size (fun g hg => by cases hg; exact h)
  have : blk ≠ i := fun e => hne (by rw [e])
  simp [putRow, mapBlock, Array.getElem?_modify, this]

set_option maxRecDepth 100000 in
theorem kFormatUintI_any {u : Nat} (hu : u < 18446744073709551616) {W : World} (hT : Tens W) :
    Calls Tryz.prog 179 #[.int .u64 (u : Int), .int .i64 10] W fun e w' => e = .returned (.string ⟨(Lib.decDigits u).toArray⟩) ∧ Below W.heap.size W w' := by
  by_cases hs : u < 100
  · have q : decide ((u : Int) < 100) = true := by simp; omega
    go_enter Tryz.func179, Tryz.ntmps179
    go_wp2_with (go_at_call 233; refine (Tryz.internal_strconv_small u hs _).mono ?_; rintro e w' ⟨rfl, rfl⟩)
    go_ret
    exact ⟨rfl, Below.refl _ _⟩
  · have q : decide ((u : Int) < 100) = false := by simp; omega
    have hu1 : 1 ≤ u := by omega
    have hnd20 : Lib.nDigits u ≤ 20 := by have := Lib.numDigits_eq u hu1 hu; split at this <;> omega
    obtain ⟨W1, hW1⟩ : ∃ W1, W1 = W.alloc (.cells #[.int .u8 0, .int .u8 0, .int .u8 0, .int .u8 0, .int .u8 0, .int .u8 0, .int .u8 0, .int .u8 0, .int .u8 0, .int .u8 0, .int .u8 0, .int .u8 0, .int .u8 0, .int .u8 0, .int .u8 0, .int .u8 0, .int .u8 0, .int .u8 0, .int .u8 0, .int .u8 0, .int .u8 0, .int .u8 0, .int .u8 0, .int .u8 0] 254) := ⟨_, rfl⟩
    have hb1 : Below W.heap.size W W1 := by rw [hW1]; exact (Below.refl _ _).alloc (Nat.le_refl _) _
    have HT1 := Lib.hid (show Lib.TabIs Tryz.prog W1 "internal/strconv.uint64pow10" .u64 Lib.pow10Tab from hT.below hb1)
    go_enter Tryz.func179, Tryz.ntmps179
    go_wp2_with fail
    rw [← hW1]
    (with_reducible refine (Tryz.internal_strconv_numDigits u hu1 hu _ HT1.out).mono ?_)
    rintro e w' ⟨rfl, rfl⟩
    have hW : w' = W.alloc (.cells Lib.zeros24 254) := hW1
    have hH : Holds (fun (b : UInt8) => Value.int .u8 (b.toNat : Int)) w' W.heap.size 0 (Array.replicate (Lib.nDigits u) (0 : UInt8)) := fun j hj => by
      have hj' : j < Lib.nDigits u := by simpa using hj
      rw [hW]
      refine ⟨?_, World.frozen?_alloc_new _ _ _ _⟩
      rw [World.cell?_alloc_new, Lib.zeros24_at _ (by omega), getElem!_pos _ j hj]
      simp
    have hal : Tryz.prog.arrayLen 254 = 24 := by kernel_rfl
    have hsl : ∀ X, (Instr.sliceAt 254 (.pointer (some ⟨W.heap.size, 0, none⟩)) none (some (.int .i64 (Lib.nDigits u : Int))) none).run Tryz.prog X = .ok (.slice (some ⟨W.heap.size, 0, none⟩) (Lib.nDigits u) 24) X := fun X => by
      rw [run_sliceAt_array_h X 254 ⟨W.heap.size, 0, none⟩ (by simp [Program.arrayLen, Program.elem, Tryz.underlying254]) .i64 (Lib.nDigits u : Int) (by omega) (by rw [hal]; omega)]
      go_simp
    have hfmt := Tryz.internal_strconv_formatBase10 W.heap.size 0 24 u (Array.replicate (Lib.nDigits u) 0) w' hH (by rw [Array.size_replicate]; exact Lib.lt_pow_nDigits u) hu (by rw [Array.size_replicate]; omega)
    rw [Array.size_replicate] at hfmt
    have Hfmt := Lib.hid hfmt
    have HH := Lib.hid hH
    clear hW1 hW hfmt hH
    go_wp2_with fail
    (with_reducible refine Hfmt.out.mono ?_)
    rintro e w2 ⟨rfl, k, v', dk, rfl, hF⟩
    have hcv : (convert 117 9 (.slice (some ⟨W.heap.size, 0, none⟩) (Lib.nDigits u) 24)).run Tryz.prog ((putRow (fun (b : UInt8) => Value.int .u8 (b.toNat : Int)) w' W.heap.size 0 dk).drewN k) = .ok (.string ⟨(Lib.decDigits u).toArray⟩) ((putRow (fun (b : UInt8) => Value.int .u8 (b.toNat : Int)) w' W.heap.size 0 dk).drewN k) := by
      have h := run_convert_bytes_back (P := Tryz.prog) ((putRow (fun (b : UInt8) => Value.int .u8 (b.toNat : Int)) w' W.heap.size 0 dk).drewN k) 117 9 5 ⟨W.heap.size, 0, none⟩ 24 (Lib.decDigits u) Tryz.underlying117 Tryz.underlying5 Tryz.underlying9 (fun j hj => by
        rw [Lib.add_plain, Lib.row_is_numeral hF j hj, World.cell?_drewN]
        exact cell?_putRow (fun (b : UInt8) => Value.int .u8 (b.toNat : Int)) _ W.heap.size 0 _ dk HH.out (by rw [hF.size, Array.size_replicate]) j (by rw [hF.size]; rw [Lib.decDigits_length] at hj; exact hj))
      rw [Lib.decDigits_length] at h
      exact h
    have Hbe := Lib.hid (below_putRow (enc := fun (b : UInt8) => Value.int .u8 (b.toNat : Int)) (blk := W.heap.size) (off := 0) hb1 dk (Nat.le_refl _) k)
    clear hF
    generalize (putRow (fun (b : UInt8) => Value.int .u8 (b.toNat : Int)) w' W.heap.size 0 dk).drewN k = w3 at *
    go_wp2
    go_ret
    exact ⟨rfl, Hbe.out⟩
theorem kFormatUint_any {u : Nat} (hu : u < 18446744073709551616) {W : World} (hT : Tens W) :
    Calls Tryz.prog 134 #[.int .u64 (u : Int), .int .i64 10] W fun e w' => e = .returned (.string ⟨(Lib.decDigits u).toArray⟩) ∧ Below W.heap.size W w' := by
  have H := Lib.hid (kFormatUintI_any hu hT)
  go_enter Tryz.func134, Tryz.ntmps134
  go_wp2_with fail
  (with_reducible refine H.out.mono ?_)
  rintro e w2 ⟨rfl, hb⟩
  have Hb := Lib.hid hb
  clear hb
  go_wp2
  go_ret
  exact ⟨rfl, Hb.out⟩
end KT
end Go.Proofs.YtbiopedpceddeaaGreatDoor
end
section
namespace Go.Proofs.YtbiopedpceddeaaGreatDoor
open Go.RowKit
set_option linter.unusedVariables false
set_option linter.unusedSimpArgs false
namespace KT
theorem quiet_adds {C : World → Prop} {K : Act → Prop} {a : Act} {o : Oper} {xo yo : Operand} {T2 : TypeId} (h : o.op = .binOp .add 9 xo yo T2) (x y : List UInt8) (hx : a.eval xo = .string ⟨x.toArray⟩) (hy : a.eval yo = .string ⟨y.toArray⟩)
    (hl : x.length + y.length ≤ 4000000000) (hk : K (a.put o.dst (.string ⟨(x ++ y).toArray⟩))) : o.quiet Tryz.prog a C K :=
  ⟨_, fun w _ => by
    unfold Oper.quietAt execOp
    rw [h]
    simp only [hx, hy]
    have n : ¬ 9223372036854775807 < x.length + y.length := by omega
    have m := ByteArray.mk_append_mk x y
    go_simp, hk⟩
end KT
end Go.Proofs.YtbiopedpceddeaaGreatDoor
end
section
namespace Go.Proofs.YtbiopedpceddeaaGreatDoor
set_option linter.unusedVariables false
set_option linter.unusedSimpArgs false
namespace KT
/-- a number is met -/
def meet (s : List Int) (n : Int) : List Int := if n ∈ s then s else s ++ [n]
/-- the numbers of the nodes of a kind, as they come first -/
def seen (op : Int) : List Int → List T.Nd → List Int
  | s, [] => s
  | s, x :: l => seen op (if x.op = op then meet s x.imm else s) l
def ren (vs hs : List Int) (x : T.Nd) : T.Nd := if x.op = 33 then { x with imm := ((vs.idxOf x.imm : Nat) : Int) } else if x.op = 34 then { x with imm := ((hs.idxOf x.imm : Nat) : Int) } else x
theorem meet_pre (s : List Int) (n : Int) : s <+: meet s n := by
  unfold meet
  split
  · exact List.prefix_rfl
  · exact List.prefix_append _ _
theorem meet_mem (s : List Int) (n m : Int) : m ∈ meet s n ↔ m ∈ s ∨ m = n := by
  unfold meet
  split
  · rename_i h
    exact ⟨.inl, fun k => k.elim id fun e => e ▸ h⟩
  · simp
theorem seen_pre (op : Int) : ∀ (l : List T.Nd) (s : List Int), s <+: seen op s l := by
  intro l
  induction l with
  | nil => intro s; exact List.prefix_rfl
  | cons x l ih =>
    intro s
    refine List.IsPrefix.trans ?_ (ih _)
    split
    · exact meet_pre s x.imm
    · exact List.prefix_rfl
theorem seen_mem (op : Int) : ∀ (l : List T.Nd) (s : List Int) (n : Int), n ∈ seen op s l ↔ n ∈ s ∨ ∃ x ∈ l, x.op = op ∧ x.imm = n := by
  intro l
  induction l with
  | nil => intro s n; simp [seen]
  | cons x l ih =>
    intro s n
    rw [seen, ih]
    by_cases h : x.op = op
    · rw [if_pos h, meet_mem]
      constructor
      · rintro ((h1 | rfl) | ⟨y, hy, h1⟩)
        · exact .inl h1
        · exact .inr ⟨x, by simp, h, rfl⟩
        · exact .inr ⟨y, List.mem_cons_of_mem _ hy, h1⟩
      · rintro (h1 | ⟨y, hy, h1, h2⟩)
        · exact .inl (.inl h1)
        · rcases List.mem_cons.1 hy with rfl | hy
          · exact .inl (.inr h2.symm)
          · exact .inr ⟨y, hy, h1, h2⟩
    · rw [if_neg h]
      constructor
      · rintro (h1 | ⟨y, hy, h1⟩)
        · exact .inl h1
        · exact .inr ⟨y, List.mem_cons_of_mem _ hy, h1⟩
      · rintro (h1 | ⟨y, hy, h1, h2⟩)
        · exact .inl h1
        · rcases List.mem_cons.1 hy with rfl | hy
          · exact absurd h1 h
          · exact .inr ⟨y, hy, h1, h2⟩
theorem seen_app (op : Int) : ∀ (l m : List T.Nd) (s : List Int), seen op s (l ++ m) = seen op (seen op s l) m := by
  intro l
  induction l with
  | nil => intro m s; rfl
  | cons x l ih => intro m s; exact ih m _
theorem seen_still (op : Int) : ∀ (l : List T.Nd) (s : List Int), (∀ x ∈ l, x.op = op → x.imm ∈ s) → seen op s l = s := by
  intro l
  induction l with
  | nil => intro s _; rfl
  | cons x l ih =>
    intro s h
    rw [seen]
    by_cases hx : x.op = op
    · have := h x (by simp) hx
      rw [if_pos hx, meet, if_pos this]
      exact ih s fun y hy => h y (List.mem_cons_of_mem _ hy)
    · rw [if_neg hx]
      exact ih s fun y hy => h y (List.mem_cons_of_mem _ hy)
theorem idx_pre {s t : List Int} (h : s <+: t) {a : Int} (ha : a ∈ s) : t.idxOf a = s.idxOf a := by
  obtain ⟨u, rfl⟩ := h
  rw [List.idxOf_append, if_pos ha]
/-- while a side is told, the numbers of its first nodes are those of the end -/
theorem ren_pre {vs hs vs' hs' : List Int} {x : T.Nd} (hv : vs <+: vs') (hh : hs <+: hs') (h1 : x.op = 33 → x.imm ∈ vs) (h2 : x.op = 34 → x.imm ∈ hs) : ren vs' hs' x = ren vs hs x := by
  unfold ren
  by_cases h33 : x.op = 33
  · rw [if_pos h33, if_pos h33, idx_pre hv (h1 h33)]
  · rw [if_neg h33, if_neg h33]
    by_cases h34 : x.op = 34
    · rw [if_pos h34, if_pos h34, idx_pre hh (h2 h34)]
    · rw [if_neg h34, if_neg h34]
/-- the form of a rule, of which the sides' lists without equal nodes are these -/
structure Form where
  left : List T.Nd
  right : List T.Nd
  pre : List (List Int)
def form (L Q : List T.Nd) (ps : List R.Cd) : Form :=
  ⟨L.map (ren (seen 33 [] L) (seen 34 [] L)), Q.map (ren (seen 33 [] L) (seen 34 [] L)), ps.map fun c => [c.kind, (((seen 34 [] L).idxOf c.hole : Nat) : Int), c.imm]⟩
/-- two forms are one rule's -/
def Form.same (a b : Form) : Prop := a.left = b.left ∧ a.right = b.right ∧ (∀ p ∈ a.pre, p ∈ b.pre) ∧ ∀ p ∈ b.pre, p ∈ a.pre
/-- lists of numbers, the smaller ahead -/
def ltL : List Int → List Int → Prop
  | [], [] => False
  | [], _ :: _ => True
  | _ :: _, [] => False
  | a :: l, b :: m => a < b ∨ (a = b ∧ ltL l m)
theorem ltL_irr : ∀ l, ¬ ltL l l := by
  intro l
  induction l with
  | nil => exact id
  | cons a l ih =>
    rintro (h | ⟨_, h⟩)
    · omega
    · exact ih h
theorem ltL_tr : ∀ l m n, ltL l m → ltL m n → ltL l n := by
  intro l
  induction l with
  | nil =>
    intro m n h k
    cases m with
    | nil => exact h.elim
    | cons b m =>
      cases n with
      | nil => exact k.elim
      | cons c n => trivial
  | cons a l ih =>
    intro m n h k
    cases m with
    | nil => exact h.elim
    | cons b m =>
      cases n with
      | nil => exact k.elim
      | cons c n =>
        rcases h with h | ⟨rfl, h⟩
        · rcases k with k | ⟨rfl, k⟩
          · exact .inl (by omega)
          · exact .inl h
        · rcases k with k | ⟨rfl, k⟩
          · exact .inl k
          · exact .inr ⟨rfl, ih _ _ h k⟩
/-- the key of a form: its conditions sorted, each once -/
structure KeyOf (f : Form) (k : List UInt8) : Prop where
  ex : ∃ ps : List (List Int), ps.Pairwise ltL ∧ (∀ p, p ∈ ps ↔ p ∈ f.pre) ∧ k = keyT f.left f.right ps
theorem KeyOf.iff {f g : Form} {k j : List UInt8} (h : KeyOf f k) (h' : KeyOf g j) (f1 : f.left ≠ []) (f2 : f.right ≠ []) (g1 : g.left ≠ []) (g2 : g.right ≠ []) (fp : ∀ p ∈ f.pre, p ≠ []) (gp : ∀ p ∈ g.pre, p ≠ []) : k = j ↔ f.same g := by
  obtain ⟨ps, p1, p2, rfl⟩ := h.ex
  obtain ⟨qs, q1, q2, rfl⟩ := h'.ex
  constructor
  · intro e
    obtain ⟨e1, e2, e3⟩ := keyT_inj f1 f2 g1 g2 (fun x hx => fp x ((p2 x).1 hx)) (fun x hx => gp x ((q2 x).1 hx)) e
    exact ⟨e1, e2, fun p hp => (q2 p).1 (e3 ▸ (p2 p).2 hp), fun p hp => (p2 p).1 (e3 ▸ (q2 p).2 hp)⟩
  · rintro ⟨e1, e2, e3, e4⟩
    rw [e1, e2, asc_eq ltL_irr ltL_tr p1 q1 fun x => ⟨fun hx => (q2 x).2 (e3 x ((p2 x).1 hx)), fun hx => (p2 x).2 (e4 x ((q2 x).1 hx))⟩]
end KT
end Go.Proofs.YtbiopedpceddeaaGreatDoor
end
section
namespace Go.Proofs.YtbiopedpceddeaaGreatDoor
set_option linter.unusedVariables false
set_option linter.unusedSimpArgs false
namespace KT
def stV (op : Int) (s : List Int) (x : T.Nd) : List Int := if x.op = op then meet s x.imm else s
theorem seen_cons (op : Int) (s : List Int) (x : T.Nd) (l : List T.Nd) : seen op s (x :: l) = seen op (stV op s x) l := rfl
theorem stV_has {op : Int} {s : List Int} {x : T.Nd} (h : x.op = op) : x.imm ∈ stV op s x := by
  unfold stV
  rw [if_pos h, meet_mem]
  exact .inr rfl
/-- the nodes of a side with their new numbers, as they are told -/
def renL : List Int → List Int → List T.Nd → List T.Nd
  | _, _, [] => []
  | vs, hs, x :: l => ren (stV 33 vs x) (stV 34 hs x) x :: renL (stV 33 vs x) (stV 34 hs x) l
theorem renL_eq : ∀ (l : List T.Nd) (vs hs : List Int), renL vs hs l = l.map (ren (seen 33 vs l) (seen 34 hs l)) := by
  intro l
  induction l with
  | nil => intro vs hs; rfl
  | cons x l ih =>
    intro vs hs
    rw [renL, List.map_cons, seen_cons, seen_cons, ih, ren_pre (seen_pre 33 l _) (seen_pre 34 l _) stV_has stV_has]
theorem renL_app (l m : List T.Nd) : ∀ (vs hs : List Int), renL vs hs (l ++ m) = renL vs hs l ++ renL (seen 33 vs l) (seen 34 hs l) m := by
  induction l with
  | nil => intro vs hs; rfl
  | cons x l ih => intro vs hs; rw [List.cons_append, renL, renL, ih]; rfl

/-- runs of equal ones, each once -/
def compFrom (x : List Int) : List (List Int) → List (List Int)
  | [] => []
  | y :: l => if y = x then compFrom y l else y :: compFrom y l
def compT : List (List Int) → List (List Int)
  | [] => []
  | x :: l => x :: compFrom x l
theorem compFrom_mem : ∀ (l : List (List Int)) (x p : List Int), p ∈ x :: compFrom x l ↔ p ∈ x :: l := by
  intro l
  induction l with
  | nil => intro x p; rfl
  | cons y l ih =>
    intro x p
    rw [compFrom]
    have h := ih y p
    split
    · rename_i e
      subst e
      rw [h]
      simp
    · rw [List.mem_cons, h, List.mem_cons (a := p) (b := x)]
theorem compT_mem (l : List (List Int)) (p : List Int) : p ∈ compT l ↔ p ∈ l := by
  cases l with
  | nil => rfl
  | cons x l => exact compFrom_mem l x p
theorem ltL_total : ∀ l m, ltL l m ∨ l = m ∨ ltL m l := by
  intro l
  induction l with
  | nil => intro m; cases m with
    | nil => exact .inr (.inl rfl)
    | cons b m => exact .inl trivial
  | cons a l ih =>
    intro m
    cases m with
    | nil => exact .inr (.inr trivial)
    | cons b m =>
      rcases Int.lt_trichotomy a b with h | rfl | h
      · exact .inl (.inl h)
      · rcases ih m with h | rfl | h
        · exact .inl (.inr ⟨rfl, h⟩)
        · exact .inr (.inl rfl)
        · exact .inr (.inr (.inr ⟨rfl, h⟩))
      · exact .inr (.inr (.inl h))
/-- of a sorted list each once: strictly ascending -/
theorem compFrom_asc : ∀ (l : List (List Int)) (x : List Int), (x :: l).Pairwise (fun a b => ¬ ltL b a) → (x :: compFrom x l).Pairwise ltL := by
  intro l
  induction l with
  | nil => intro x _; exact List.pairwise_singleton _ _
  | cons y l ih =>
    intro x h
    rw [List.pairwise_cons] at h
    have hy := ih y h.2
    rw [compFrom]
    split
    · rename_i e; subst e; exact hy
    · rename_i e
      have hxy : ltL x y := by
        rcases ltL_total x y with h1 | h1 | h1
        · exact h1
        · exact absurd h1.symm e
        · exact absurd h1 (h.1 y (by simp))
      rw [List.pairwise_cons]
      refine ⟨fun p hp => ?_, hy⟩
      rcases List.mem_cons.1 hp with rfl | hp
      · exact hxy
      · rw [List.pairwise_cons] at hy
        exact ltL_tr _ _ _ hxy (hy.1 p hp)
theorem compT_asc {l : List (List Int)} (h : l.Pairwise fun a b => ¬ ltL b a) : (compT l).Pairwise ltL := by
  cases l with
  | nil => exact .nil
  | cons x l => exact compFrom_asc l x h
/-- the key of a rule: the sides told, the conditions sorted, each once -/
theorem KeyOf.mk' (L Q : List T.Nd) (ps : List R.Cd) (qs : List (List Int))
    (h1 : ∀ x ∈ Q, x.op = 33 → x.imm ∈ seen 33 [] L) (h2 : ∀ x ∈ Q, x.op = 34 → x.imm ∈ seen 34 [] L)
    (hq : qs.Pairwise fun a b => ¬ ltL b a) (hm : ∀ p, p ∈ qs ↔ p ∈ (form L Q ps).pre) :
    KeyOf (form L Q ps) (keyT (renL [] [] L) (renL (seen 33 [] L) (seen 34 [] L) Q) (compT qs)) := by
  refine ⟨compT qs, compT_asc hq, fun p => (compT_mem qs p).trans (hm p), ?_⟩
  rw [renL_eq, renL_eq, seen_still 33 Q _ h1, seen_still 34 Q _ h2]
  rfl
end KT
end Go.Proofs.YtbiopedpceddeaaGreatDoor
end
section
namespace Go.Proofs.YtbiopedpceddeaaGreatDoor
open Go.RowKit Go.Maps
set_option linter.unusedVariables false
set_option linter.unusedSimpArgs false
namespace KT
/-- the entries of a map of new numbers -/
def ents2 (s : List Int) : List (Int × Int) := s.zipIdx.map fun p => (p.1, (p.2 : Int))
theorem ents2_keys (s : List Int) : (ents2 s).map Prod.fst = s := by
  unfold ents2
  rw [List.map_map]
  exact List.zipIdx_map_fst 0 s
theorem ents2_at {s : List Int} {k : Nat} {n : Int} (h : s[k]? = some n) : (ents2 s)[k]? = some (n, (k : Int)) := by
  unfold ents2
  rw [List.getElem?_map, List.getElem?_zipIdx, h]
  simp
theorem ents2_len (s : List Int) : (ents2 s).length = s.length := by simp [ents2]
theorem ents2_get {s : List Int} (hd : s.Nodup) (n : Int) : AL.get (ents2 s) n = if n ∈ s then some ((s.idxOf n : Nat) : Int) else none := by
  split
  · rename_i h
    have hk := List.idxOf_lt_length_iff.2 h
    refine AL.get_some (j := s.idxOf n) (by rw [ents2_keys]; exact hd) (ents2_at ?_)
    rw [List.getElem?_eq_getElem hk]
    simp
  · rename_i h
    refine AL.get_none fun p hp e => h ?_
    rw [← ents2_keys s]
    exact List.mem_map.2 ⟨p, hp, e⟩
theorem ents2_put {s : List Int} {n : Int} (h : n ∉ s) : AL.put (ents2 s) n (s.length : Int) = ents2 (s ++ [n]) := by
  rw [AL.put_none (fun p hp e => h (by rw [← ents2_keys s]; exact List.mem_map.2 ⟨p, hp, e⟩))]
  unfold ents2
  rw [List.zipIdx_append]
  simp
def ekU (n : Int) : Value := .int .u32 n
theorem ekU_inj : ∀ a b, ekU a = ekU b → a = b := fun a b h => by simpa [ekU] using h
theorem u32Keyed : Keyed Tryz.prog 26 := int_keyed Tryz.underlying26
theorem keyOf_u32 {k : Int} (h : 0 ≤ k ∧ k < 4294967296) : keyOf Tryz.prog 26 (ekU k) = some (.int .u32 k) := keyOf_int_mk Tryz.underlying26 (lit_u32 h)
/-- a map of new numbers in memory -/
def NumAt (w : World) (b : Nat) (s : List Int) : Prop := s.Nodup ∧ MapAt Tryz.prog 26 ekU IntI w b (ents2 s)
theorem NumAt.lt {w : World} {b : Nat} {s : List Int} (h : NumAt w b s) : b < w.heap.size := h.2.lt
theorem NumAt.keep {w w' : World} {b : Nat} {s : List Int} (h : NumAt w b s) (hb : w'.heap[b]? = w.heap[b]?) : NumAt w' b s := ⟨h.1, h.2.keep hb fun _ _ _ h => h⟩
theorem NumAt.len_run {w : World} {b : Nat} {s : List Int} (h : NumAt w b s) : (Builtin.len_ #[82] 3 #[.map (some b)]).run Tryz.prog w = .ok (.int .i64 (s.length : Int)) w := by
  obtain ⟨hd, es, clock, hb, hst, hl, _⟩ := h
  rw [ents2_len] at hl
  have hg : (getObj b).run Tryz.prog w = .ok (.map es clock) w := by simp [getObj, Sem.run, hb]
  have hsz : es.size = s.length := by simpa using hl
  simp [Builtin.len_, run_underlying Tryz.underlying82, hg, Result.andThen, goInt, hsz]
theorem NumAt.put {w : World} {b : Nat} {s : List Int} {n : Int} (h : NumAt w b s) (hn : 0 ≤ n ∧ n < 4294967296) (hm : n ∉ s) :
    ∃ w', (Instr.mapUpdate 82 (.map (some b)) (.int .u32 n) (.int .i64 (s.length : Int))).run Tryz.prog w = .ok () w' ∧ w.grownBy w' (some b) ∧ NumAt w' b (s ++ [n]) := by
  obtain ⟨w', h1, h2, h3, h4⟩ := h.2.update u32Keyed ekU_inj Tryz.underlying82 (keyOf_u32 hn) (.int .i64 (s.length : Int))
  refine ⟨w', h1, h2, ?_, ?_⟩
  · rw [List.nodup_append]
    exact ⟨h.1, by simp, fun a ha c hc e => by simp at hc; subst hc e; exact hm ha⟩
  · have := h4 IntI (s.length : Int) (fun _ _ _ _ h => h) rfl
    rw [ents2_put hm] at this
    exact this

set_option maxRecDepth 100000 in
theorem kof_any (b : Nat) (s : List Int) (n : Int) (W : World) (h : NumAt W b s) (hn : 0 ≤ n ∧ n < 4294967296) (hs : s.length ≤ 1000000) :
    Calls Tryz.prog 60 #[.map (some b), .int .u32 n] W fun e w' => e = .returned (.int .i64 (((meet s n).idxOf n : Nat) : Int)) ∧ NumAt w' b (meet s n) ∧ W.grownBy w' (some b) := by
  have hz : ∀ w, (zeroValue 3).run Tryz.prog w = .ok (.int .i64 0) w := fun w => by go_simp
  obtain ⟨u, _, hlook, hlv⟩ := h.2.lookup (k := n) u32Keyed ekU_inj Tryz.underlying82 (hz W) (keyOf_u32 hn)
  rw [ents2_get h.1] at hlook hlv
  unfold ekU at hlook
  by_cases hm : n ∈ s
  · rw [if_pos hm] at hlook hlv
    rcases hlv with ⟨hc, _⟩ | ⟨a, hc, hu⟩
    · cases hc
    · cases hc
      have hu : u = .int .i64 ((s.idxOf n : Nat) : Int) := hu
      subst hu
      have e : meet s n = s := by unfold meet; rw [if_pos hm]

      go_enter Tryz.func60, Tryz.ntmps60
      go_wp2
      go_ret
      rw [e]
      exact ⟨rfl, h, ⟨rfl, rfl, rfl, Nat.le_refl _, fun _ _ _ => rfl⟩⟩
  · rw [if_neg hm] at hlook hlv
    rcases hlv with ⟨_, rfl⟩ | ⟨a, hc, hu⟩
    · have e : meet s n = s ++ [n] := by unfold meet; rw [if_neg hm]
      obtain ⟨w1, hupd, hg, h1⟩ := h.put hn hm
      have hl0 := h.len_run
      have hl1 := h1.len_run
      have H1 := Lib.hid h1
      have Hg := Lib.hid hg
      have hix : (s ++ [n]).idxOf n = s.length := by rw [List.idxOf_append, if_neg hm]; simp
      have Hix := Lib.hid hix
      rw [List.length_append, List.length_singleton] at hl1
      clear h h1 hg hix
      go_enter Tryz.func60, Tryz.ntmps60
      go_wp2
      go_ret
      rw [Hix.out]
      exact ⟨rfl, H1.out, Hg.out⟩
    · cases hc
end KT
end Go.Proofs.YtbiopedpceddeaaGreatDoor
end
section
namespace Go.Proofs.YtbiopedpceddeaaGreatDoor
open Go.RowKit Go.Maps
set_option linter.unusedVariables false
set_option linter.unusedSimpArgs false
namespace KT
open Go.Lib (itoa)
set_option maxRecDepth 100000 in
theorem knumbers_any {l : List Int} {A : Option Addr} {n cn : Nat} {W : World} (hT : Tens W) (hs : SlAt (IntR .i64) W A n l) (hl : ∀ x ∈ l, I64 x) (hne : l ≠ []) (hn : n ≤ 1000000) :
    Calls Tryz.prog 65 #[.slice A n cn] W fun e w' => e = .returned (.string ⟨(nums l).toArray⟩) ∧ Below W.heap.size W w' := by
  have hlen := hs.len
  have Hs := Lib.hid hs
  have HT := Lib.hid hT
  have Hl := Lib.hid hl
  have Hne := Lib.hid hne
  clear hs hT hl hne
  go_enter Tryz.func65, Tryz.ntmps65
  go_wp2
  go_loopg [3, 8] (n + 1) (fun gg s3 s8 wr => ∃ (j : Nat) (v : Value), j ≤ n ∧ s3 = v ∧ s8 = .int .i64 (j : Int) ∧ gg + j = n + 1 ∧ Hid (OwnAt wr 9 1 v j (svs (l.take j))) ∧ Hid (Below W.heap.size W wr) ∧ Hid (∀ i, v.ownBlock = some i → W.heap.size ≤ i))
  case atStart => exact ⟨0, .slice none 0 0, Nat.zero_le _, rfl, rfl, rfl, Lib.hid (OwnAt.nil_ _ _ _), Lib.hid (Below.refl _ _), Lib.hid (fun i e => by simp [Value.ownBlock] at e)⟩
  case round =>
    obtain ⟨j, v, hj, rfl, rfl, hgk, Ho, Hb, Hnw⟩ := hrel
    have Hgk := Lib.hid hgk
    clear hgk
    obtain ⟨Av, cv, hv⟩ := Ho.out.form
    subst hv
    by_cases hjl : j < n
    · obtain ⟨x, ba, off, u, hx, rfl, hba, hcell, rfl⟩ := (Hs.out.below (monoInt _) Hb.out).at_ hjl
      have Hx := Lib.hid hx
      have Hi := Lib.hid (Hl.out x (List.mem_of_getElem? hx))
      clear hx hba
      have Hs2 := Lib.hid (show W.heap.size ≤ wr.heap.size from Hb.out.size)
      have HTr := Lib.hid (HT.out.below Hb.out)
      go_wp2_with (first
        | (go_at_call 86; refine (kItoa_any Hi.out HTr.out).mono ?_; rintro e w2 ⟨rfl, hb2⟩; have Hb2 := Lib.hid hb2; have Ho2 := Lib.hid (Ho.out.below hb2 (fun g hg => Ho.out.lt g hg)); clear hb2)
        | (at_builtin; refine wpList_append_one' rfl (.tmp 12) (.tmp 15) 106 rfl 9 (.string ByteArray.empty) 16 Tryz.underlying106 infoS rfl _ j _ rfl Ho2.out (.string ⟨(itoa x).toArray⟩) rfl 9 w2.heap.size rfl rfl (by omega) (by omega) ?_; intro v' w5 hown' hgr hat; have Hown' := Lib.hid hown'; have Hgr := Lib.hid hgr; have Hat := Lib.hid hat; clear hown' hgr hat))
      go_roundg (gk - 1)
      case measure => have := Hgk.out; omega
      case rel =>
        have := Hgk.out
        have h2s := Hb2.out.size
        have hsz := Hs2.out
        refine ⟨j + 1, v', by omega, rfl, by go_num, by omega, Lib.hid ?_, Lib.hid (((Hb.out.trans (Hb2.out.mono hsz)).alloc (by omega) _).grown Hgr.out (by simp; omega) (fun g hg => Hnw.out g hg)), Lib.hid fun i hi => ?_⟩
        · rw [List.take_add_one, Hx.out, Option.toList_some, svs_snoc]
          exact Hown'.out
        · rcases Hat.out with e | e
          · exact Hnw.out i (e ▸ hi)
          · rw [e] at hi; injection hi with hi; omega
    · obtain rfl : j = n := by omega
      have Ho' := Lib.hid (show OwnAt wr 9 1 (.slice Av j cv) j ((l.map itoa).map fun l => Value.string ⟨l.toArray⟩) from by
        have h := Ho.out
        rw [List.take_of_length_le (by omega)] at h
        exact h)
      have Hjl := Lib.hid (show (jn 44 (l.map itoa)).length ≤ 140737488355328 from by have := nums_len Hl.out; unfold nums at this; omega)
      have Hn2 := Lib.hid (show l.map itoa ≠ [] from by simpa using Hne.out)
      go_wp2_with (go_at_call 127; refine (kJoin_any Hn2.out 44 Ho'.out Hjl.out (by omega)).mono ?_; rintro e w2 ⟨rfl, hb2⟩; have Hb2 := Lib.hid hb2; clear hb2)
      go_ret
      exact ⟨rfl, Hb.out.trans (Hb2.out.mono Hb.out.size)⟩
end KT
end Go.Proofs.YtbiopedpceddeaaGreatDoor
end
