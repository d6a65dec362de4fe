/- Merged: M6, T1. -/
import Derived.Test.YtcmlmjbpdaecbaaH16
import Derived.RangeFuncCalls
import Derived.Test.YtcmlmjbpdaecbaaH14
import Derived.BigGuardPart
import Derived.Laws.StructEq
import Derived.Test.YtcmlmjbpdaecbaaH02
set_option linter.unusedVariables false
set_option linter.unusedSimpArgs false
section
section
namespace Go.Proofs.Ytcmlmjbpdaecbaa
open Go.RowKit
set_option linter.unusedVariables false
set_option linter.unusedSimpArgs false
attribute [local go_sem] Oper.semAt_some

/-- the mark that a range over a function leaves -/
def Mk (r : Nat) : Deferred := { target := .collected r, args := #[] }
/-- marks whose blocks hold no call -/
structure Marks (W : World) (B : Nat) (rs : List Nat) : Prop where
  nodup : rs.Nodup
  all : ∀ r ∈ rs, B ≤ r ∧ W.heap[r]? = some (.deferred (some []))

/-- what stays where marks are shut -/
structure Off (B : Nat) (W W' : World) : Prop where
  below : Below B W W'
  keep : ∀ (g : Nat) (o : Obj), W.heap[g]? = some o → (∀ ds, o ≠ .deferred ds) → W'.heap[g]? = some o
theorem Off.refl (B : Nat) (W : World) : Off B W W := ⟨Below.refl _ _, fun _ _ h _ => h⟩

theorem leaves_marks {F : Fence} {n : Nat} {P : Program} {fn : Func} {tmps : Array Value} {R : Ending → World → Prop} {B : Nat} : ∀ (rs : List Nat) (W : World), Marks W B rs →
    (∀ W', Off B W W' → ∃ v, (results fn tmps).run P W' = .ok v W' ∧ R (.returned v) W') → LeavesInM F n P fn tmps R (rs.map Mk) .returning W
  | [], W, _, h => h W (Off.refl _ _)
  | r :: rs, W, hm, h => by
    obtain ⟨hB, hr⟩ := hm.all r (List.mem_cons_self ..)
    refine ⟨by simp, .inl ⟨r, _, rfl, run_takeDeferred hr, ?_⟩⟩
    have hnd := List.nodup_cons.1 hm.nodup
    have hoff : Off B W (W.putObj r (.deferred none)) := ⟨below_putObj (Below.refl _ _) hB _, fun g o hg hne => by
      have : g ≠ r := by rintro rfl; rw [hr] at hg; exact hne _ (Option.some.inj hg).symm
      rw [World.putObj_heap_other this]; exact hg⟩
    refine leaves_marks rs _ ⟨hnd.2, fun r' hr' => ?_⟩ fun W' hW' => h W' ⟨hoff.below.trans hW'.below, fun g o hg hne => hW'.keep g o (hoff.keep g o hg hne) hne⟩
    obtain ⟨hB', h'⟩ := hm.all r' (List.mem_cons_of_mem _ hr')
    have : r' ≠ r := by rintro rfl; exact hnd.1 hr'
    exact ⟨hB', by rw [World.putObj_heap_other this]; exact h'⟩

theorem Marks.lt {W : World} {B : Nat} {rs : List Nat} (h : Marks W B rs) : ∀ r ∈ rs, r < W.heap.size := fun r hr => (Array.getElem?_eq_some_iff.1 (h.all r hr).2).1
theorem Marks.keep {W Y : World} {B C : Nat} {rs : List Nat} (h : Marks W B rs) (hlt : ∀ r ∈ rs, r < C) (hk : ∀ g, g < C → Y.heap[g]? = W.heap[g]?) : Marks Y B rs := ⟨h.nodup, fun r hr => ⟨(h.all r hr).1, (hk r (hlt r hr)).trans (h.all r hr).2⟩⟩
theorem RowArg.ck {k w : Nat} {A A' : World} {x : List K.Stp} {args : Array Value} (h : RowArg k w A x args) (hc : CK A A') : RowArg k w A' x args := by
  obtain ⟨Ar, cr, Al, cl, rfl, h1, h2⟩ := h
  refine ⟨Ar, cr, Al, cl, rfl, ⟨h1.1, h1.2.1, fun j y hy => ?_⟩, ⟨h2.1, h2.2.1, fun j y hy => ?_⟩⟩
  · obtain ⟨b, off, us, e1, e2, e3, e4, e5⟩ := h1.2.2 j y hy
    exact ⟨b, off, us, e1, Nat.lt_of_lt_of_le e2 hc.size, e3, fun i u hu => hc.cell _ _ (e4 i u hu), e5⟩
  · obtain ⟨b, off, u, e1, e2, e3, e4⟩ := h2.2.2 j y hy
    exact ⟨b, off, u, e1, Nat.lt_of_lt_of_le e2 hc.size, hc.cell _ _ e3, e4⟩
theorem Marks.cons {W : World} {B g : Nat} {rs : List Nat} (h : Marks W B rs) (hg : W.heap[g]? = some (.deferred (some []))) (hB : B ≤ g) (hlt : ∀ r ∈ rs, r < g) : Marks W B (g :: rs) :=
  ⟨List.nodup_cons.2 ⟨fun hm => Nat.lt_irrefl _ (hlt g hm), h.nodup⟩, fun r hr => by
    rcases List.mem_cons.1 hr with rfl | hr
    · exact ⟨hB, hg⟩
    · exact h.all r hr⟩
theorem first_at {k w q most : Nat} {t : List Int} {pre : List (List K.Stp)} {x : List K.Stp} (h1 : K.None_ k w t (K.upTo k q)) (h2 : K.None_ k w t pre) (hp : pre ++ [x] <+: K.rows k q) (hx : K.meaning k w x = t) (hq : q < most) : K.first k w t most = some x := by
  obtain ⟨l, hl⟩ := hp
  refine K.first_some h1 (i := pre.length) (row := x) ?_ ?_ hx hq
  · rw [← hl, List.append_assoc, List.take_left]; exact h2
  · rw [← hl, List.append_assoc, List.getElem?_append_right (Nat.le_refl _)]; simp

end Go.Proofs.Ytcmlmjbpdaecbaa
end
section
namespace Go.Proofs.Ytcmlmjbpdaecbaa
open Go.RowKit
set_option linter.unusedVariables false
set_option linter.unusedSimpArgs false

theorem shortest_cases (k w : Int) (t : List Int) : K.shortest k w t = if (K.over k w && K.isTable k.toNat w.toNat t) = true then (match K.first k.toNat w.toNat t 3 with | some r => (r, true, (0 : Int)) | none => ([], false, 0)) else ([], false, 1) := by
  unfold K.shortest
  cases K.over k w <;> cases K.isTable k.toNat w.toNat t <;> first | rfl | simp

/-- three fields of type e, one cell each, none of them blank -/
def threeB (fs : List Field) (e : TypeId) : Bool := match fs with
  | [f0, f1, f2] => decide (f0.name ≠ "_") && decide (f1.name ≠ "_") && decide (f2.name ≠ "_") && decide (f0.type = e) && decide (f1.type = e) && decide (f2.type = e) && decide (f0.offset = 0) && decide (f1.offset = 1) && decide (f2.offset = 2)
  | _ => false
theorem threeB_spec {fs : List Field} {e : TypeId} (h : threeB fs e = true) : ∃ f0 f1 f2 : Field, fs = [f0, f1, f2] ∧ f0.name ≠ "_" ∧ f1.name ≠ "_" ∧ f2.name ≠ "_" ∧ f0.type = e ∧ f1.type = e ∧ f2.type = e ∧ f0.offset = 0 ∧ f1.offset = 1 ∧ f2.offset = 2 := by
  unfold threeB at h
  split at h
  · rename_i f0 f1 f2
    simp only [Bool.and_eq_true, decide_eq_true_eq] at h
    obtain ⟨⟨⟨⟨⟨⟨⟨⟨a, b⟩, c⟩, d⟩, e⟩, f⟩, g⟩, i⟩, j⟩ := h
    exact ⟨f0, f1, f2, rfl, a, b, c, d, e, f, g, i, j⟩
  · cases h
theorem known_plain : K.shortest 1 3 [7, 0, 1, 2, 3, 4, 5, 6] = ([(1, 0, 2)], true, 0) := by decide +kernel
end Go.Proofs.Ytcmlmjbpdaecbaa
end
section
namespace Go.Proofs.Ytcmlmjbpdaecbaa
open Go.RowKit
set_option linter.unusedVariables false
set_option linter.unusedSimpArgs false

end Go.Proofs.Ytcmlmjbpdaecbaa
end
end
section
namespace Go.Proofs.Ytcmlmjbpdaecbaa
open Go.RowKit
set_option linter.unusedVariables false
set_option linter.unusedSimpArgs false

/-- the cells of a node -/
def ndC (x : T.Nd) (A : Option Addr) (c : Nat) : List Value := [.int .i64 x.op, .int .i64 x.w, .int .i64 x.fl, .slice A x.args.length c, .int .u32 x.imm]
/-- five cells read as a node -/
def NdR (W : World) (us : List Value) (x : T.Nd) : Prop := ∃ A c, us = ndC x A c ∧ SlAt (IntR .i64) W A x.args.length x.args ∧ 0 ≤ x.imm ∧ x.imm < 4294967296
theorem monoNd : MonoL NdR := by
  rintro w w' us x hb ⟨A, c, rfl, h, h2⟩
  exact ⟨A, c, rfl, h.below (monoInt _) hb, h2⟩

theorem ret_ib {a b : Int} {x y : Bool} (h1 : a = b) (h2 : x = y) : Ending.returned (.tuple #[.int .i64 a, .bool x]) = .returned (.tuple #[.int .i64 b, .bool y]) := by rw [h1, h2]

theorem ar_cases (op : Int) : (op = 0 ∧ T.ar op = 0) ∨ (op = 33 ∧ T.ar op = 0) ∨ (1 ≤ op ∧ op ≤ 14 ∧ T.ar op = 2) ∨ (op = 15 ∧ T.ar op = 3) ∨ (16 ≤ op ∧ op ≤ 18 ∧ T.ar op = 1) ∨ (¬ op = 0 ∧ ¬ op = 33 ∧ ¬ (1 ≤ op ∧ op ≤ 14) ∧ ¬ op = 15 ∧ ¬ (16 ≤ op ∧ op ≤ 18) ∧ T.ar op = -1) := by
  unfold T.ar
  by_cases h0 : op = 0
  · exact .inl ⟨h0, by rw [if_pos (.inl h0)]⟩
  by_cases h33 : op = 33
  · exact .inr (.inl ⟨h33, by rw [if_pos (.inr h33)]⟩)
  rw [if_neg (by omega)]
  by_cases h14 : 1 ≤ op ∧ op ≤ 14
  · exact .inr (.inr (.inl ⟨h14.1, h14.2, by rw [if_pos h14]⟩))
  rw [if_neg h14]
  by_cases h15 : op = 15
  · exact .inr (.inr (.inr (.inl ⟨h15, by rw [if_pos h15]⟩)))
  rw [if_neg h15]
  by_cases h18 : 16 ≤ op ∧ op ≤ 18
  · exact .inr (.inr (.inr (.inr (.inl ⟨h18.1, h18.2, by rw [if_pos h18]⟩))))
  rw [if_neg h18]
  exact .inr (.inr (.inr (.inr (.inr ⟨h0, h33, h14, h15, h18, rfl⟩))))

set_option maxHeartbeats 1000000 in
theorem parity_any (op : Int) (W : World) : Calls Try.prog 58 #[.int .i64 op] W fun e w' => e = .returned (.tuple #[.int .i64 (if 0 ≤ T.ar op then T.ar op else 0), .bool (decide (0 ≤ T.ar op))]) ∧ W = w' := by
  rcases ar_cases op with ⟨rfl, h⟩ | ⟨rfl, h⟩ | ⟨h1, h2, h⟩ | ⟨rfl, h⟩ | ⟨h1, h2, h⟩ | ⟨a, b, c, d, e, h⟩
  · go_enter Try.func58, Try.ntmps58
    go_wp2
    go_ret2
    exact ⟨rfl, rfl⟩
  · go_enter Try.func58, Try.ntmps58
    go_wp2
    go_ret2
    exact ⟨rfl, rfl⟩
  · rw [h, show (if (0 : Int) ≤ 2 then (2 : Int) else 0) = 2 from rfl, show decide ((0 : Int) ≤ 2) = true from rfl]
    clear h
    have q0 : (op == 0) = false := by simp; omega
    have q1 : (op == 33) = false := by simp; omega
    have q2 : decide (1 ≤ op) = true := by simp; omega
    have q3 : decide (op ≤ 14) = true := by simp; omega
    go_enter Try.func58, Try.ntmps58
    go_wp2
    go_ret2
    exact ⟨rfl, rfl⟩
  · go_enter Try.func58, Try.ntmps58
    go_wp2
    go_ret2
    exact ⟨rfl, rfl⟩
  · rw [h, show (if (0 : Int) ≤ 1 then (1 : Int) else 0) = 1 from rfl, show decide ((0 : Int) ≤ 1) = true from rfl]
    clear h
    have hop : op = 16 ∨ op = 17 ∨ op = 18 := by omega
    clear h1 h2
    rcases hop with rfl | rfl | rfl
    all_goals
      go_enter Try.func58, Try.ntmps58
      go_wp2
      go_ret2
      exact ⟨rfl, rfl⟩
  · rw [h, show (if (0 : Int) ≤ -1 then (-1 : Int) else 0) = 0 from rfl, show decide ((0 : Int) ≤ -1) = false from rfl]
    clear h
    have q0 : (op == 0) = false := by simp; omega
    have q1 : (op == 33) = false := by simp; omega
    have q4 : (op == 15) = false := by simp; omega
    by_cases hn : op < 1
    · have q2 : decide (1 ≤ op) = false := by simp; omega
      have q5 : decide (16 ≤ op) = false := by simp; omega
      clear a b c d e hn
      go_enter Try.func58, Try.ntmps58
      go_wp2
      go_ret2
      exact ⟨rfl, rfl⟩
    · have q2 : decide (1 ≤ op) = true := by simp; omega
      have q3 : decide (op ≤ 14) = false := by simp; omega
      have q5 : decide (16 ≤ op) = true := by simp; omega
      have q6 : decide (op ≤ 18) = false := by simp; omega
      clear a b c d e hn
      go_enter Try.func58, Try.ntmps58
      go_wp2
      go_ret2
      exact ⟨rfl, rfl⟩

/-- the node as a value -/
def ndV (x : T.Nd) (A : Option Addr) (c : Nat) : Value := .agg #[.int .i64 x.op, .int .i64 x.w, .int .i64 x.fl, .slice A x.args.length c, .int .u32 x.imm]

set_option maxHeartbeats 1000000 in
theorem pisImm_any (op w fl imm : Int) (n : Nat) (A : Option Addr) (c : Nat) (args : List Int) (W : World) :
    Calls Try.prog 59 #[.agg #[.int .i64 op, .int .i64 w, .int .i64 fl, .slice A n c, .int .u32 imm]] W fun e w' => e = .returned (.bool (T.immOk ⟨op, w, fl, args, imm⟩)) ∧ Below W.heap.size W w' := by
  have HB1 := Lib.hid (show ∀ o, Below W.heap.size W (W.alloc o) from fun o => (Below.refl _ _).alloc (Nat.le_refl _) o)
  unfold T.immOk
  dsimp only
  by_cases h0 : op = 0
  · subst h0
    rw [if_pos rfl]
    have HM := Lib.hid (fun W' => Mask_any w W')
    unfold B.isW
    cases hw : B.isWd w
    · rw [hw] at HM
      rw [Bool.false_and]
      clear hw
      go_enter Try.func59, Try.ntmps59
      go_wp2_with fail
      refine (HM.out _).mono ?_
      rintro e w' ⟨rfl, rfl⟩
      go_wp2
      go_ret
      exact ⟨rfl, HB1.out _⟩
    · rw [hw] at HM
      rw [Bool.true_and]
      obtain ⟨P, hP⟩ : ∃ P, P = B.pw w := ⟨_, rfl⟩
      rw [← hP] at HM ⊢
      have hd : decide (imm < P) = decide (imm ≤ P - 1) := by by_cases h : imm < P <;> simp <;> omega
      rw [hd]
      clear hw hP hd
      go_enter Try.func59, Try.ntmps59
      go_wp2_with fail
      refine (HM.out _).mono ?_
      rintro e w' ⟨rfl, rfl⟩
      go_wp2
      go_ret
      exact ⟨rfl, HB1.out _⟩
  · rw [if_neg h0]
    have q0 : (op == 0) = false := by simpa using h0
    by_cases h33 : op = 33
    · subst h33
      rw [if_pos rfl]
      clear h0 q0
      go_enter Try.func59, Try.ntmps59
      go_wp2
      go_ret
      exact ⟨rfl, HB1.out _⟩
    · rw [if_neg h33]
      have q1 : (op == 33) = false := by simpa using h33
      by_cases h14 : op = 14
      · subst h14
        rw [if_pos rfl]
        clear h0 q0 h33 q1
        go_enter Try.func59, Try.ntmps59
        go_wp2
        go_ret
        exact ⟨rfl, HB1.out _⟩
      · rw [if_neg h14]
        have q2 : (op == 14) = false := by simpa using h14
        have hd : decide (imm = 0) = (imm == 0) := by by_cases h : imm = 0 <;> simp [h]
        rw [hd]
        clear h0 h33 h14 hd
        go_enter Try.func59, Try.ntmps59
        go_wp2
        go_ret
        exact ⟨rfl, HB1.out _⟩
end Go.Proofs.Ytcmlmjbpdaecbaa
end
