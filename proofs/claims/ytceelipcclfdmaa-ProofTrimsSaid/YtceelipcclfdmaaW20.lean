/- Walks of the program: what is true. -/
import Derived.Test.YtceelipcclfdmaaW9
import Derived.Test.YtceelipcclfdmaaPlain09b
import Derived.Test.YtceelipcclfdmaaMaps
import Derived.Deep.LoopGhost
namespace Go.Proofs.Ytceelipcclfdmaa
set_option linter.unusedVariables false
open Go.RowKit Go.Maps

abbrev kInt (x : Int) : Value := .int .i64 x
/-- Block T is a 'truth' of the program: the map in block M, the queue qv. -/
structure TrAt (w : World) (B0 T M : Nat) (l : List (Int × Bool)) (qv : Value) (q : List Int) : Prop where
  st : w.heap[T]? = some (.cells #[.map (some M), qv] 63 (0, 0))
  map_ : MapAt Try.prog 3 (Value.int .i64) BoolK w M l
  own : OwnAt w 3 1 qv q.length (q.map (Value.int .i64))
  bT : B0 ≤ T
  bM : B0 ≤ M
  bq : ∀ g, qv.ownBlock = some g → B0 ≤ g

def trl (l : List (Int × Bool)) (x : Int) : Bool := (AL.get l x).getD false
theorem trl_put (l : List (Int × Bool)) (x : Int) : trl (AL.put l x true) = S.also (trl l) x := by
  funext y
  unfold trl S.also
  by_cases h : y = x
  · subst h; simp [AL.get_put_same]
  · rw [AL.get_put_other _ _ h, if_neg h]

section
variable {w w' : World} {B0 T M : Nat} {l : List (Int × Bool)} {qv : Value} {q : List Int}
theorem map_block {κ α : Type} {P : Program} {kt : TypeId} {ek : κ → Value} {R : World → κ → Value → α → Prop} {w : World} {b : Nat} {l : List (κ × α)} (h : MapAt P kt ek R w b l) {cs : Array Value} {e : TypeId} {fr : Nat × Nat} (hc : w.heap[b]? = some (.cells cs e fr)) : False := by
  obtain ⟨es, clock, hb, _⟩ := h
  rw [hb] at hc; cases hc
theorem TrAt.neM (h : TrAt w B0 T M l qv q) : T ≠ M := fun e => map_block h.map_ (by rw [← e]; exact h.st)
theorem own_block_ne {w : World} {e : TypeId} {s n : Nat} {v : Value} {xs : List Value} (h : OwnAt w e s v n xs) {g : Nat} {cs : Array Value} {t : TypeId} (hg : w.heap[g]? = some (.cells cs t (0, 0))) (hne : e ≠ t) : v.ownBlock ≠ some g := by
  rcases h.2 with ⟨rfl, _⟩ | ⟨g', off, cap, cur, rfl, hh, _⟩
  · simp [Value.ownBlock]
  · intro he
    have : g' = g := by simpa [Value.ownBlock] using he
    subst this
    rw [hg] at hh; injection hh with hh; injection hh with _ ht; exact hne ht.symm
theorem own_map_ne {κ α : Type} {P : Program} {kt : TypeId} {ek : κ → Value} {R : World → κ → Value → α → Prop} {w : World} {b : Nat} {l : List (κ × α)} (hm : MapAt P kt ek R w b l) {e : TypeId} {s n : Nat} {v : Value} {xs : List Value} (h : OwnAt w e s v n xs) : v.ownBlock ≠ some b := by
  rcases h.2 with ⟨rfl, _⟩ | ⟨g', off, cap, cur, rfl, hh, _⟩
  · simp [Value.ownBlock]
  · intro he
    have : g' = b := by simpa [Value.ownBlock] using he
    subst this
    exact map_block hm hh
theorem TrAt.qT (h : TrAt w B0 T M l qv q) : qv.ownBlock ≠ some T := own_block_ne h.own h.st (by decide)
theorem TrAt.qM (h : TrAt w B0 T M l qv q) : qv.ownBlock ≠ some M := own_map_ne h.map_ h.own
theorem TrAt.c0 (h : TrAt w B0 T M l qv q) : w.cell? ⟨T, 0, none⟩ = some (.map (some M)) := by rw [cell_of_row w T 0 _ _ _ h.st]; rfl
theorem TrAt.c1 (h : TrAt w B0 T M l qv q) : w.cell? ⟨T, 1, none⟩ = some qv := by rw [cell_of_row w T 1 _ _ _ h.st]; rfl
theorem TrAt.f1 (h : TrAt w B0 T M l qv q) : w.frozen? ⟨T, 1, none⟩ = false := by simp [World.frozen?, h.st]
theorem TrAt.ltT (h : TrAt w B0 T M l qv q) : T < w.heap.size := (Array.getElem?_eq_some_iff.1 h.st).1
theorem TrAt.dr (h : TrAt w B0 T M l qv q) (hd : Dr w w') : TrAt w' B0 T M l qv q := by
  obtain ⟨m, rfl⟩ := hd
  exact ⟨h.st, h.map_.keep rfl (fun _ _ _ h => h), h.own, h.bT, h.bM, h.bq⟩
theorem TrAt.lk (h : TrAt w B0 T M l qv q) {x : Int} (hx : -4000 ≤ x ∧ x ≤ 4000) : (Instr.lookup 61 (.map (some M)) (.int .i64 x) false).run Try.prog w = .ok (.bool (trl l x)) w :=
  h.map_.lookup_bool (int_keyed Try.underlying3) (ek_int_inj .i64) Try.underlying61 (by kernel_rfl) (keyOf_int_mk Try.underlying3 (WalkArith.wf_i64 (by omega)))
end

def SomeTake (w : World) (B0 T M : Nat) (l : List (Int × Bool)) (qv : Value) (q : List Int) (x : Int) (e : Ending) (w' : World) : Prop :=
  ∃ l' qv' q', e = .returned (.bool (!trl l' (-x))) ∧ TrAt w' B0 T M l' qv' q' ∧ Below B0 w w' ∧ ((trl l x = true ∧ l' = l ∧ q' = q) ∨ (trl l x = false ∧ l' = AL.put l x true ∧ q' = q ++ [x]))

set_option maxHeartbeats 1000000 in
theorem ptake_any (B0 T M : Nat) (l : List (Int × Bool)) (qv : Value) (q : List Int) (x : Int) (w : World) (h : TrAt w B0 T M l qv q) (hx : -4000 ≤ x ∧ x ≤ 4000) (hq : q.length ≤ 100000) :
    Calls Try.prog 56 #[.pointer (some ⟨T, 0, none⟩), .int .i64 x] w (SomeTake w B0 T M l qv q x) := by
  obtain ⟨hx1, hx2⟩ := hx
  have H := Lib.hid h
  have hc0 := h.c0
  have hlk := h.lk (x := x) (by omega)
  clear h
  cases ht : trl l x
  · rw [ht] at hlk
    have Ht := Lib.hid ht; clear ht
    obtain ⟨A, c, hqv⟩ := H.out.own.form
    subst hqv
    go_enter Try.func56, Try.ntmps56
    go_wp2_with (first
      | (at_mapUpdate
         refine wpList_mapUpdate_at rfl (.tmp 15) (.tmp 16) _ rfl H.out.map_ (int_keyed Try.underlying3) (ek_int_inj .i64) Try.underlying61 x (.bool true) (keyOf_int_mk Try.underlying3 (WalkArith.wf_i64 (by omega))) rfl rfl rfl ?_
         intro w1 hg1 hsz1 hmap1
         have hT1 : w1.heap[T]? = some (.cells #[.map (some M), .slice A q.length c] 63 (0, 0)) := (hg1.block T H.out.ltT (fun e => H.out.neM (Option.some.inj e))).trans H.out.st
         have HM1 := Lib.hid (hmap1 BoolK true (fun _ _ _ _ h => h) rfl)
         have Hown1 := Lib.hid (H.out.own.kept hg1 (.inr H.out.qM))
         have HT1 := Lib.hid hT1
         have hc1 : w1.cell? ⟨T, 1, none⟩ = some (.slice A q.length c) := by rw [cell_of_row w1 T 1 _ _ _ hT1]; rfl
         have Hb1 := Lib.hid (show Below B0 w w1 from (Below.refl B0 w).grown hg1 (Nat.le_of_lt (Nat.lt_of_le_of_lt H.out.bT H.out.ltT)) (fun k hk => by cases hk; exact H.out.bM))
         have hB1 : B0 ≤ w1.heap.size := by rw [hsz1]; exact Nat.le_of_lt (Nat.lt_of_le_of_lt H.out.bT H.out.ltT)
         clear hlk hc0 hmap1 hT1 hsz1 hg1)
      | (at_builtin
         refine wpList_append_one _ rfl (.tmp 21) (.tmp 23) 23 rfl 3 (.int .i64 0) 8 Try.underlying23 Try.infoInt rfl _ q.length _ rfl Hown1.out (.int .i64 x) rfl 3 rfl (by omega) (by omega) ?_
         intro v' w2 hown2 hg2 hat2
         have hTlt : T < w1.heap.size := (Array.getElem?_eq_some_iff.1 HT1.out).1
         have hqT : (Value.slice A q.length c).ownBlock ≠ some T := own_block_ne Hown1.out HT1.out (by decide)
         have hqM : (Value.slice A q.length c).ownBlock ≠ some M := own_map_ne HM1.out Hown1.out
         have hT2 : w2.heap[T]? = some (.cells #[.map (some M), .slice A q.length c] 63 (0, 0)) := (hg2.block T (by simp; omega) (fun e => hqT e.symm)).trans ((Below.heap_alloc w1 _ T hTlt).trans HT1.out)
         have hMlt := HM1.out.lt
         have HM2 := Lib.hid (HM1.out.keep (R' := BoolK) ((hg2.block M (by simp; omega) (fun e => hqM e.symm)).trans (Below.heap_alloc w1 _ M hMlt)) (fun _ _ _ h => h))
         have hbb := below_append (w0 := w) (B := B0) Hb1.out hB1 (fun g hg => H.out.bq g hg) hg2 hat2
         have Hown2 := Lib.hid hown2.appended
         have Hbb := Lib.hid hbb
         have HT2 := Lib.hid hT2
         have hf2 : w2.frozen? ⟨T, 1, none⟩ = false := by simp [World.frozen?, hT2]
         have hc2 : w2.cell? ⟨T, 1, none⟩ = some (.slice A q.length c) := by rw [cell_of_row w2 T 1 _ _ _ hT2]; rfl
         obtain ⟨A2, c2, rfl⟩ := Hown2.out.form
         have htr : TrAt (w2.setCell ⟨T, 1, none⟩ (.slice A2 (q.length + 1) c2)) B0 T M (AL.put l x true) (.slice A2 (q.length + 1) c2) (q ++ [x]) := by
           have hqT2 : (Value.slice A2 (q.length + 1) c2).ownBlock ≠ some T := own_block_ne Hown2.out hT2 (by decide)
           refine ⟨by rw [heap_setCell_same w2 T 1 _ _ _ hT2]; rfl, HM2.out.keep (Below.heap_setCell w2 _ _ M H.out.neM.symm) (fun _ _ _ h => h), ?_, H.out.bT, H.out.bM, Hbb.out.2⟩
           have h3 := Hown2.out.setCell (p := ⟨T, 1, none⟩) hqT2 (.slice A2 (q.length + 1) c2)
           simpa using h3
         have hlk2 := htr.lk (x := -x) (by omega)
         have hc02 : w2.cell? ⟨T, 0, none⟩ = some (.map (some M)) := by rw [cell_of_row w2 T 0 _ _ _ hT2]; rfl
         have Htr := Lib.hid htr
         clear htr hc1 hbb hown2 hg2 hat2 hT2 hqT hqM hTlt hMlt hB1))
    go_ret
    exact ⟨_, _, _, rfl, Htr.out, Hbb.out.1.setCell (by exact H.out.bT) _, .inr ⟨Ht.out, rfl, rfl⟩⟩
  · rw [ht] at hlk
    have Ht := Lib.hid ht; clear ht
    have hlk2 := H.out.lk (x := -x) (by omega)
    go_enter Try.func56, Try.ntmps56
    go_wp2
    go_ret
    exact ⟨l, qv, q, rfl, H.out, Below.refl _ _, .inl ⟨Ht.out, rfl, rfl⟩⟩
end Go.Proofs.Ytceelipcclfdmaa
