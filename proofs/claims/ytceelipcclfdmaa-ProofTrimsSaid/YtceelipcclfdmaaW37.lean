/- Walks of the program: Units where there is no conflict: a range over the map, the keys sorted. -/
import Derived.Test.YtceelipcclfdmaaW36
import Derived.Test.YtceelipcclfdmaaRange
namespace Go.Proofs.Ytceelipcclfdmaa
open Go.RowKit Go.Maps Go.Sort
set_option linter.unusedVariables false

theorem nodup_idx {α β : Type} {f : α → β} {xs : List α} (h : (xs.map f).Nodup) {i j : Nat} {a b : α} (hi : xs[i]? = some a) (hj : xs[j]? = some b) (e : f a = f b) : i = j := by
  have hlt : i < (xs.map f).length := by have := (List.getElem?_eq_some_iff.1 hi).1; simpa using this
  refine (List.getElem?_inj hlt h).1 ?_
  rw [List.getElem?_map, List.getElem?_map, hi, hj]
  simp [e]

theorem nodup_length_le {l m : List Int} (hn : l.Nodup) (h : ∀ x ∈ l, x ∈ m) : l.length ≤ m.length := by
  induction l generalizing m with
  | nil => simp
  | cons x r ih =>
    rw [List.nodup_cons] at hn
    have hx := h x (List.mem_cons_self ..)
    have := ih (m := m.erase x) hn.2 fun y hy => by
      rw [List.mem_erase_of_ne (by rintro rfl; exact hn.1 hy)]
      exact h y (List.mem_cons_of_mem _ hy)
    rw [List.length_erase_of_mem hx] at this
    have := List.length_pos_of_mem hx
    simp; omega

/-- what has been collected: the keys with 'true' that the range has handed out -/
structure Col (l : List (Int × Bool)) (es : Array MapEntry) (seen : Array Nat) (ks : List Int) : Prop where
  nd : ks.Nodup
  mem : ∀ x, x ∈ ks ↔ ∃ (i : Nat) (e : MapEntry), es.toList[i]? = some e ∧ seen.contains e.born = true ∧ l[i]? = some (x, true)

theorem Col.start (l : List (Int × Bool)) (es : Array MapEntry) : Col l es #[] [] := ⟨List.nodup_nil, fun x => by simp⟩

theorem Col.step {l : List (Int × Bool)} {es : Array MapEntry} {seen : Array Nat} {ks : List Int} (h : Col l es seen ks) (hb : (es.toList.map (·.born)).Nodup) (hk : (l.map Prod.fst).Nodup) {i : Nat} {e : MapEntry} {k : Int} {b : Bool}
    (he : es.toList[i]? = some e) (hl : l[i]? = some (k, b)) (hs : seen.contains e.born = false) : Col l es (seen.push e.born) (if b then ks ++ [k] else ks) := by
  have hcon : ∀ e' : MapEntry, (seen.push e.born).contains e'.born = true ↔ seen.contains e'.born = true ∨ e'.born = e.born := fun e' => by
    simp only [Array.contains_eq_mem, Array.mem_push, decide_eq_true_eq]
  have hnot : ∀ x, x ∈ ks → x ≠ k := by
    rintro x hx rfl
    obtain ⟨j, e', h1, h2, h3⟩ := (h.mem x).1 hx
    have := nodup_idx hk hl h3 rfl
    subst this
    rw [he] at h1
    cases h1
    rw [hs] at h2; cases h2
  cases b
  · simp only [Bool.false_eq_true, if_false]
    refine ⟨h.nd, fun x => ?_⟩
    rw [h.mem x]
    constructor
    · rintro ⟨j, e', h1, h2, h3⟩
      exact ⟨j, e', h1, (hcon e').2 (.inl h2), h3⟩
    · rintro ⟨j, e', h1, h2, h3⟩
      rcases (hcon e').1 h2 with h2 | h2
      · exact ⟨j, e', h1, h2, h3⟩
      · have := nodup_idx (f := fun x : MapEntry => x.born) hb h1 he h2
        subst this
        rw [hl] at h3; cases h3
  · simp only [if_true]
    refine ⟨?_, fun x => ?_⟩
    · rw [List.nodup_append]
      refine ⟨h.nd, by simp, fun x hx y hy => ?_⟩
      rw [List.mem_singleton.1 hy]
      exact hnot x hx
    · rw [List.mem_append, h.mem x, List.mem_singleton]
      constructor
      · rintro (⟨j, e', h1, h2, h3⟩ | rfl)
        · exact ⟨j, e', h1, (hcon e').2 (.inl h2), h3⟩
        · exact ⟨i, e, he, (hcon e).2 (.inr rfl), hl⟩
      · rintro ⟨j, e', h1, h2, h3⟩
        rcases (hcon e').1 h2 with h2 | h2
        · exact .inl ⟨j, e', h1, h2, h3⟩
        · have := nodup_idx (f := fun x : MapEntry => x.born) hb h1 he h2
          subst this
          rw [hl] at h3
          cases h3
          exact .inr rfl

theorem Col.done {l : List (Int × Bool)} {es : Array MapEntry} {seen : Array Nat} {ks : List Int} (h : Col l es seen ks) (hk : (l.map Prod.fst).Nodup) (hlen : es.toList.length = l.length) (hs : (leftOf es seen).size = 0) (x : Int) : x ∈ ks ↔ trl l x = true := by
  rw [h.mem x]
  constructor
  · rintro ⟨i, e, _, _, h3⟩
    unfold trl
    rw [AL.get_some hk h3]; rfl
  · intro ht
    unfold trl at ht
    cases hg : AL.get l x with
    | none => rw [hg] at ht; cases ht
    | some b =>
      rw [hg] at ht
      obtain rfl : b = true := ht
      obtain ⟨i, hi⟩ := List.getElem?_of_mem (AL.get_mem hg)
      have hil := (List.getElem?_eq_some_iff.1 hi).1
      have he : es.toList[i]? = some es.toList[i] := List.getElem?_eq_getElem (by omega)
      exact ⟨i, _, he, leftOf_done hs _ (List.mem_of_getElem? he), hi⟩

namespace S
theorem der_lit {n : Int} {cs : List (List Int)} {given : List Int} (hcs : cs.all (isClause n) = true) (hg : isClause n given = true) {l : Int} (h : Der cs given l) : isLit n l = true := by
  induction h with
  | given_ h => exact List.all_eq_true.1 hg _ h
  | @unit_ l c hc hl _ _ => exact List.all_eq_true.1 (List.all_eq_true.1 hcs c hc) l hl

theorem unitsList_inc (n : Nat) (cs : List (List Int)) (given : List Int) : (unitsList n cs given).Pairwise (· < ·) := by
  unfold unitsList
  rw [List.pairwise_append]
  refine ⟨?_, ?_, ?_⟩
  · refine List.Pairwise.filter _ ?_
    unfold below
    rw [List.pairwise_map]
    exact List.pairwise_lt_range.imp fun {a b} h => by omega
  · refine List.Pairwise.filter _ ?_
    unfold above
    rw [List.pairwise_map]
    exact List.pairwise_lt_range.imp fun {a b} h => by omega
  · intro x hx y hy
    have hx' := (List.mem_filter.1 hx).1
    have hy' := (List.mem_filter.1 hy).1
    unfold below at hx'
    unfold above at hy'
    obtain ⟨i, hi, rfl⟩ := List.mem_map.1 hx'
    obtain ⟨j, hj, rfl⟩ := List.mem_map.1 hy'
    have := List.mem_range.1 hi
    omega
theorem mem_unitsList {n : Nat} {cs : List (List Int)} {given : List Int} (hcs : cs.all (isClause n) = true) (hg : isClause n given = true) (x : Int) : x ∈ unitsList n cs given ↔ Der cs given x := by
  unfold unitsList
  rw [List.mem_append, List.mem_filter, List.mem_filter, derB_iff]
  constructor
  · rintro (h | h)
    · exact h.2
    · exact h.2
  · intro h
    have hl := der_lit hcs hg h
    have hl' : -(n : Int) ≤ x ∧ x ≤ n ∧ x ≠ 0 := by simpa [isLit] using hl
    by_cases h0 : x < 0
    · refine .inl ⟨?_, h⟩
      unfold below
      exact List.mem_map.2 ⟨(x + n).toNat, by rw [List.mem_range]; omega, by omega⟩
    · refine .inr ⟨?_, h⟩
      unfold above
      exact List.mem_map.2 ⟨(x - 1).toNat, by rw [List.mem_range]; omega, by omega⟩
theorem units_sorted {n : Nat} {cs : List (List Int)} {given : List Int} {ks : List Int} (hcs : cs.all (isClause n) = true) (hg : isClause n given = true) (hn : ks.Nodup) (hk : ∀ x, x ∈ ks ↔ Der cs given x) : srt ks = unitsList n cs given :=
  inc_eq (srt_inc hn) (unitsList_inc n cs given) fun x => by rw [mem_srt, hk, mem_unitsList hcs hg]
end S

theorem own_iter_ne {w : World} {e : TypeId} {s n : Nat} {v : Value} {xs : List Value} (h : OwnAt w e s v n xs) {b : Nat} {a : Option Nat} {c d : Nat} {sn : Array Nat} (hg : w.heap[b]? = some (.mapIter a c sn d)) : v.ownBlock ≠ some b := by
  rcases h.2 with ⟨rfl, _⟩ | ⟨g', off, cap, cur, rfl, hh, _⟩
  · simp [Value.ownBlock]
  · intro he
    have : g' = b := by simpa [Value.ownBlock] using he
    subst this
    rw [hg] at hh; cases hh

def SomeUnitsP (w : World) (r : List Int × Bool × Int) (e : Ending) (w' : World) : Prop := ∃ A m c, e = .returned (.tuple #[.slice A m c, .bool r.2.1, .int .i64 r.2.2]) ∧ SlAt (IntR .i64) w' A m r.1 ∧ Below w.heap.size w w'

set_option maxRecDepth 100000 in
set_option maxHeartbeats 4000000 in
theorem units_list (n : Nat) (A D : Option Addr) (m c p d : Nat) (cs : List (List Int)) (given : List Int) (w : World) (hA : SlAt (SlR (IntR .i64)) w A m cs) (hD : SlAt (IntR .i64) w D p given)
    (h0 : S.validate n cs = 0) (hg : S.isClause n given = true) (hi : ¬ S.Incons cs given) (ht : tot cs ≤ 10000000) :
    Calls Try.prog 12 #[.int .i64 n, .slice A m c, .slice D p d] w (SomeUnitsP w (S.unitsList n cs given, false, 0)) := by
  obtain ⟨hn0, hn4, hm, hc1⟩ := validate_zero h0
  have hb0 : Below w.heap.size w (w.alloc (.cells #[.int .i64 n] 3)) := (Below.refl _ _).alloc (Nat.le_refl _) _
  have con := validate_any n A m c cs _ (hA.below (monoSl (monoInt _)) hb0)
  rw [h0] at con
  have Hcon := Lib.hid con; clear con
  have hm2 : m ≤ 24000 := by rw [← hA.len]; omega
  have HA := Lib.hid hA; clear hA
  have HD := Lib.hid hD; clear hD
  have HC := Lib.hid hc1; clear hc1
  have HG := Lib.hid hg; clear hg h0
  have HI := Lib.hid hi; clear hi
  have hcell0 : (w.alloc (.cells #[.int .i64 n] 3)).cell? ⟨w.heap.size, 0, none⟩ = some (.int .i64 n) := cell_alloc_box w _ _
  have hmf : ∀ (fn : Fn) (first cap : Array Value) (w : World), (Instr.makeFunc fn first cap).run Try.prog w = .ok (.func fn first cap) w := fun _ _ _ _ => rfl
  go_enter Try.func12, Try.ntmps12
  go_wp2_with fail
  refine Hcon.out.mono ?_
  rintro e w1 ⟨rfl, hb1⟩
  have Hb1 := Lib.hid (hb0.trans (hb1.mono hb0.size))
  have hcell : w1.cell? ⟨w.heap.size, 0, none⟩ = some (.int .i64 n) := (hb1.cell (p := ⟨w.heap.size, 0, none⟩) (by simp)).trans hcell0
  have Hcell := Lib.hid hcell; clear hcell hcell0 hb0 hb1
  have con2 := hasU_any (fun x => !S.isLit n x) w.heap.size D p d given w1 (HD.out.below (monoInt _) Hb1.out) (fun y _ W hW => (cloU_any n y w.heap.size W (by omega) (by omega) (by
      obtain ⟨q, rfl⟩ := hW; exact Hcell.out)).mono fun e w' h => ⟨h.1, h.2 ▸ Dr.refl _⟩)
  rw [any_notLit, HG.out] at con2
  have Hcon2 := Lib.hid con2; clear con2
  go_wp2_with fail
  refine Hcon2.out.mono ?_
  rintro e w2 ⟨rfl, hd2⟩
  have Hb2 := Lib.hid (Hb1.out.dr hd2); clear hd2
  have Hcon3 := Lib.hid (open_any n A m c cs w2 (HA.out.below (monoSl (monoInt _)) Hb2.out) HC.out (by omega) ht (by omega))
  go_wp2_with fail
  refine Hcon3.out.mono ?_
  rintro e w3 ⟨Bk, Mw, cv, us, lw, blk, rfl, hbk, hidx, hb3⟩
  have Hb3 := Lib.hid (Hb2.out.trans (hb3.mono Hb2.out.size))
  have Hcon4 := Lib.hid (propagate_any w2 w2.heap.size Bk Mw cv us cs lw blk (tot cs) n D p d given w3 hbk hidx hb3 (HD.out.below (monoInt _) Hb3.out) HG.out HC.out (by omega))
  clear hbk hidx hb3
  go_wp2_with fail
  refine Hcon4.out.mono ?_
  rintro e w4 ⟨hb4, ⟨rfl, hinc⟩ | ⟨T, M, l, qv, q, rfl, htr, _, hder⟩⟩
  · exact absurd hinc HI.out
  · have Hb4 := Lib.hid (Hb3.out.trans (hb4.mono Hb3.out.size)); clear hb4
    have hc0 := htr.c0
    obtain ⟨es, clock, hM, hst, hlen, hent⟩ := htr.map_
    have hkeys := mapAt_nodup hst hlen hent
    have hMlt : M < w4.heap.size := (Array.getElem?_eq_some_iff.1 hM).1
    have hrg := run_range_map (P := Try.prog) w4 61 _ _ M es clock Try.underlying61 hM
    have Hst := Lib.hid hst; clear hst
    have Hlen := Lib.hid hlen; clear hlen
    have Hent := Lib.hid hent; clear hent
    have Hkeys := Lib.hid hkeys; clear hkeys
    have Hder := Lib.hid hder; clear hder
    have HM := Lib.hid hM; clear hM htr
    have hM5 : (w4.alloc (.mapIter (some M) clock #[] clock)).heap[M]? = some (.map es clock) := (Below.heap_alloc w4 _ M hMlt).trans HM.out
    have hr5 : (w4.alloc (.mapIter (some M) clock #[] clock)).heap[w4.heap.size]? = some (.mapIter (some M) clock #[] clock) := heap_alloc_new w4 _
    have HM5 := Lib.hid hM5; clear hM5
    have HR5 := Lib.hid hr5; clear hr5
    go_wp2
    clear hrg
    go_loopg [12] (es.size + 1) (fun g u wr => ∃ (L : Nat) (seen : Array Nat) (c0 : Nat) (ks : List Int), (leftOf es seen).size + 1 ≤ g ∧ clock ≤ c0 ∧ wr.heap[w4.heap.size]? = some (.mapIter (some M) clock seen c0) ∧ wr.heap[M]? = some (.map es clock) ∧ OwnAt wr 3 1 u L (ks.map (Value.int .i64)) ∧ Below w4.heap.size w4 wr ∧ (∀ g, u.ownBlock = some g → w4.heap.size ≤ g) ∧ Col l es seen ks ∧ L = ks.length)
    case atStart =>
      refine ⟨0, #[], clock, [], ?_, Nat.le_refl _, HR5.out, HM5.out, OwnAt.nil_ _ _ _, (Below.refl _ _).alloc (Nat.le_refl _) _, fun g hg => by simp [Value.ownBlock] at hg, Col.start _ _, rfl⟩
      have : (leftOf es #[]).size ≤ es.size := by unfold leftOf; exact Array.size_filter_le
      omega
    case round =>
      clear HM5 HR5
      obtain ⟨L, seen, c0, ks, hgk, hcc, hr, hMr, hown, hbw, hob, hcol, hL⟩ := hrel
      have Hgk := Lib.hid hgk; clear hgk
      have Hr := Lib.hid hr; clear hr
      have HMr := Lib.hid hMr; clear hMr
      have Hown := Lib.hid hown; clear hown
      have Hob := Lib.hid hob; clear hob
      have Hcol := Lib.hid hcol; clear hcol
      have HL := Lib.hid hL; clear hL
      have hLb : L ≤ 8000 := by
        have h1 : ks.length ≤ (S.lits n).length := nodup_length_le Hcol.out.nd fun x hx => by
          obtain ⟨i, e, h1, h2, h3⟩ := (Hcol.out.mem x).1 hx
          refine S.mem_lits (S.der_lit HC.out HG.out ((Hder.out x).1 ?_))
          unfold trl
          rw [AL.get_some Hkeys.out h3]; rfl
        rw [S.length_lits] at h1
        have := HL.out
        omega
      rcases run_next_at (P := Try.prog) wr 0 w4.heap.size M clock c0 seen es clock Hr.out HMr.out (fun x hx => (Hst.out.1 x hx)) hcc with ⟨hz, hnx⟩ | ⟨e, he, w5, hw5, hnx⟩
      · have Hz := Lib.hid hz; clear hz
        have hown := Hown.out
        obtain ⟨A5, c5, hu5⟩ := hown.form
        subst hu5
        have Hcon5 := Lib.hid (sort_own _ L ks wr hown (by omega))
        clear hown
        go_wp2_with fail
        refine Hcon5.out.mono ?_
        rintro e w6 ⟨rfl, hown6, hg6⟩
        have Hb6 := Lib.hid (hbw.grown hg6 hbw.size Hob.out)
        have hsrt : srt ks = S.unitsList n cs given := S.units_sorted HC.out HG.out Hcol.out.nd fun x => by
          rw [Hcol.out.done Hkeys.out Hlen.out Hz.out, Hder.out]
        rw [hsrt] at hown6
        have Hs6 := Lib.hid hown6.slInts; clear hown6 hg6 hsrt
        go_wp2
        go_ret3
        exact ⟨A5, L, c5, rfl, Hs6.out, Hb4.out.trans (Hb6.out.mono Hb4.out.size)⟩
      · have hel : e ∈ es.toList ∧ seen.contains e.born = false := by
          have he2 := he
          unfold leftOf at he2
          simp only [Array.toList_filter, List.mem_filter] at he2
          exact ⟨he2.1, by simpa using he2.2⟩
        obtain ⟨i, hi⟩ := List.getElem?_of_mem hel.1
        obtain ⟨k, b, hlk⟩ := mapAt_entry Hlen.out hi
        obtain ⟨e', h1, h2, h3, _⟩ := Hent.out i k b hlk
        rw [hi] at h1
        cases h1
        have h3' : e.val = .bool b := h3
        have hstep := leftOf_step he
        have hcol2 := Hcol.out.step Hst.out.2.1 Hkeys.out hi hlk hel.2
        have hb5 : Below w4.heap.size w4 w5 := by rcases hw5 with rfl | rfl; exact hbw; exact hbw.drew
        have hr5 : w5.heap[w4.heap.size]? = some (.mapIter (some M) clock seen c0) := by rcases hw5 with rfl | rfl <;> exact Hr.out
        have hM5 : w5.heap[M]? = some (.map es clock) := by rcases hw5 with rfl | rfl <;> exact HMr.out
        have hown5 : OwnAt w5 3 1 u12 L (ks.map (Value.int .i64)) := by rcases hw5 with rfl | rfl <;> exact Hown.out
        have hrlt : w4.heap.size < w5.heap.size := (Array.getElem?_eq_some_iff.1 hr5).1
        obtain ⟨w6, hw6⟩ : ∃ W, W = putObj w5 w4.heap.size (.mapIter (some M) clock (seen.push e.born) clock) := ⟨_, rfl⟩
        rw [← hw6, h2, h3'] at hnx
        have hr6 : w6.heap[w4.heap.size]? = some (.mapIter (some M) clock (seen.push e.born) clock) := by rw [hw6]; exact putObj_same _ hrlt
        have hM6 : w6.heap[M]? = some (.map es clock) := by rw [hw6]; exact (putObj_other _ (by omega)).trans hM5
        have hen := run_entry_at (P := Try.prog) w6 w4.heap.size M clock seen es clock e hr6 hM6 hel.1 Hst.out.2.1
        rw [h2, h3'] at hen
        have hb6 : Below w4.heap.size w4 w6 := by rw [hw6]; exact putObj_below _ hb5 (Nat.le_refl _)
        have hown6 : OwnAt w6 3 1 u12 L (ks.map (Value.int .i64)) := hown5.same fun g hg => by
          rw [hw6]; exact putObj_other _ (fun e => own_iter_ne hown5 hr5 (by rw [← e]; exact hg))
        have hne6 : u12.ownBlock ≠ some w4.heap.size := own_iter_ne hown6 hr6
        have hneM : u12.ownBlock ≠ some M := fun e => by have := Hob.out M e; omega
        have hs6 : w4.heap.size < w6.heap.size := (Array.getElem?_eq_some_iff.1 hr6).1
        clear hr5 hM5 hown5 hb5 hw6 hw5 h3 h3' h2 hi hlk he hel hrlt
        have Hr6 := Lib.hid hr6; clear hr6
        have HM6 := Lib.hid hM6; clear hM6
        have Hown6 := Lib.hid hown6; clear hown6
        have Hb6 := Lib.hid hb6; clear hb6
        have Hcol2 := Lib.hid hcol2; clear hcol2
        have Hstep := Lib.hid hstep; clear hstep
        have Hne := Lib.hid (And.intro hne6 hneM); clear hne6 hneM
        cases b
        · go_wp2
          go_roundg (gk - 1)
          case measure => have := Hgk.out; omega
          case rel => have := Hgk.out; have := Hstep.out; exact ⟨L, _, clock, ks, by omega, Nat.le_refl _, Hr6.out, HM6.out, Hown6.out, Hb6.out, Hob.out, by simpa using Hcol2.out, HL.out⟩
        · go_wp2_with (at_builtin; refine wpList_append_one _ rfl (.tmp 44) (.tmp 46) 23 rfl 3 (.int .i64 0) 8 Try.underlying23 Try.infoInt rfl _ L _ rfl Hown6.out (.int .i64 k) rfl 3 rfl (by omega) (by omega) ?_; intro v' w7 hown7 hgr hat)
          have Hown7 := Lib.hid hown7.appended; clear hown7
          have hr7 := (hgr.block w4.heap.size (by simp; omega) (Ne.symm Hne.out.1)).trans ((Below.heap_alloc w6 _ _ hs6).trans Hr6.out)
          have hM7 := (hgr.block M (by simp; omega) (Ne.symm Hne.out.2)).trans ((Below.heap_alloc w6 _ _ (by omega)).trans HM6.out)
          obtain ⟨hb7, hv7⟩ := below_append Hb6.out (Nat.le_of_lt hs6) Hob.out hgr hat
          have Hr7 := Lib.hid hr7; clear hr7
          have HM7 := Lib.hid hM7; clear hM7
          have Hv7 := Lib.hid hv7; clear hv7 hgr hat
          go_wp2
          go_roundg (gk - 1)
          case measure => have := Hgk.out; omega
          case rel => have := Hgk.out; have := Hstep.out; exact ⟨L + 1, _, clock, ks ++ [k], by omega, Nat.le_refl _, Hr7.out, HM7.out, Hown7.out, hb7, Hv7.out, by simpa using Hcol2.out, by have := HL.out; simp; omega⟩
end Go.Proofs.Ytceelipcclfdmaa
