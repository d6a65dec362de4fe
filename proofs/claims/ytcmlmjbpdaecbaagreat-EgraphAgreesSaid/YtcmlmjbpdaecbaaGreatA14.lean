/- Merged: QG9, QPlainEN, QG10, QG11. -/
import Derived.Test.YtcmlmjbpdaecbaaGreatA13
import Derived.Test.YtcmlmjbpdaecbaaGreatA10
set_option linter.unusedVariables false
set_option linter.unusedSimpArgs false
section
namespace Go.Proofs.YtcmlmjbpdaecbaaGreat
open Go.RowKit Go.MapKept Go.Maps Go.WideMaps
set_option linter.unusedVariables false
set_option linter.unusedSimpArgs false

namespace E
theorem fix_iff {p : List Nat} (hd : Down p) (c : Nat) : p.getD c c = c ↔ root p c = c := ⟨root_of_fix, fun h => by have := root_fix hd c; rwa [h] at this⟩
/-- the classes below a number that are still there -/
def clsTo (p : List Nat) (j : Nat) : List Nat := (List.range j).filter fun c => decide (root p c = c)
theorem clsTo_succ (p : List Nat) (j : Nat) : clsTo p (j + 1) = if root p j = j then clsTo p j ++ [j] else clsTo p j := by
  unfold clsTo
  rw [List.range_succ, List.filter_append]
  by_cases h : root p j = j
  · rw [if_pos h]; simp [h]
  · rw [if_neg h]; simp [h]
theorem clsTo_len (p : List Nat) (j : Nat) : (clsTo p j).length ≤ j := by
  unfold clsTo
  have := List.length_filter_le (fun c => decide (root p c = c)) (List.range j)
  simpa using this
theorem clsTo_roots (p : List Nat) : (clsTo p p.length).length = roots p := by
  unfold clsTo roots
  rw [List.countP_eq_length_filter]
end E

set_option maxRecDepth 100000 in
set_option maxHeartbeats 1000000 in
theorem gclasses_any {W : World} {b : Nat} {p : List Nat} {wd : List Int} {es kn : List (E.Opn × Nat)} {nm : List Nat} {vr : E.Vr} {v1 v2 v3 v4 : Value} {kb : Nat} (h : GrC W b p wd es kn nm vr v1 v2 v3 v4 kb) (hd : E.Down p) (hn : p.length ≤ 900000) :
    Calls Tryz.prog 48 #[.pointer (some ⟨b, 0, none⟩)] W fun e W' => ∃ A c, e = .returned (.slice A (E.clsTo p p.length).length c) ∧ SlAt (IntR .i64) W' A (E.clsTo p p.length).length (ini (E.clsTo p p.length)) ∧ Below W.heap.size W W' := by
  obtain ⟨A, ca, rfl, hs⟩ := h.slP
  obtain ⟨k0, _, _, _, _⟩ := h.cells
  have Hs := Lib.hid hs
  have Hd := Lib.hid hd
  clear h hs hd
  go_enter Tryz.func48, Tryz.ntmps48
  go_wp2
  clear k0
  go_loopg [3, 11] (p.length + 1) (fun gg s3 s11 wr => ∃ (j : Nat) (v : Value), j ≤ p.length ∧ s3 = v ∧ s11 = .int .i64 (j : Int) ∧ gg + j = p.length + 1 ∧ Hid (OwnAt wr 3 1 v (E.clsTo p j).length (ivs (E.clsTo p j))) ∧ Hid (Below W.heap.size W wr) ∧ Hid (∀ i, v.ownBlock = some i → W.heap.size ≤ i))
  case atStart => exact ⟨0, .slice none 0 0, Nat.zero_le _, rfl, rfl, rfl, Lib.hid (OwnAt.nil_ _ _ _), Lib.hid (Below.refl _ _), Lib.hid (fun i e => by simp [Value.ownBlock] at e)⟩
  case round =>
    obtain ⟨j, v, hj, rfl, rfl, hgk, Ho, Hb, Hnw⟩ := hrel
    have Hgk := Lib.hid hgk
    clear hgk
    obtain ⟨Av, cv, hv⟩ := Ho.out.form
    subst hv
    by_cases hjl : j < p.length
    · obtain ⟨x, ba, off, u, hx, rfl, hba, hcell, rfl⟩ := (Hs.out.below (monoInt _) Hb.out).at_ hjl
      obtain ⟨d, rfl, hd'⟩ := ini_some hx
      have hpd : p.getD j j = d := by rw [List.getD_eq_getElem?_getD, hd']; rfl
      have hfix := E.fix_iff Hd.out j
      rw [hpd] at hfix
      have Hfix := Lib.hid hfix
      have hcl := E.clsTo_len p j
      clear hx hd' hpd hfix hba
      by_cases hdj : d = j
      · subst hdj
        have hroot := Hfix.out.1 rfl
        have Hroot := Lib.hid hroot
        clear hroot Hfix
        have Hs2 := Lib.hid (show W.heap.size ≤ wr.heap.size from Hb.out.size)
        go_wp2_with (at_builtin; refine wpList_append_one' rfl (.tmp 19) (.tmp 21) 60 rfl 3 (.int .i64 0) 8 Tryz.underlying60 infoInt rfl _ (E.clsTo p d).length _ rfl Ho.out (.int .i64 (d : Int)) rfl 3 wr.heap.size rfl rfl (by omega) (by omega) ?_; intro v' w5 hown' hgr hat; have Hown' := Lib.hid hown'; have Hgr := Lib.hid hgr; have Hat := Lib.hid hat; clear hown' hgr hat)
        go_roundg (gk - 1)
        case measure => have := Hgk.out; omega
        case rel =>
          have := Hgk.out
          have hc := E.clsTo_succ p d
          rw [if_pos Hroot.out] at hc
          refine ⟨d + 1, v', by omega, rfl, by go_num, by omega, Lib.hid ?_, Lib.hid ((Hb.out.alloc (by simpa using Hs2.out) _).grown Hgr.out (by have := Hs2.out; simp; omega) (fun g hg => Hnw.out g hg)), Lib.hid fun i hi => ?_⟩
          · rw [hc, List.length_append, List.length_singleton, show ivs (E.clsTo p d ++ [d]) = ivs (E.clsTo p d) ++ [.int .i64 (d : Int)] by simp [ivs]]
            exact Hown'.out
          · rcases Hat.out with e | e
            · exact Hnw.out i (e ▸ hi)
            · rw [e] at hi; injection hi with hi; have := Hs2.out; omega
      · have hne : ((j : Int) == (d : Int)) = false := by simp; omega
        have hroot : ¬ E.root p j = j := fun h => hdj (Hfix.out.2 h)
        have Hroot := Lib.hid hroot
        clear hroot hdj Hfix
        go_wp2
        go_roundg (gk - 1)
        case measure => have := Hgk.out; omega
        case rel =>
          have := Hgk.out
          have hc := E.clsTo_succ p j
          rw [if_neg Hroot.out] at hc
          exact ⟨j + 1, .slice Av (E.clsTo p j).length cv, by omega, rfl, by go_num, by omega, Lib.hid (by rw [hc]; exact Ho.out), Hb, Hnw⟩
    · obtain rfl : j = p.length := by omega
      go_wp2
      go_ret
      refine ⟨Av, cv, rfl, ?_, Hb.out⟩
      have ho := Ho.out
      rw [show ivs (E.clsTo p p.length) = (ini (E.clsTo p p.length)).map (Value.int .i64) by simp [ivs, ini]] at ho
      exact ho.slInts

set_option maxRecDepth 100000 in
theorem gClasses_any {W : World} {b : Nat} {p : List Nat} {wd : List Int} {es kn : List (E.Opn × Nat)} {nm : List Nat} {vr : E.Vr} {v1 v2 v3 v4 : Value} {kb : Nat} (h : GrC W b p wd es kn nm vr v1 v2 v3 v4 kb) (hd : E.Down p) (hn : p.length ≤ 900000) :
    Calls Tryz.prog 21 #[.pointer (some ⟨b, 0, none⟩)] W fun e W' => e = .returned (.int .i64 (E.roots p : Nat)) ∧ Below W.heap.size W W' := by
  have Hc := Lib.hid (gclasses_any h hd hn)
  clear h hd
  go_enter Tryz.func21, Tryz.ntmps21
  go_wp2_with fail
  (with_reducible refine Hc.out.mono ?_)
  rintro e w2 ⟨A, c, rfl, hs, hb⟩
  have Hb := Lib.hid hb
  clear hs hb
  go_wp2
  go_ret
  exact ⟨congrArg (fun n : Nat => Ending.returned (Value.int .i64 (n : Int))) (E.clsTo_roots p), Hb.out⟩

set_option maxRecDepth 100000 in
theorem gNodes_any {W : World} {b : Nat} {p : List Nat} {wd : List Int} {es kn : List (E.Opn × Nat)} {nm : List Nat} {vr : E.Vr} {v1 v2 v3 v4 : Value} {kb : Nat} (h : GrC W b p wd es kn nm vr v1 v2 v3 v4 kb) :
    Calls Tryz.prog 22 #[.pointer (some ⟨b, 0, none⟩)] W fun e W' => e = .returned (.int .i64 (es.length : Nat)) ∧ W' = W := by
  obtain ⟨_, _, k2, _, _⟩ := h.cells
  obtain ⟨A, c, rfl⟩ := h.o3.form
  clear h
  go_enter Tryz.func22, Tryz.ntmps22
  go_wp2
  go_ret
  exact ⟨rfl, rfl⟩

set_option maxRecDepth 100000 in
theorem gNew_any (W : World) : Calls Tryz.prog 30 #[] W fun e W' => e = .returned (.pointer (some ⟨W.heap.size + 1, 0, none⟩)) ∧ GrC W' (W.heap.size + 1) [] [] [] [] [] E.Vr.zero (.slice none 0 0) (.slice none 0 0) (.slice none 0 0) (.slice none 0 0) W.heap.size ∧ Below W.heap.size W W' := by
  have hmk := fun W => run_makeMap_any (P := Tryz.prog) Tryz.underlying77 W
  go_enter Tryz.func30, Tryz.ntmps30
  go_wp2
  go_ret
  have hn : ∀ {g : Nat}, (Value.slice none 0 0).ownBlock ≠ some g := fun e => by simp [Value.ownBlock] at e
  refine ⟨by simp, ⟨new_two W _ _, OwnAt.nil_ _ _ _, OwnAt.nil_ _ _ _, OwnAt.nil_ _ _ _, ?_, OwnAt.nil_ _ _ _, fun g e => absurd e hn, fun g e => absurd e hn, fun g e => absurd e hn⟩, ((Below.refl _ _).alloc (Nat.le_refl _) _).alloc (by simp) _⟩
  refine (MapAt.made (R := NatE) W).keep ?_ (fun _ _ _ h => h)
  exact Below.heap_alloc _ _ _ (by simp)
end Go.Proofs.YtcmlmjbpdaecbaaGreat
end
section
namespace Go.Proofs.YtcmlmjbpdaecbaaGreat
set_option linter.unusedVariables false
set_option linter.unusedSimpArgs false
namespace E
/-- a number that Add returned -/
def nmOk (nm : List Nat) (a : Int) : Bool := decide (0 ≤ a) && decide (a < (nm.length : Int))
/-- the class that a number names -/
def nr (p nm : List Nat) (a : Int) : Nat := root p (nm.getD a.toNat 0)
theorem nr_lt {p nm : List Nat} (h : ∀ c ∈ nm, c < p.length) {a : Int} (ha : nmOk nm a = true) : nr p nm a < p.length := by
  simp [nmOk] at ha
  refine root_lt (h _ ?_)
  rw [List.getD_eq_getElem?_getD, List.getElem?_eq_getElem (by omega)]
  exact List.getElem_mem _
end E
end Go.Proofs.YtcmlmjbpdaecbaaGreat
end
section
namespace Go.Proofs.YtcmlmjbpdaecbaaGreat
open Go.RowKit Go.MapKept Go.Maps Go.WideMaps
set_option linter.unusedVariables false
set_option linter.unusedSimpArgs false

set_option maxRecDepth 100000 in
set_option maxHeartbeats 2000000 in
theorem gnamed_any {W : World} {b : Nat} {p : List Nat} {wd : List Int} {es kn : List (E.Opn × Nat)} {nm : List Nat} {vr : E.Vr} {v1 v2 v3 v4 : Value} {kb : Nat} (h : GrC W b p wd es kn nm vr v1 v2 v3 v4 kb) (ok : E.Ok p wd es nm) {A : Option Addr} {n c : Nat} {l : List Int} (hl : SlAt (IntR .i64) W A n l) (hn : n ≤ 900000) :
    Calls Tryz.prog 58 #[.pointer (some ⟨b, 0, none⟩), .slice A n c] W fun e W' => Below W.heap.size W W' ∧
      ((l.all (E.nmOk nm) = true ∧ ∃ A' c', e = .returned (.tuple #[.slice A' n c', .int .i64 0]) ∧ SlAt (IntR .i64) W' A' n (ini (l.map (E.nr p nm)))) ∨ (l.all (E.nmOk nm) = false ∧ e = .returned (.tuple #[.slice none 0 0, .int .i64 4]))) := by
  have Hln := Lib.hid hl.len
  have Hl := Lib.hid hl
  have Hg := Lib.hid h
  have Ok := Lib.hid ok
  have Hnm := Lib.hid (show ∃ A4 c4, v4 = .slice A4 nm.length c4 ∧ SlAt (IntR .i64) W A4 nm.length (ini nm) from by
    obtain ⟨A4, c4, rfl⟩ := h.o4.form
    have ho := h.o4
    rw [show ivs nm = (ini nm).map (Value.int .i64) by simp [ivs, ini]] at ho
    exact ⟨A4, c4, rfl, ho.slInts⟩)
  obtain ⟨A4, c4, rfl, hs4⟩ := Hnm.out
  have Hs4 := Lib.hid hs4
  have hle4 := hs4.le
  clear h ok hl Hnm hs4
  have Hb0 := Lib.hid (Hg.out.lt b (.inl rfl))
  have k4 := Hg.out.cells.2.2.2.2
  have Hk4 := Lib.hid k4
  clear k4
  go_enter Tryz.func58, Tryz.ntmps58
  go_wp2
  go_loopg [6, 13] (n + 1) (fun gg s6 s13 wr => ∃ (j : Nat) (v : Value), j ≤ n ∧ s6 = v ∧ s13 = .int .i64 (j : Int) ∧ gg + j = n + 1 ∧ Hid (OwnAt wr 3 1 v j (ivs ((l.take j).map (E.nr p nm)))) ∧ Hid (Below W.heap.size W wr) ∧ Hid (∀ i, v.ownBlock = some i → W.heap.size ≤ i) ∧ Hid ((l.take j).all (E.nmOk nm) = true))
  case atStart => exact ⟨0, .slice none 0 0, Nat.zero_le _, rfl, rfl, rfl, Lib.hid (OwnAt.nil_ _ _ _), Lib.hid (Below.refl _ _), Lib.hid (fun i e => by simp [Value.ownBlock] at e), Lib.hid rfl⟩
  case round =>
    obtain ⟨j, v, hj, rfl, rfl, hgk, Ho, Hb, Hnw, Hall⟩ := hrel
    have Hgk := Lib.hid hgk
    clear hgk
    obtain ⟨Av, cv, hv⟩ := Ho.out.form
    subst hv
    by_cases hjl : j < n
    · obtain ⟨x, ba, off, u, hx, rfl, hba, hcell, rfl⟩ := (Hl.out.below (monoInt _) Hb.out).at_ hjl
      have Hx := Lib.hid hx
      have k4 : wr.cell? ⟨b, 4, none⟩ = some (.slice A4 nm.length c4) := (Hb.out.cell (p := ⟨b, 4, none⟩) Hb0.out).trans Hk4.out
      have Htk := Lib.hid (show l.take (j + 1) = l.take j ++ [x] from by rw [List.take_add_one, Hx.out]; rfl)
      clear hx hba
      by_cases hneg : x < 0
      · have Hneg := Lib.hid hneg
        clear hneg
        have hneg := Hneg.out
        have Hall2 := Lib.hid (show l.all (E.nmOk nm) = false from by
          rw [Bool.eq_false_iff]
          intro h
          rw [List.all_eq_true] at h
          have := h x (List.mem_of_getElem? Hx.out)
          simp [E.nmOk] at this
          omega)
        go_wp2
        refine bodyPost_ret (results_tmp2 rfl _ _ _) rfl ?_
        exact ⟨Hb.out, .inr ⟨by have := Hall2.out; simpa using this, rfl⟩⟩
      · by_cases hbig : (nm.length : Int) ≤ x
        · have hbig' : decide (x ≥ (nm.length : Int)) = true := by simpa using hbig
          have Hall2 := Lib.hid (show l.all (E.nmOk nm) = false from by
            rw [Bool.eq_false_iff]
            intro h
            rw [List.all_eq_true] at h
            have := h x (List.mem_of_getElem? Hx.out)
            simp [E.nmOk] at this
            omega)
          go_wp2
          refine bodyPost_ret (results_tmp2 rfl _ _ _) rfl ?_
          exact ⟨Hb.out, .inr ⟨by have := Hall2.out; simpa using this, rfl⟩⟩
        · obtain ⟨m, rfl⟩ : ∃ m : Nat, x = m := ⟨x.toNat, by omega⟩
          have hmn : m < nm.length := by omega
          have Hok := Lib.hid (show E.nmOk nm (m : Int) = true from by simp [E.nmOk]; exact hmn)
          obtain ⟨y, bb, offb, u, hy, rfl, hbb, hcb, rfl⟩ := (Hs4.out.below (monoInt _) Hb.out).at_ hmn
          obtain ⟨d, rfl, hd'⟩ := ini_some hy
          have hdp := Ok.out.nm d (List.mem_of_getElem? hd')
          have Hf := Lib.hid ((Hg.out.below Hb.out).find Ok.out.down d hdp)
          have Hr := Lib.hid (show E.root p d = E.nr p nm (m : Int) from by unfold E.nr; rw [Int.toNat_natCast, List.getD_eq_getElem?_getD, hd']; rfl)
          have Hs2 := Lib.hid (show W.heap.size ≤ wr.heap.size from Hb.out.size)
          clear hy hbb hd' hdp hmn
          have hb2 : ¬ (m : Int) ≥ (nm.length : Int) := hbig
          go_wp2_with fail
          (with_reducible refine Hf.out.mono ?_)
          rintro e w2 ⟨rfl, rfl⟩
          rw [Hr.out]
          go_wp2_with (at_builtin; refine wpList_append_one' rfl (.tmp 28) (.tmp 38) 60 rfl 3 (.int .i64 0) 8 Tryz.underlying60 infoInt rfl _ j _ rfl Ho.out (.int .i64 ((E.nr p nm (m : Int) : Nat) : Int)) rfl 3 w2.heap.size rfl rfl (by omega) (by omega) ?_; intro v' w5 hown' hgr hat; have Hown' := Lib.hid hown'; have Hgr := Lib.hid hgr; have Hat := Lib.hid hat; clear hown' hgr hat)
          go_roundg (gk - 1)
          case measure => have := Hgk.out; omega
          case rel =>
            have := Hgk.out
            refine ⟨j + 1, v', by omega, rfl, by go_num, by omega, Lib.hid ?_, Lib.hid ((Hb.out.alloc (by simpa using Hs2.out) _).grown Hgr.out (by have := Hs2.out; simp; omega) (fun g hg => Hnw.out g hg)), Lib.hid fun i hi => ?_, Lib.hid ?_⟩
            · rw [Htk.out, List.map_append, List.map_cons, List.map_nil, show ∀ (q : List Nat) (z : Nat), ivs (q ++ [z]) = ivs q ++ [.int .i64 (z : Int)] from fun q z => by simp [ivs]]
              exact Hown'.out
            · rcases Hat.out with e | e
              · exact Hnw.out i (e ▸ hi)
              · rw [e] at hi; injection hi with hi; have := Hs2.out; omega
            · rw [Htk.out, List.all_append, Hall.out]; simp [Hok.out]
    · obtain rfl : j = n := by omega
      have e : l.take j = l := List.take_of_length_le (by rw [Hln.out]; exact Nat.le_refl _)
      rw [e] at Ho Hall
      go_wp2
      refine bodyPost_ret (results_tmp2 rfl _ _ _) rfl ?_
      refine ⟨Hb.out, .inl ⟨Hall.out, Av, cv, rfl, ?_⟩⟩
      have ho := Ho.out
      rw [show ivs (l.map (E.nr p nm)) = (ini (l.map (E.nr p nm))).map (Value.int .i64) by simp [ivs, ini]] at ho
      exact ho.slInts
end Go.Proofs.YtcmlmjbpdaecbaaGreat
end
section
namespace Go.Proofs.YtcmlmjbpdaecbaaGreat
open Go.RowKit Go.MapKept Go.Maps Go.WideMaps
set_option linter.unusedVariables false
set_option linter.unusedSimpArgs false

theorem sl_lit {w : World} {g : Nat} {T : TypeId} {l : List Int} {cs : Array Value} (h : w.heap[g]? = some (.cells cs T (0, 0))) (hc : cs = (l.map (Value.int .i64)).toArray) (hn : l.length ≤ 9223372036854775807) : SlAt (IntR .i64) w (some ⟨g, 0, none⟩) l.length l := by
  refine ⟨rfl, hn, fun k x hx => ⟨g, 0, .int .i64 x, rfl, (Array.getElem?_eq_some_iff.1 h).1, ?_, rfl⟩⟩
  rw [cell_of_row _ _ _ _ _ (0, 0) h, hc, Nat.zero_add, List.getElem?_toArray, List.getElem?_map, hx]; rfl

def sameEnd (p nm : List Nat) (x y : Int) : Ending := if (E.nmOk nm x && E.nmOk nm y) = true then .returned (.tuple #[.bool (decide (E.nr p nm x = E.nr p nm y)), .int .i64 0]) else .returned (.tuple #[.bool false, .int .i64 4])

set_option maxRecDepth 100000 in
set_option maxHeartbeats 2000000 in
theorem gSame_any {W : World} {b : Nat} {p : List Nat} {wd : List Int} {es kn : List (E.Opn × Nat)} {nm : List Nat} {vr : E.Vr} {v1 v2 v3 v4 : Value} {kb : Nat} (h : GrC W b p wd es kn nm vr v1 v2 v3 v4 kb) (ok : E.Ok p wd es nm) (x y : Int) :
    Calls Tryz.prog 24 #[.pointer (some ⟨b, 0, none⟩), .int .i64 x, .int .i64 y] W fun e W' => Below W.heap.size W W' ∧
      e = sameEnd p nm x y := by
  have hb1 : Below W.heap.size W (W.alloc (.cells #[.int .i64 x, .int .i64 y] 3)) := (Below.refl _ _).alloc (Nat.le_refl _) _
  have Hn := Lib.hid (gnamed_any (n := 2) (h.below hb1) ok (sl_lit (l := [x, y]) (heap_alloc_new W _) rfl (by simp)) (c := 2) (by simp))
  have Hb1 := Lib.hid hb1
  clear h hb1
  go_enter Tryz.func24, Tryz.ntmps24
  go_wp2_with fail
  (with_reducible refine Hn.out.mono ?_)
  rintro e w2 ⟨hb, ⟨hall, A', c', rfl, hs⟩ | ⟨hall, rfl⟩⟩
  · have hand : (E.nmOk nm x && E.nmOk nm y) = true := by simpa using hall
    have Hand := Lib.hid hand
    have Hb := Lib.hid (Hb1.out.trans (hb.mono (by simp)))
    obtain ⟨x0, g0, o0, u0, e0, rfl, _, h0, rfl⟩ := hs.at_ (k := 0) (by decide)
    obtain ⟨x1, g1, o1, u1, e1, eA, _, h1, rfl⟩ := hs.at_ (k := 1) (by decide)
    cases eA
    simp [ini] at e0 e1
    rw [Nat.add_zero] at h0
    subst e0 e1
    clear hs hall hand hb
    obtain ⟨bb, hbb⟩ : ∃ bb, decide (E.nr p nm x = E.nr p nm y) = bb := ⟨_, rfl⟩
    have hd : (((E.nr p nm x : Nat) : Int) == ((E.nr p nm y : Nat) : Int)) = bb := by
      rw [← hbb]
      by_cases h : E.nr p nm x = E.nr p nm y
      · rw [h]; simp
      · simp [h]; omega
    have Hbb := Lib.hid hbb
    obtain ⟨nx, hnx⟩ : ∃ nx : Int, ((E.nr p nm x : Nat) : Int) = nx := ⟨_, rfl⟩
    obtain ⟨ny, hny⟩ : ∃ ny : Int, ((E.nr p nm y : Nat) : Int) = ny := ⟨_, rfl⟩
    rw [hnx] at h0 hd
    rw [hny] at h1 hd
    clear hbb hnx hny
    go_upto_region 4 with (fail)
    obtain ⟨ov⟩ := ov_ex w2
    have z0 := ov.cell h0
    have z1 := ov.cell h1
    clear h0 h1
    refine wp_region_ovq ov (by kernel_rfl) (by kernel_rfl) ?_
    repeat (go_big_quiet_step (fail))
    refine wpQuiet_nil ?_
    rintro _ ⟨u, rfl⟩
    have Hb3 := Lib.hid (Hb.out.trans ((ov.below u).mono Hb.out.size))
    clear z0 z1 Hb
    go_wp2
    refine bodyPost_ret (results_tmp2 rfl _ _ _) rfl ?_
    exact ⟨Hb3.out, by unfold sameEnd; rw [if_pos Hand.out, Hbb.out]; rfl⟩
  · have hand : ¬ (E.nmOk nm x && E.nmOk nm y) = true := by
      intro h
      have : ([x, y].all (E.nmOk nm)) = true := by simpa using h
      rw [this] at hall; cases hall
    have Hand := Lib.hid hand
    have Hb := Lib.hid (Hb1.out.trans (hb.mono (by simp)))
    clear hall hand hb
    go_wp2
    refine bodyPost_ret (results_tmp2 rfl _ _ _) rfl ?_
    exact ⟨Hb.out, by unfold sameEnd; rw [if_neg Hand.out]; rfl⟩
end Go.Proofs.YtcmlmjbpdaecbaaGreat
end
