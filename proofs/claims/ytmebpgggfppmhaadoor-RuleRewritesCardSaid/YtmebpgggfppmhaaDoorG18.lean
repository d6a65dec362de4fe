/- Rules: right preconditions; which nodes of a pattern lead to its root (the program). -/
import Derived.Test.YtmebpgggfppmhaaDoorG17
set_option linter.unusedVariables false
set_option linter.unusedSimpArgs false
namespace Go.Proofs.YtmebpgggfppmhaaDoor
open Go.RowKit
set_option linter.unusedVariables false
set_option linter.unusedSimpArgs false

set_option maxRecDepth 100000 in
set_option maxHeartbeats 1000000 in
theorem gisCond_any (x : R.Cd) (W : World) :
    Calls Tryd.prog 54 #[cdV x] W fun e w' => e = .returned (.bool (R.cdOk x)) ∧ Below W.heap.size W w' := by
  have hB1 : Below W.heap.size W (W.alloc (.cells #[.int .i64 x.kind, .int .i64 x.hole, .int .u32 x.imm] 85)) := (Below.refl _ _).alloc (Nat.le_refl _) _
  have HB1 := Lib.hid hB1
  obtain ⟨r, hr⟩ : ∃ r, r = R.cdOk x := ⟨_, rfl⟩
  rw [← hr]
  unfold R.cdOk at hr
  obtain ⟨kind, hole, imm⟩ := x
  dsimp only at *
  unfold cdV
  clear hB1
  have q1c : (0 ≤ kind ∧ decide (0 ≤ kind) = true) ∨ (decide (0 ≤ kind) = false ∧ r = false) := by
    by_cases h : 0 ≤ kind
    · exact .inl ⟨h, by simpa using h⟩
    · exact .inr ⟨by simpa using h, by rw [hr]; simp [h]⟩
  rcases q1c with ⟨_, q1⟩ | ⟨q1, rfl⟩
  rotate_left
  · clear hr
    go_enter Tryd.func54, Tryd.ntmps54
    go_wp2
    go_ret
    exact ⟨rfl, HB1.out⟩
  rw [q1, Bool.true_and] at hr
  have q2c : (decide (kind ≤ 4) = true) ∨ (decide (kind ≤ 4) = false ∧ r = false) := by
    by_cases h : kind ≤ 4
    · exact .inl (by simpa using h)
    · exact .inr ⟨by simpa using h, by rw [hr]; simp [h]⟩
  rcases q2c with q2 | ⟨q2, rfl⟩
  rotate_left
  · clear hr
    go_enter Tryd.func54, Tryd.ntmps54
    go_wp2
    go_ret
    exact ⟨rfl, HB1.out⟩
  rw [q2, Bool.true_and] at hr
  have q3c : (decide (0 ≤ hole) = true) ∨ (decide (0 ≤ hole) = false ∧ r = false) := by
    by_cases h : 0 ≤ hole
    · exact .inl (by simpa using h)
    · exact .inr ⟨by simpa using h, by rw [hr]; simp [h]⟩
  rcases q3c with q3 | ⟨q3, rfl⟩
  rotate_left
  · clear hr
    go_enter Tryd.func54, Tryd.ntmps54
    go_wp2
    go_ret
    exact ⟨rfl, HB1.out⟩
  rw [q3, Bool.true_and] at hr
  have q4c : (decide (hole < 2) = true) ∨ (decide (hole < 2) = false ∧ r = false) := by
    by_cases h : hole < 2
    · exact .inl (by simpa using h)
    · exact .inr ⟨by simpa using h, by rw [hr]; simp [h]⟩
  rcases q4c with q4 | ⟨q4, rfl⟩
  rotate_left
  · clear hr
    go_enter Tryd.func54, Tryd.ntmps54
    go_wp2
    go_ret
    exact ⟨rfl, HB1.out⟩
  rw [q4, Bool.true_and] at hr
  by_cases hk : kind = 4
  · subst hk
    have hr2 : r = true := by rw [hr]; rfl
    subst hr2
    clear hr
    go_enter Tryd.func54, Tryd.ntmps54
    go_wp2
    go_ret
    exact ⟨rfl, HB1.out⟩
  · have qk : (kind == 4) = false := by simpa using hk
    have hr2 : (imm == 0) = r := by rw [hr]; simp only [hk]; rfl
    clear hr hk
    go_enter Tryd.func54, Tryd.ntmps54
    go_wp2
    go_ret
    exact ⟨rfl, HB1.out⟩

theorem infoBool : (Tryd.prog.info? 4).map (fun i => (i.zero, i.size, i.bytes)) = some (some (.bool false), 1, 1) := by kernel_rfl

namespace R
def nstep (k : Nat) (o : List Bool) (a : Int) : List Bool := o.set a.toNat (o.getD a.toNat false || o.getD k false)
theorem nstep_len (k : Nat) (o : List Bool) (a : Int) : (nstep k o a).length = o.length := by unfold nstep; simp
theorem need1_eq {p : List T.Nd} {k : Nat} {x : T.Nd} (o : List Bool) (hx : p[k]? = some x) : need1 p o k = x.args.foldl (nstep k) o := by
  unfold need1
  rw [List.getD_eq_getElem?_getD, hx]
  rfl
end R

theorem frozen_row {W : World} {g : Nat} {cs : Array Value} {T : TypeId} (h : W.heap[g]? = some (.cells cs T (0, 0))) (k : Nat) : W.frozen? ⟨g, k, none⟩ = false := by simp [World.frozen?, h]

set_option maxRecDepth 100000 in
set_option maxHeartbeats 2000000 in
theorem gneeded_any (p : List T.Nd) (n cp : Nat) (Ap : Option Addr) (W : World) (hP : StAt 5 NdR W Ap n p) (hn1 : 1 ≤ n) (hn : n ≤ 1000000) (harg : ∀ x ∈ p, ∀ a ∈ x.args, 0 ≤ a ∧ a < (n : Int)) :
    Calls Tryd.prog 85 #[.slice Ap n cp] W fun e w' => ∃ g, e = .returned (.slice (some ⟨g, 0, none⟩) n n) ∧ W.heap.size ≤ g ∧ Below W.heap.size W w' ∧ w'.heap[g]? = some (.cells ((R.need p).map Value.bool).toArray 4 (0, 0)) := by
  have HP := Lib.hid hP
  have Harg := Lib.hid harg
  have hlen := hP.len
  obtain ⟨m, rfl⟩ : ∃ m, n = m + 1 := ⟨n - 1, by omega⟩
  clear hP harg hn1
  have hmk := fun (W' : World) => run_make_n (P := Tryd.prog) 79 4 (.bool false) 1 Tryd.underlying79 infoBool rfl .i64 .i64 (m + 1) ((m : Int) + 1) (by omega) (by omega) (by omega) W'
  have em : (m : Int) + 1 - 1 = (m : Int) := by omega
  obtain ⟨W1, hW1⟩ : ∃ W1, W1 = W.alloc (.cells ((Array.replicate (m + 1) (Value.bool false)).setIfInBounds m (.bool true)) 4) := ⟨_, rfl⟩
  have Hb1 := Lib.hid (show Below W.heap.size W W1 from by rw [hW1]; exact (Below.refl _ _).alloc (Nat.le_refl _) _)
  have hr0 : (W.alloc (.cells (Array.replicate (m + 1) (Value.bool false)) 4)).heap[W.heap.size]? = some (.cells (Array.replicate (m + 1) (Value.bool false)) 4 (0, 0)) := heap_alloc_new W _
  have Hr1 := Lib.hid (show W1.heap[W.heap.size]? = some (.cells ((((List.replicate p.length false).set (p.length - 1) true)).map Value.bool).toArray 4 (0, 0)) from by
    have e : (((List.replicate p.length false).set (p.length - 1) true).map Value.bool).toArray = (Array.replicate (m + 1) (Value.bool false)).setIfInBounds m (.bool true) := by
      rw [hlen, ← List.toArray_replicate, List.setIfInBounds_toArray]
      simp [List.map_set]
    rw [e, hW1]
    exact heap_alloc_new W _)
  have hf0 : (W.alloc (.cells (Array.replicate (m + 1) (Value.bool false)) 4)).frozen? ⟨W.heap.size, m, none⟩ = false := frozen_row hr0 m
  have hc0 : (W.alloc (.cells (Array.replicate (m + 1) (Value.bool false)) 4)).cell? ⟨W.heap.size, m, none⟩ = some (.bool false) := by
    rw [cell_of_row _ _ _ _ _ (0, 0) hr0]; simp
  have Hlen := Lib.hid hlen
  clear hr0 hlen
  go_enter Tryd.func85, Tryd.ntmps85
  go_wp2
  rw [← hW1]
  clear hmk em hf0 hc0
  clear hW1
  have hs1 := Hb1.out.size
  go_loopg [4] (m + 2) (fun g i wr => ∃ (k : Nat) (o : List Bool), k ≤ m + 1 ∧ i = .int .i64 ((k : Int) - 1) ∧ g = k + 1 ∧ o.length = m + 1 ∧ Below W.heap.size W wr ∧ Hid ((List.range k).reverse.foldl (R.need1 p) o = R.need p) ∧ Hid (wr.heap[W.heap.size]? = some (.cells (o.map Value.bool).toArray 4 (0, 0))))
  case atStart => exact ⟨m + 1, (List.replicate p.length false).set (p.length - 1) true, by omega, by go_num, rfl, by rw [List.length_set, List.length_replicate, Hlen.out], Hb1.out, by show _ = _; rw [← Hlen.out]; rfl, Hr1⟩
  case round =>
    clear Hb1 Hr1
    obtain ⟨k, o, hk, rfl, hgk, hol, hbw, HO, HW⟩ := hrel
    have Hgk := Lib.hid hgk; clear hgk
    by_cases h0 : k = 0
    · subst h0
      have ho : o = R.need p := HO.out
      have q : decide ((0 : Int) ≤ ((0 : Nat) : Int) - 1) = false := by decide
      rw [ho] at HW
      go_wp2
      go_ret
      exact ⟨W.heap.size, rfl, Nat.le_refl _, hbw, HW.out⟩
    · obtain ⟨j, rfl⟩ : ∃ j, k = j + 1 := ⟨k - 1, by omega⟩
      have ej : ((j + 1 : Nat) : Int) - 1 = (j : Int) := by omega
      rw [ej]
      have hjm : j < m + 1 := by omega
      obtain ⟨x, b, off, A, c, hx, rfl, hb, x0, x1, x2, x3, x4, hs, i0, i1⟩ := nd_cells HP.out hjm
      have k3 := (hbw.cell (p := ⟨b, off + j * 5 + 3, none⟩) hb).trans x3
      have HO2 := Lib.hid (show (List.range j).reverse.foldl (R.need1 p) (x.args.foldl (R.nstep j) o) = R.need p from by
        rw [← HO.out, List.range_succ, List.reverse_append, List.reverse_singleton, List.singleton_append, List.foldl_cons, R.need1_eq o hx])
      have Harx := Lib.hid (Harg.out x (List.mem_of_getElem? hx))
      have Hs := Lib.hid hs
      have hale := hs.le
      have Hbw := Lib.hid hbw
      have q : decide ((0 : Int) ≤ (j : Int)) = true := by simp
      clear x0 x1 x2 x3 x4 i0 i1 hs HO h0 hbw ej hb hx
      obtain ⟨gO, rfl⟩ : ∃ g, g = gk := ⟨_, rfl⟩
      go_wp2
      go_loopg [28] (x.args.length + 1) (fun g i w3 => ∃ (q : Nat) (o3 : List Bool), q ≤ x.args.length ∧ i = .int .i64 (q : Int) ∧ g + q = x.args.length + 1 ∧ o3.length = m + 1 ∧ Below W.heap.size W w3 ∧ Hid ((x.args.drop q).foldl (R.nstep j) o3 = x.args.foldl (R.nstep j) o) ∧ Hid (w3.heap[W.heap.size]? = some (.cells (o3.map Value.bool).toArray 4 (0, 0))))
      case atStart => exact ⟨0, o, Nat.zero_le _, rfl, rfl, hol, Hbw.out, by show _ = _; rfl, HW⟩
      case round =>
        clear HW Hbw k3
        obtain ⟨q, o3, hq, rfl, hgk2, hol3, hbw, HF, HW⟩ := hrel
        have Hgk2 := Lib.hid hgk2; clear hgk2
        by_cases hlt : q < x.args.length
        · obtain ⟨a, bA, offA, u, ha, rfl, hbA, hcA, rfl⟩ := (Hs.out.below (monoInt _) hbw).at_ hlt
          obtain ⟨a0, a1⟩ := Harx.out a (List.mem_of_getElem? ha)
          obtain ⟨av, rfl⟩ : ∃ v : Nat, a = v := ⟨a.toNat, by omega⟩
          have hav : av < m + 1 := by omega
          obtain ⟨ba, hba⟩ : ∃ ba, o3[av]? = some ba := ⟨_, List.getElem?_eq_getElem (by omega)⟩
          obtain ⟨bj, hbj⟩ : ∃ bj, o3[j]? = some bj := ⟨_, List.getElem?_eq_getElem (by omega)⟩
          have hca : wr.cell? ⟨W.heap.size, av, none⟩ = some (.bool ba) := by
            rw [cell_of_row _ _ _ _ _ (0, 0) HW.out, List.getElem?_toArray, List.getElem?_map, hba]; rfl
          have hcj : wr.cell? ⟨W.heap.size, j, none⟩ = some (.bool bj) := by
            rw [cell_of_row _ _ _ _ _ (0, 0) HW.out, List.getElem?_toArray, List.getElem?_map, hbj]; rfl
          have hfz := frozen_row HW.out av
          have HS := Lib.hid (show R.nstep j o3 ((av : Nat) : Int) = o3.set av (ba || bj) from by
            unfold R.nstep
            rw [Int.toNat_natCast, List.getD_eq_getElem?_getD, List.getD_eq_getElem?_getD, hba, hbj]; rfl)
          have HF2 := Lib.hid (show (x.args.drop (q + 1)).foldl (R.nstep j) (o3.set av (ba || bj)) = x.args.foldl (R.nstep j) o from by
            rw [← HF.out, ← HS.out]
            have hd : x.args.drop q = ((av : Nat) : Int) :: x.args.drop (q + 1) := by
              rw [List.drop_eq_getElem_cons hlt]
              congr 1
              rw [List.getElem?_eq_getElem hlt] at ha
              exact Option.some.inj ha
            rw [hd, List.foldl_cons])
          have HW2 := Lib.hid (show (wr.setCell ⟨W.heap.size, av, none⟩ (.bool (ba || bj))).heap[W.heap.size]? = some (.cells ((o3.set av (ba || bj)).map Value.bool).toArray 4 (0, 0)) from by
            rw [heap_setCell_same _ _ _ _ _ _ HW.out]
            simp [List.map_set])
          have Hb2 := Lib.hid (show Below W.heap.size W (wr.setCell ⟨W.heap.size, av, none⟩ (.bool (ba || bj))) from hbw.setCell (p := ⟨W.heap.size, av, none⟩) (Nat.le_refl _) _)
          have hol2 : (o3.set av (ba || bj)).length = m + 1 := by simpa using hol3
          clear HF HS hba hbj ha hbw a0 a1 hbA
          cases ba
          · rw [Bool.false_or] at *
            go_wp2
            go_roundg (gk - 1)
            case measure => have := Hgk2.out; omega
            case rel => have := Hgk2.out; exact ⟨q + 1, _, by omega, by go_num, by omega, hol2, Hb2.out, HF2, HW2⟩
          · rw [Bool.true_or] at *
            clear hcj
            go_wp2
            go_roundg (gk - 1)
            case measure => have := Hgk2.out; omega
            case rel => have := Hgk2.out; exact ⟨q + 1, _, by omega, by go_num, by omega, hol2, Hb2.out, HF2, HW2⟩
        · obtain rfl : q = x.args.length := by omega
          have e : o3 = x.args.foldl (R.nstep j) o := by rw [← HF.out, List.drop_length]; rfl
          rw [← e] at HO2
          have Hbw := Lib.hid hbw
          clear hbw HF
          go_wp2
          go_roundg (j + 1)
          case measure => have := Hgk.out; omega
          case rel => exact ⟨j, o3, by omega, by go_num, rfl, hol3, Hbw.out, HO2, HW⟩
end Go.Proofs.YtmebpgggfppmhaaDoor
