/- Walks of the reference's layer of rows: the result of a row, whether it has a meaning. -/
import Derived.Test.YtableoihgkmbjaaK4
import Derived.Deep.RegionHeld3
namespace Go.Proofs.Ytableoihgkmbjaa
open Go.RowKit
set_option linter.unusedVariables false

theorem quiet_dr {P : Program} {f : FuncId} {args : Array Value} {w : World} {n : Nat} {v : Value}
    (h : Calls P f args (w.drewN n) fun e w' => e = .returned v ∧ Dr (w.drewN n) w') : Calls P f args (w.drewN n) fun e w'' => e = .returned v ∧ ∃ m, w'' = w.drewN m :=
  h.mono fun _ _ ⟨he, m, hm⟩ => ⟨he, n + m, by rw [hm, World.drewN_drewN]⟩
theorem le64' : 4 ≤ 64 := by decide
theorem one_ints {q : IntKind} (l : List Int) : ∀ u ∈ l.map (Value.int q), u.oneCell' = true := by
  intro u hu
  obtain ⟨x, _, rfl⟩ := List.mem_map.1 hu
  rfl
theorem src_slAt {q : IntKind} {w : World} {A : Option Addr} {n : Nat} {xs : List Int} (h : SlAt (IntR q) w A n xs) : ∀ (j : Nat) (u : Value), (xs.map (Value.int q))[j]? = some u → ∃ ad : Addr, A = some ad ∧ w.cell? (ad.add j) = some u := fun j u hu => by
  rw [List.getElem?_map] at hu
  obtain ⟨x, hx, rfl⟩ := Option.map_eq_some_iff.1 hu
  obtain ⟨b, off, u, hA, _, hc, hr⟩ := h.2.2 j x hx
  subst hr
  exact ⟨⟨b, off, none⟩, hA, by rw [addr_add_zero]; exact hc⟩
theorem src_block {w : World} {p : Nat} {cs : Array Value} {T : TypeId} (h : w.heap[p]? = some (.cells cs T (0, 0))) :
    ∀ (j : Nat) (u : Value), cs.toList[j]? = some u → ∃ ad : Addr, some (⟨p, 0, none⟩ : Addr) = some ad ∧ w.cell? (ad.add j) = some u := fun j u hu => ⟨_, rfl, by
  rw [addr_add_zero, Nat.zero_add, cell_of_row _ _ _ _ T (0, 0) h]
  simpa using hu⟩
/-- an element of a list of words, by a number -/
theorem getD_cell {q : IntKind} {w : World} {e : TypeId} {A : Option Addr} {n c : Nat} {xs : List Int} (h : OwnAt w e 1 (.slice A n c) n (xs.map (Value.int q))) {i : Nat} (hi : i < n) :
    ∃ b off, A = some ⟨b, off, none⟩ ∧ w.cell? ⟨b, off + i, none⟩ = some (.int q (xs.getD i 0)) := by
  obtain ⟨b, off, u, hA, _, hc, hv⟩ := h.at1 hi
  rw [List.getElem?_map] at hv
  obtain ⟨x, hx, rfl⟩ := Option.map_eq_some_iff.1 hv
  exact ⟨b, off, hA, by rw [List.getD_eq_getElem?_getD, hx]; exact hc⟩

set_option maxRecDepth 100000 in
set_option maxHeartbeats 4000000 in
theorem rresult_any (k w : Nat) (hk : k = 1 ∨ k = 2) (hw : w = 1 ∨ w = 2 ∨ w = 3) (A : Option Addr) (m c : Nat) (row : List K.Stp) (A2 : Option Addr) (c2 : Nat) (l0 : List Int) (W : World) (hA : StAt 3 StepR W A m row) (hA2 : SlAt (IntR .u32) W A2 k l0) (hrow : K.okRow k row) (hm : m ≤ 100)
    (hb32 : K.W32 (K.base w l0)) :
    Calls Try.prog 33 #[.int .i64 w, .slice A m c, .slice A2 k c2] W fun e w' => e = .returned (.int .u32 (K.resultOf w row l0)) ∧ Below W.heap.size W w' := by
  have hml := hA.len
  have hl0 := hA2.len
  have hpw : B.pw (w : Int) = 2 ^ w := rfl
  have hpow : ((2 : Int) ^ w - 1) % 4294967296 = B.pw w - 1 ∧ (2 ^ w : Int) % 4294967296 = B.pw w ∧ B.pw w ≤ 8 ∧ 2 ≤ B.pw w := by
    rcases hw with rfl | rfl | rfl <;> decide
  have HA := Lib.hid hA; clear hA
  have Hsrc := Lib.hid (src_slAt hA2); clear hA2
  have Hrow := Lib.hid hrow; clear hrow
  have H32 := Lib.hid hb32; clear hb32
  have HX0 := Lib.hid (show OwnAt (W.alloc (.cells #[] 40)) 40 1 (.slice (some ⟨W.heap.size, 0, none⟩) 0 0) 0 [] from own_zero (cur := #[]) (heap_alloc_new W _))
  have HB0 := Lib.hid (show Below W.heap.size W (W.alloc (.cells #[] 40)) from (Below.refl _ _).alloc (Nat.le_refl _) _)
  have hk9 : 0 + k ≤ 1000000000 := by omega
  have hk10 : k + 2 ≤ 1000000000 := by omega
  have hw3 : (w : Int) ≤ 3 := by omega
  have hll : (l0.map (Value.int .u32)).length = k * 1 := by simp [hl0]
  have Hll := Lib.hid hll; clear hll
  have Hpow := Lib.hid hpow; clear hpow hpw
  have Hml := Lib.hid hml; clear hml
  have Hl0 := Lib.hid hl0; clear hl0
  have hk3 : k ≤ 2 := by omega
  clear hk hw
  go_enter Try.func33, Try.ntmps33
  go_wp2_with (first
    | (at_builtin; refine wpList_append_src _ rfl (.tmp 11) (.tmp 12) 24 rfl 40 (.int .u32 0) 1 4 Try.underlying24 infoU32 rfl pos1 _ 0 [] rfl HX0.out A2 k c2 _ rfl Hll.out (src_below Hsrc.out HB0.out) (one_ints l0) hk9 le64' ?_; intro v1 w1 hown1 hgr1 hat1; rw [Nat.zero_add, List.nil_append] at hown1; obtain ⟨hb1, hge1⟩ := below_append_src HB0.out HB0.out.size (own_ge (Nat.le_refl _)) hgr1 hat1; have Hb1 := Lib.hid hb1; have Hge1 := Lib.hid hge1; clear hb1 hge1; have Hown1 := Lib.hid hown1; clear hown1 hgr1 hat1)
    | (at_builtin; refine wpList_append_src _ rfl (.tmp 13) (.tmp 18) 24 rfl 40 (.int .u32 0) 1 4 Try.underlying24 infoU32 rfl pos1 _ k _ rfl (Hown1.out.alloc _) (some ⟨w1.heap.size, 0, none⟩) 2 2 [.int .u32 1, .int .u32 (((2 : Int) ^ w - 1) % 4294967296)] rfl rfl (src_block (cs := #[.int .u32 1, .int .u32 (((2 : Int) ^ w - 1) % 4294967296)]) (heap_alloc_new w1 _)) (one_ints [1, ((2 : Int) ^ w - 1) % 4294967296]) hk10 le64' ?_; intro v2 w2 hown2 hgr2 hat2))
  have hown3 : OwnAt w2 40 1 v2 (k + 2) ((K.base w l0).map (Value.int .u32)) := by
    have e : K.base w l0 = l0 ++ [1, ((2 : Int) ^ w - 1) % 4294967296] := by rw [Hpow.out.1]; rfl
    rw [e, List.map_append]
    exact hown2
  obtain ⟨hb2, hge2⟩ := below_append Hb1.out Hb1.out.size Hge1.out hgr2 (by rw [World.size_alloc] at hat2; exact hat2)
  have Hown3 := Lib.hid hown3
  have Hb2 := Lib.hid hb2
  have Hge2 := Lib.hid hge2
  clear hown2 hown3 hgr2 hat2 hb2 hge2
  have hbl : (K.base w l0).length = k + 2 := by unfold K.base; simp [Hl0.out]
  obtain ⟨L, hL⟩ : ∃ L, L = K.base w l0 := ⟨_, rfl⟩
  rw [← hL] at Hown3 H32 hbl
  have HL := Lib.hid hL; clear hL
  have Hbl := Lib.hid hbl; clear hbl
  go_wp2
  go_loopg [7, 8] (m + 1) (fun g v i wr => ∃ (j : Nat), j ≤ m ∧ i = .int .i64 (j : Int) ∧ g + j = m + 1 ∧ OwnAt wr 40 1 v (k + 2 + j) ((K.vals w L (row.take j)).map (Value.int .u32)) ∧ Below W.heap.size W wr ∧ (∀ g, v.ownBlock = some g → W.heap.size ≤ g))
  case atStart => exact ⟨0, Nat.zero_le _, rfl, rfl, by rw [List.take_zero]; exact Hown3.out, Hb2.out, Hge2.out⟩
  case round =>
    obtain ⟨j, hj, rfl, hgk, hown, hbw, hob⟩ := hrel
    have Hgk := Lib.hid hgk; clear hgk
    have Hown := Lib.hid hown; clear hown
    have Hob := Lib.hid hob; clear hob
    obtain ⟨AL, cL, hv⟩ := Hown.out.form
    subst hv
    have hlenj : (K.vals w L (row.take j)).length = k + 2 + j := by rw [K.vals_len, Hbl.out, List.length_take, Hml.out]; omega
    by_cases hlt : j < m
    · obtain ⟨s, b, off, us, hs, rfl, hbl, hul, hcs, hst⟩ := HA.out.at_ hlt
      have hst' : us = cellsS s := hst
      subst hst'
      clear hst hul
      obtain ⟨o1, o2, o3, o4, o5⟩ := Hrow.out j s hs
      have hc0 := (hbw.cell (p := ⟨b, off + j * 3 + 0, none⟩) hbl).trans (hcs 0 _ rfl)
      rw [Nat.add_zero] at hc0
      have hc1 := (hbw.cell (p := ⟨b, off + j * 3 + 1, none⟩) hbl).trans (hcs 1 _ rfl)
      have hc2 := (hbw.cell (p := ⟨b, off + j * 3 + 2, none⟩) hbl).trans (hcs 2 _ rfl)
      obtain ⟨gL, fL, hAL, hx1⟩ := getD_cell Hown.out (i := s.2.1.toNat) (by omega)
      obtain ⟨gL2, fL2, hAL2, hx2⟩ := getD_cell Hown.out (i := s.2.2.toNat) (by omega)
      rw [hAL] at hAL2
      injection hAL2 with hAL2
      injection hAL2 with e1 e2
      subst e1 e2
      subst hAL
      have hw1 := (H32.out.vals (w := w) (row.take j)).at s.2.1.toNat
      have hw2 := (H32.out.vals (w := w) (row.take j)).at s.2.2.toNat
      have hstep : (B.total s.1 w ((K.vals w L (row.take j)).getD s.2.1.toNat 0) ((K.vals w L (row.take j)).getD s.2.2.toNat 0)).1 = K.stepv w (K.vals w L (row.take j)) s := rfl
      have con := fun W' => rtotal_any s.1 w ((K.vals w L (row.take j)).getD s.2.1.toNat 0) ((K.vals w L (row.take j)).getD s.2.2.toNat 0) W' hw1.1 hw1.2 hw2.1 hw2.2
      rw [hstep] at con
      have hnext := K.vals_take w L row hs
      obtain ⟨y, hy⟩ : ∃ y, y = K.stepv w (K.vals w L (row.take j)) s := ⟨_, rfl⟩
      rw [← hy] at con hnext
      have Hnext := Lib.hid hnext
      have Hcon := Lib.hid con
      clear con hnext hy hstep
      generalize (K.vals w L (row.take j)).getD s.2.1.toNat 0 = x1 at *
      generalize (K.vals w L (row.take j)).getD s.2.2.toNat 0 = x2 at *
      have hi1 : s.2.1 < ((k + 2 + j : Nat) : Int) := by omega
      have hi2 : s.2.2 < ((k + 2 + j : Nat) : Int) := by omega
      clear hs hcs o1 hlenj hw1 hw2
      go_wp2
      go_quiet ((go_at_call 48; exact quiet_dr (Hcon.out _)))
      have hn9 : k + 2 + j ≤ 1000000000 := by omega
      go_wp2_with (at_builtin; refine wpList_append_one' rfl (.tmp 52) (.tmp 54) 24 rfl 40 (.int .u32 0) 4 Try.underlying24 infoU32 rfl _ (k + 2 + j) _ rfl (Hown.out.drewN nq) (.int .u32 y) rfl 40 wr.heap.size rfl rfl hn9 le64' ?_; intro v3 w3 hown3 hgr3 hat3)
      have hown4 : OwnAt w3 40 1 v3 (k + 2 + (j + 1)) ((K.vals w L (row.take (j + 1))).map (Value.int .u32)) := by
        rw [Hnext.out, List.map_append]
        exact hown3
      obtain ⟨hb4, hge4⟩ := below_append (hbw.dr ⟨nq, rfl⟩) hbw.size Hob.out hgr3 hat3
      have Hown4 := Lib.hid hown4
      have Hb4 := Lib.hid hb4
      have Hge4 := Lib.hid hge4
      clear hown3 hown4 hgr3 hat3 hb4 hge4 hn9
      go_wp2
      go_roundg (gk - 1)
      case measure => have := Hgk.out; omega
      case rel => have := Hgk.out; exact ⟨j + 1, by omega, by go_num, by omega, Hown4.out, Hb4.out, Hge4.out⟩
    · obtain rfl : j = m := by omega
      have htk : row.take j = row := List.take_of_length_le (by rw [Hml.out]; omega)
      rw [htk] at hlenj
      have hown2 := Hown.out
      rw [htk] at hown2
      by_cases h0 : j = 0
      · subst h0
        obtain ⟨gL, fL, hAL, hx1⟩ := getD_cell hown2 (i := 0) (by omega)
        subst hAL
        rw [Nat.add_zero] at hx1
        have hr : K.resultOf w row l0 = (K.vals w L row).getD 0 0 := by unfold K.resultOf; rw [if_pos Hml.out, ← HL.out]
        have Hr := Lib.hid hr
        have hbw' := Lib.hid hbw
        clear hown2 hlenj htk hr Hown
        go_wp2
        go_ret
        exact ⟨ret_int Hr.out.symm, hbw'.out⟩
      · obtain ⟨gL, fL, hAL, hx1⟩ := getD_cell hown2 (i := k + 1 + j) (by omega)
        subst hAL
        have hr : K.resultOf w row l0 = (K.vals w L row).getD (k + 1 + j) 0 := by unfold K.resultOf; rw [if_neg (by rw [Hml.out]; exact h0), ← HL.out, hlenj, show k + 2 + j - 1 = k + 1 + j by omega]
        have Hr := Lib.hid hr
        have hbw' := Lib.hid hbw
        have hj0 : ((j : Int) == 0) = false := by simpa using h0
        clear hown2 hlenj htk hr Hown
        go_wp2
        go_ret
        exact ⟨ret_int Hr.out.symm, hbw'.out⟩

set_option maxRecDepth 100000 in
set_option maxHeartbeats 4000000 in
theorem rhas_any (k w : Nat) (hk : k = 1 ∨ k = 2) (hw : w = 1 ∨ w = 2 ∨ w = 3) (A : Option Addr) (m c : Nat) (row : List K.Stp) (A2 : Option Addr) (c2 : Nat) (A3 : Option Addr) (c3 : Nat) (t : List Int) (W : World) (hA : StAt 3 StepR W A m row) (hA2 : SlAt (SlR (IntR .u32)) W A2 (K.size k w) (K.inputs k w)) (hA3 : SlAt (IntR .u32) W A3 (K.size k w) t) (hrow : K.okRow k row) (hm : m ≤ 100) :
    Calls Try.prog 21 #[.int .i64 w, .slice A m c, .slice A2 (K.size k w) c2, .slice A3 (K.size k w) c3] W fun e w' => e = .returned (.bool (decide (K.meaning k w row = t))) ∧ Below W.heap.size W w' := by
  have hsz := K.size_le (k := k) (w := w) (by omega) (by omega)
  have HR := Lib.hid (fun (A2 : Option Addr) (c2 : Nat) (i : Nat) (hi : i < K.size k w) (W' : World) (hb : Below W.heap.size W W') (hA2 : SlAt (IntR .u32) W' A2 k (K.inp k w i)) => rresult_any k w hk hw A m c row A2 c2 (K.inp k w i) W' (hA.below monoStep hb) hA2 hrow hm (K.W32.base hk (by omega) hi))
  have HA2 := Lib.hid hA2; clear hA2
  have HA3 := Lib.hid hA3; clear hA3
  have Hin := Lib.hid (fun i (h : i < K.size k w) => K.inputs_at h)
  have Hme := Lib.hid (fun i (h : i < K.size k w) => K.meaning_at row h)
  have Hml := Lib.hid (K.meaning_len k w row)
  have Hil := Lib.hid (fun i => K.inp_len (k := k) (w := w) (i := i) hk)
  obtain ⟨N, hN⟩ : ∃ N, N = K.size k w := ⟨_, rfl⟩
  simp only [← hN] at *
  clear hA hrow hk hw hN
  go_enter Try.func21, Try.ntmps21
  go_wp2
  go_loopw [9] (fun i wr => ∃ j : Nat, j ≤ N ∧ i = .int .i64 (j : Int) ∧ Below W.heap.size W wr ∧ Hid ((K.meaning k w row).take j = t.take j)) (fun i _ => N - (intOf i).toNat)
  case atStart => exact ⟨0, Nat.zero_le _, rfl, Below.refl _ _, rfl⟩
  case round =>
    obtain ⟨j, hj, rfl, hbw, HT⟩ := hrel
    by_cases hlt : j < N
    · obtain ⟨l, b, off, u, hl, rfl, hbl, hc, Al, cl, rfl, hsl⟩ := HA2.out.at_ hlt
      obtain ⟨y, b3, off3, u3, hy, rfl, hbl3, hc3, rfl⟩ := HA3.out.at_ hlt
      have hl' := Hin.out j hlt
      rw [hl'] at hl
      injection hl with hl
      subst hl
      rw [Hil.out j] at hsl hc
      have hme := Hme.out j hlt
      have con := fun nq => HR.out Al cl j hlt (wr.drewN nq) (hbw.dr ⟨nq, rfl⟩) (hsl.below (monoInt _) (hbw.dr ⟨nq, rfl⟩))
      have hcw : wr.cell? ⟨b, off + j, none⟩ = _ := (hbw.cell (p := ⟨b, off + j, none⟩) hbl).trans hc
      have hcw3 : wr.cell? ⟨b3, off3 + j, none⟩ = _ := (hbw.cell (p := ⟨b3, off3 + j, none⟩) hbl3).trans hc3
      have hlt0 : b < wr.heap.size := World.block_lt_of_cell? _ _ hcw
      have hlt3 : b3 < wr.heap.size := World.block_lt_of_cell? _ _ hcw3
      obtain ⟨x, hx⟩ : ∃ x, x = K.resultOf w row (K.inp k w j) := ⟨_, rfl⟩
      rw [← hx] at con hme
      have Hcon := Lib.hid con
      have Hme1 := Lib.hid hme
      have Hy := Lib.hid hy
      clear con hme hy hl' hsl hc hc3 hx
      by_cases hxy : x = y
      · subst hxy
        have hne : (x != x) = false := by simp
        go_wp2_with fail
        go_region_held3 (fun w' => w'.cell? ⟨b, off + j, none⟩ = some (.slice Al k cl) ∧ w'.cell? ⟨b3, off3 + j, none⟩ = some (.int .u32 x))
          (first | go_keep | (go_split_ands; refine ⟨?_, ?_⟩ <;> assumption))
          ((go_at_call 33; refine (Hcon.out 1).mono ?_; rintro e w5 ⟨rfl, hb5⟩; have hd0 := (hb5.cell (p := ⟨b, off + j, none⟩) hlt0).trans hcw; have hd3 := (hb5.cell (p := ⟨b3, off3 + j, none⟩) hlt3).trans hcw3; have Hb5 := Lib.hid (show Below W.heap.size W w5 from (hbw.dr ⟨1, rfl⟩).trans (hb5.mono (Nat.le_of_lt_succ (Nat.lt_succ_of_le hbw.size)))); clear hb5))
        go_wp2
        go_roundw
        case rel => exact ⟨j + 1, by omega, by go_num, Hb5.out, by show _ = _; rw [K.take_succ_at Hme1.out, K.take_succ_at Hy.out, HT.out]⟩
        case measure => simp [intOf]; omega
      · have hne : (x != y) = true := by simpa using hxy
        have Hxy := Lib.hid hxy; clear hxy
        go_wp2_with fail
        go_region_held3 (fun w' => w'.cell? ⟨b, off + j, none⟩ = some (.slice Al k cl) ∧ w'.cell? ⟨b3, off3 + j, none⟩ = some (.int .u32 y))
          (first | go_keep | (go_split_ands; refine ⟨?_, ?_⟩ <;> assumption))
          ((go_at_call 33; refine (Hcon.out 1).mono ?_; rintro e w5 ⟨rfl, hb5⟩; have hd0 := (hb5.cell (p := ⟨b, off + j, none⟩) hlt0).trans hcw; have hd3 := (hb5.cell (p := ⟨b3, off3 + j, none⟩) hlt3).trans hcw3; have Hb5 := Lib.hid (show Below W.heap.size W w5 from (hbw.dr ⟨1, rfl⟩).trans (hb5.mono (Nat.le_of_lt_succ (Nat.lt_succ_of_le hbw.size)))); clear hb5))
        go_wp2
        go_ret
        refine ⟨ret_bool (decide_eq_false ?_).symm, Hb5.out⟩
        intro he
        have h1 := Hme1.out
        rw [he, Hy.out] at h1
        exact Hxy.out (Option.some.inj h1).symm
    · go_wp2
      go_ret
      have h3 := HT.out
      rw [take_all Hml.out (by omega), take_all HA3.out.len (by omega)] at h3
      exact ⟨ret_bool (decide_eq_true h3).symm, hbw⟩
end Go.Proofs.Ytableoihgkmbjaa
