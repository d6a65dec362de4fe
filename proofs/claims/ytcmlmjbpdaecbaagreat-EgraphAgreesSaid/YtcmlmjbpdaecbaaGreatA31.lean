/- Merged: QT10, QT11, QJ11. -/
import Derived.Test.YtcmlmjbpdaecbaaGreatA30
import Derived.Test.YtcmlmjbpdaecbaaGreatA29
set_option linter.unusedVariables false
set_option linter.unusedSimpArgs false
section
namespace Go.Proofs.YtcmlmjbpdaecbaaGreat
open Go.RowKit
set_option linter.unusedVariables false
set_option linter.unusedSimpArgs false

/-- no two nodes clash, the second before k, or k itself and the first before i -/
def NoCl (t : List T.Nd) (k i : Nat) : Prop := ∀ (p q : Nat) (x y : T.Nd), p < q → (q < k ∨ (q = k ∧ p < i)) → t[p]? = some x → t[q]? = some y → T.clash x y = false
theorem NoCl.zero (t : List T.Nd) : NoCl t 0 0 := fun p q x y h1 h2 => by omega
theorem NoCl.row {t : List T.Nd} {k : Nat} (h : NoCl t k k) : NoCl t (k + 1) 0 := fun p q x y h1 h2 hx hy => h p q x y h1 (by omega) hx hy
theorem NoCl.next {t : List T.Nd} {k i : Nat} {x y : T.Nd} (h : NoCl t k i) (hx : t[i]? = some x) (hy : t[k]? = some y) (hc : T.clash x y = false) : NoCl t k (i + 1) := fun p q a b h1 h2 ha hb => by
  by_cases e : q = k ∧ p = i
  · obtain ⟨rfl, rfl⟩ := e
    rw [hx] at ha
    rw [hy] at hb
    cases ha
    cases hb
    exact hc
  · exact h p q a b h1 (by omega) ha hb
theorem NoCl.all {t : List T.Nd} {k : Nat} (h : NoCl t k 0) (hk : t.length ≤ k) : T.clashes t = false := T.clashes_iff.2 fun i j x y hij hx hy => h i j x y hij (.inl (by have := (List.getElem?_eq_some_iff.1 hy).1; omega)) hx hy
theorem clash_found {t : List T.Nd} {i k : Nat} {x y : T.Nd} (hik : i < k) (hx : t[i]? = some x) (hy : t[k]? = some y) (hc : T.clash x y = true) : T.clashes t = true := by
  cases e : T.clashes t
  · have := T.clashes_iff.1 e i k x y hik hx hy
    rw [hc] at this
    cases this
  · rfl
theorem clash_cases (x y : T.Nd) : (T.clash x y = false ∧ (x.op == 33) = false) ∨ (T.clash x y = false ∧ (x.op == 33) = true ∧ (y.op == 33) = false) ∨ (T.clash x y = false ∧ (x.op == 33) = true ∧ (y.op == 33) = true ∧ (x.imm == y.imm) = false) ∨
    (T.clash x y = false ∧ (x.op == 33) = true ∧ (y.op == 33) = true ∧ (x.imm == y.imm) = true ∧ (x.w != y.w) = false) ∨ (T.clash x y = true ∧ (x.op == 33) = true ∧ (y.op == 33) = true ∧ (x.imm == y.imm) = true ∧ (x.w != y.w) = true) := by
  unfold T.clash
  by_cases h1 : x.op = 33 <;> by_cases h2 : y.op = 33 <;> by_cases h3 : x.imm = y.imm <;> by_cases h4 : x.w = y.w <;> simp [h1, h2, h3, h4]

set_option maxRecDepth 100000 in
set_option maxHeartbeats 8000000 in
theorem rChecked_any (z : Bool) (t : List T.Nd) (n ct : Nat) (At : Option Addr) (W : World) (hT : StAt 5 NdR W At n t) :
    Calls Tryz.prog 64 #[.slice At n ct, .bool z] W fun e w' => e = .returned (.int .i64 (T.valid z t)) ∧ Below W.heap.size W w' := by
  have HT := Lib.hid hT
  have hle := hT.le
  have hlen := hT.len
  clear hT
  by_cases hsz : t.length < 1 ∨ 300 < t.length
  · have hv : T.valid z t = 3 := by unfold T.valid; rw [if_pos hsz]
    rw [hv]
    rw [hlen] at hsz
    clear hv hlen
    by_cases h0 : n < 1
    · have q0 : decide ((n : Int) < 1) = true := by simp; omega
      clear hsz
      go_enter Tryz.func64, Tryz.ntmps64
      go_wp2
      go_ret
      exact ⟨rfl, Below.refl _ _⟩
    · have q0 : decide ((n : Int) < 1) = false := by simp; omega
      have q1 : decide (300 < (n : Int)) = true := by simp; omega
      clear hsz
      go_enter Tryz.func64, Tryz.ntmps64
      go_wp2
      go_ret
      exact ⟨rfl, Below.refl _ _⟩
  · have Hv := Lib.hid (show T.valid z t = if (t.zipIdx.all fun p => T.shaped z p.2 p.1) = false then 1 else if (t.all (T.typed t)) = false then 6 else if T.clashes t = true then 7 else 0 from by unfold T.valid; rw [if_neg hsz])
    rw [hlen] at hsz
    have q0 : decide ((n : Int) < 1) = false := by simp; omega
    have q1 : decide (300 < (n : Int)) = false := by simp; omega
    have hn : n ≤ 300 := by omega
    have Hlen := Lib.hid hlen
    clear hsz hlen
    go_enter Tryz.func64, Tryz.ntmps64
    go_wp2
    try simp only [q0, q1]
    clear q0 q1
    go_loopg [5] (n + 1) (fun g i wr => ∃ (j : Nat), j ≤ n ∧ i = .int .i64 (j : Int) ∧ g + j = n + 1 ∧ Below W.heap.size W wr ∧ Hid (T.shapedTo z t j))
    case atStart => exact ⟨0, Nat.zero_le _, rfl, rfl, Below.refl _ _, fun i x hi => by omega⟩
    case round =>
      obtain ⟨j, hj, rfl, hgk, hbw, HS⟩ := hrel
      have Hgk := Lib.hid hgk; clear hgk
      by_cases hlt : j < n
      · obtain ⟨x, hx⟩ : ∃ x, t[j]? = some x := ⟨_, List.getElem?_eq_getElem (by rw [Hlen.out]; exact hlt)⟩
        have Hx := Lib.hid hx
        have Hc := Lib.hid (rargument_any z t j n ct At wr (HT.out.below monoNd hbw) hlt x hx)
        have Hbw := Lib.hid hbw
        clear hx hbw
        cases hsh : T.shaped z j x
        · rw [hsh] at Hc
          have Hsh := Lib.hid hsh
          clear hsh
          go_wp2_with fail
          refine Hc.out.mono ?_
          rintro e w2 ⟨rfl, hb2⟩
          have Hb2 := Lib.hid (Hbw.out.trans (hb2.mono Hbw.out.size))
          clear hb2
          go_wp2
          go_ret
          exact ⟨ret_int (by rw [Hv.out, T.shaped_bad Hx.out Hsh.out]; rfl), Hb2.out⟩
        · rw [hsh] at Hc
          have Hsh := Lib.hid hsh
          clear hsh
          go_wp2_with fail
          refine Hc.out.mono ?_
          rintro e w2 ⟨rfl, hb2⟩
          have Hb2 := Lib.hid (Hbw.out.trans (hb2.mono Hbw.out.size))
          clear hb2
          go_wp2
          go_roundg (gk - 1)
          case measure => have := Hgk.out; omega
          case rel => have := Hgk.out; exact ⟨j + 1, by omega, by go_num, by omega, Hb2.out, HS.out.next Hx.out Hsh.out⟩
      · obtain rfl : j = n := by omega
        have hall := HS.out.all (by rw [Hlen.out]; exact Nat.le_refl _)
        have Hall := Lib.hid (T.shaped_all.1 hall)
        have Hv2 := Lib.hid (show T.valid z t = if (t.all (T.typed t)) = false then 6 else if T.clashes t = true then 7 else 0 from by rw [Hv.out, hall]; rfl)
        have Hbw := Lib.hid hbw
        clear hall hbw HS
        go_wp2
        go_loopg [6] (j + 1) (fun g i wr => ∃ (p : Nat), p ≤ j ∧ i = .int .i64 (p : Int) ∧ g + p = j + 1 ∧ Below W.heap.size W wr ∧ Hid (T.typedTo t p))
        case atStart => exact ⟨0, Nat.zero_le _, rfl, rfl, Hbw.out, fun i x hi => by omega⟩
        case round =>
          clear Hbw
          obtain ⟨p, hp, rfl, hgk, hbw, HS⟩ := hrel
          have Hgk2 := Lib.hid hgk; clear hgk
          by_cases hlt : p < j
          · obtain ⟨x, b, off, A, c, hx, rfl, hb, h0, h1, h2, h3, h4, hs, i0, i1⟩ := nd_cells HT.out hlt
            have k0 := (hbw.cell (p := ⟨b, off + p * 5, none⟩) hb).trans h0
            have k1 := (hbw.cell (p := ⟨b, off + p * 5 + 1, none⟩) hb).trans h1
            have k2 := (hbw.cell (p := ⟨b, off + p * 5 + 2, none⟩) hb).trans h2
            have k3 := (hbw.cell (p := ⟨b, off + p * 5 + 3, none⟩) hb).trans h3
            have k4 := (hbw.cell (p := ⟨b, off + p * 5 + 4, none⟩) hb).trans h4
            have Hx := Lib.hid hx
            obtain ⟨g1, g2, _, _, _, g3⟩ := T.shaped_args (Hall.out p x hx)
            have Hbw := Lib.hid hbw
            have Hc := Lib.hid (rTyped_any t x j ct (some ⟨b, off, none⟩) A c wr (HT.out.below monoNd Hbw.out) (hs.below (monoInt _) Hbw.out) g1 g2 (fun a ha => by have := g3 a ha; omega))
            unfold ndV at Hc
            clear h0 h1 h2 h3 h4 hs hx hb hbw g1 g2 g3
            cases hsh : T.typed t x
            · rw [hsh] at Hc
              have Hsh := Lib.hid hsh
              clear hsh
              go_wp2_with fail
              refine Hc.out.mono ?_
              rintro e w2 ⟨rfl, hb2⟩
              have Hb2 := Lib.hid (Hbw.out.trans (hb2.mono Hbw.out.size))
              clear hb2 k0 k1 k2 k3 k4
              go_wp2
              go_ret
              exact ⟨ret_int (by rw [Hv2.out, T.typed_bad Hx.out Hsh.out]; rfl), Hb2.out⟩
            · rw [hsh] at Hc
              have Hsh := Lib.hid hsh
              clear hsh
              go_wp2_with fail
              refine Hc.out.mono ?_
              rintro e w2 ⟨rfl, hb2⟩
              have Hb2 := Lib.hid (Hbw.out.trans (hb2.mono Hbw.out.size))
              clear hb2 k0 k1 k2 k3 k4
              go_wp2
              go_roundg (gk - 1)
              case measure => have := Hgk2.out; omega
              case rel => have := Hgk2.out; exact ⟨p + 1, by omega, by go_num, by omega, Hb2.out, HS.out.next Hx.out Hsh.out⟩
          · obtain rfl : p = j := by omega
            have hall := HS.out.all (by rw [Hlen.out]; exact Nat.le_refl _)
            have Hv3 := Lib.hid (show T.valid z t = if T.clashes t = true then 7 else 0 from by rw [Hv2.out, hall]; rfl)
            have Hbw := Lib.hid hbw
            clear hall hbw HS
            go_wp2
            go_loopg [7] (p + 1) (fun g i wr => ∃ (k : Nat), k ≤ p ∧ i = .int .i64 (k : Int) ∧ g + k = p + 1 ∧ Below W.heap.size W wr ∧ Hid (NoCl t k 0))
            case atStart => exact ⟨0, Nat.zero_le _, rfl, rfl, Hbw.out, NoCl.zero t⟩
            case round =>
              clear Hbw
              obtain ⟨k, hk, rfl, hgk, hbw, HN⟩ := hrel
              have Hgk3 := Lib.hid hgk; clear hgk
              obtain ⟨gO, hgO⟩ : ∃ g, g = gk := ⟨_, rfl⟩
              subst hgO
              by_cases hlk : k < p
              · have Hbw := Lib.hid hbw
                clear hbw
                go_wp2
                go_loopg [8] (k + 1) (fun g i wr => ∃ (q : Nat), q ≤ k ∧ i = .int .i64 (q : Int) ∧ g + q = k + 1 ∧ Below W.heap.size W wr ∧ Hid (NoCl t k q))
                case atStart => exact ⟨0, Nat.zero_le _, rfl, rfl, Hbw.out, HN.out⟩
                case round =>
                  clear HN Hbw
                  obtain ⟨q, hq, rfl, hgk, hbw, HN⟩ := hrel
                  have Hgk4 := Lib.hid hgk; clear hgk
                  by_cases hlq : q < k
                  · obtain ⟨y, b, off, A, c, hy, hAt, hb, h0, h1, h2, h3, h4, _, _, _⟩ := nd_cells HT.out hlk
                    obtain ⟨x, b', off', A', c', hx, hAt', _, g0, g1, g2, g3, g4, _, _, _⟩ := nd_cells HT.out (j := q) (by omega)
                    rw [hAt] at hAt'
                    injection hAt' with hAt'
                    injection hAt' with e1 e2
                    subst e1 e2 hAt
                    have k0 := (hbw.cell (p := ⟨b, off + k * 5, none⟩) hb).trans h0
                    have k1 := (hbw.cell (p := ⟨b, off + k * 5 + 1, none⟩) hb).trans h1
                    have k4 := (hbw.cell (p := ⟨b, off + k * 5 + 4, none⟩) hb).trans h4
                    have m0 := (hbw.cell (p := ⟨b, off + q * 5, none⟩) hb).trans g0
                    have m1 := (hbw.cell (p := ⟨b, off + q * 5 + 1, none⟩) hb).trans g1
                    have m4 := (hbw.cell (p := ⟨b, off + q * 5 + 4, none⟩) hb).trans g4
                    have Hx := Lib.hid hx
                    have Hy := Lib.hid hy
                    have Hbw := Lib.hid hbw
                    have Hcs := Lib.hid (clash_cases x y)
                    obtain ⟨xo, xw, xf, xa, xi⟩ := x
                    obtain ⟨yo, yw, yf, ya, yi⟩ := y
                    dsimp only at k0 k1 k4 m0 m1 m4 Hcs
                    have hq2 : q < p := by omega
                    clear hx hy hbw h0 h1 h2 h3 h4 g0 g1 g2 g3 g4 hb
                    rcases Hcs.out with ⟨hr, c1⟩ | ⟨hr, c1, c2⟩ | ⟨hr, c1, c2, c3⟩ | ⟨hr, c1, c2, c3, c4⟩ | ⟨hr, c1, c2, c3, c4⟩
                    · have Hr := Lib.hid hr
                      clear hr Hcs
                      go_wp2
                      go_quiet (fail)
                      go_wp2
                      go_roundg (gk - 1)
                      case measure => have := Hgk4.out; omega
                      case rel => have := Hgk4.out; exact ⟨q + 1, by omega, by go_num, by omega, Hbw.out.dr ⟨_, rfl⟩, HN.out.next Hx.out Hy.out Hr.out⟩
                    · have Hr := Lib.hid hr
                      clear hr Hcs
                      go_wp2
                      go_quiet (fail)
                      go_wp2
                      go_roundg (gk - 1)
                      case measure => have := Hgk4.out; omega
                      case rel => have := Hgk4.out; exact ⟨q + 1, by omega, by go_num, by omega, Hbw.out.dr ⟨_, rfl⟩, HN.out.next Hx.out Hy.out Hr.out⟩
                    · have Hr := Lib.hid hr
                      clear hr Hcs
                      go_wp2
                      go_quiet (fail)
                      go_wp2
                      go_roundg (gk - 1)
                      case measure => have := Hgk4.out; omega
                      case rel => have := Hgk4.out; exact ⟨q + 1, by omega, by go_num, by omega, Hbw.out.dr ⟨_, rfl⟩, HN.out.next Hx.out Hy.out Hr.out⟩
                    · have Hr := Lib.hid hr
                      clear hr Hcs
                      go_wp2
                      go_quiet (fail)
                      go_wp2
                      go_roundg (gk - 1)
                      case measure => have := Hgk4.out; omega
                      case rel => have := Hgk4.out; exact ⟨q + 1, by omega, by go_num, by omega, Hbw.out.dr ⟨_, rfl⟩, HN.out.next Hx.out Hy.out Hr.out⟩
                    · have Hr := Lib.hid hr
                      clear hr Hcs
                      go_wp2
                      go_quiet (fail)
                      go_wp2
                      go_ret
                      exact ⟨ret_int (by rw [Hv3.out, clash_found hlq Hx.out Hy.out Hr.out]; rfl), Hbw.out.dr ⟨_, rfl⟩⟩
                  · obtain rfl : q = k := by omega
                    have Hbw := Lib.hid hbw
                    clear hbw
                    go_wp2
                    go_roundg (gO - 1)
                    case measure => have := Hgk3.out; omega
                    case rel => have := Hgk3.out; exact ⟨q + 1, by omega, by go_num, by omega, Hbw.out, HN.out.row⟩
              · obtain rfl : k = p := by omega
                have Hbw := Lib.hid hbw
                clear hbw
                go_wp2
                go_ret
                exact ⟨ret_int (by rw [Hv3.out, HN.out.all (by rw [Hlen.out]; exact Nat.le_refl _)]; rfl), Hbw.out⟩
end Go.Proofs.YtcmlmjbpdaecbaaGreat
end
section
namespace Go.Proofs.YtcmlmjbpdaecbaaGreat
open Go.RowKit
set_option linter.unusedVariables false
set_option linter.unusedSimpArgs false

theorem rValidate_any (t : List T.Nd) (n ct : Nat) (At : Option Addr) (W : World) (hT : StAt 5 NdR W At n t) :
    Calls Tryz.prog 19 #[.slice At n ct] W fun e w' => e = .returned (.int .i64 (T.valid true t)) ∧ Below W.heap.size W w' := by
  have HC := Lib.hid (rChecked_any true t n ct At W hT)
  clear hT
  obtain ⟨v, hv⟩ : ∃ v, v = T.valid true t := ⟨_, rfl⟩
  rw [← hv] at HC ⊢
  clear hv
  go_enter Tryz.func19, Tryz.ntmps19
  go_wp2_with fail
  refine HC.out.mono ?_
  rintro e w1 ⟨rfl, hb1⟩
  have Hb1 := Lib.hid hb1
  clear hb1
  go_wp2
  go_ret
  exact ⟨rfl, Hb1.out⟩

set_option maxRecDepth 100000 in
set_option maxHeartbeats 2000000 in
theorem rwidths_any (t : List T.Nd) (n ct : Nat) (At : Option Addr) (W : World) (hT : StAt 5 NdR W At n t) (hok : T.okVars t) (hn : n ≤ 1000000) :
    Calls Tryz.prog 112 #[.slice At n ct] W fun e w' => ∃ g, e = .returned (.slice (some ⟨g, 0, none⟩) 4 4) ∧ W.heap.size ≤ g ∧ w'.heap[g]? = some (.cells ((T.widths t).map (Value.int .i64)).toArray 3 (0, 0)) ∧ Below W.heap.size W w' := by
  have HT := Lib.hid hT
  have Hok := Lib.hid hok
  have Hlen := Lib.hid hT.len
  clear hT hok
  have hmk := fun (W' : World) => run_make_n (P := Tryz.prog) 60 3 (.int .i64 0) 8 Tryz.underlying60 infoInt rfl .i64 .i64 4 (4 : Int) rfl (by omega) (by omega) W'
  go_enter Tryz.func112, Tryz.ntmps112
  go_wp2
  clear hmk
  go_loopg [4] (n + 1) (fun g i wr => ∃ (j : Nat), j ≤ n ∧ i = .int .i64 (j : Int) ∧ g + j = n + 1 ∧ Below W.heap.size W wr ∧ Hid (wr.heap[W.heap.size]? = some (.cells ((T.widths (t.take j)).map (Value.int .i64)).toArray 3 (0, 0))))
  case atStart => exact ⟨0, Nat.zero_le _, rfl, rfl, (Below.refl _ _).alloc (Nat.le_refl _) _, by show _ = _; rw [List.take_zero]; exact heap_alloc_new W _⟩
  case round =>
    obtain ⟨j, hj, rfl, hgk, hbw, HW⟩ := hrel
    have Hgk := Lib.hid hgk; clear hgk
    by_cases hlt : j < n
    · obtain ⟨x, b, off, A, c, hx, rfl, hb, h0, h1, h2, h3, h4, hs, i0, i1⟩ := nd_cells HT.out hlt
      have k0 := (hbw.cell (p := ⟨b, off + j * 5, none⟩) hb).trans h0
      have k1 := (hbw.cell (p := ⟨b, off + j * 5 + 1, none⟩) hb).trans h1
      have k4 := (hbw.cell (p := ⟨b, off + j * 5 + 4, none⟩) hb).trans h4
      have Htk := Lib.hid (show t.take (j + 1) = t.take j ++ [x] from K.take_succ_at hx)
      have Hokx := Lib.hid (Hok.out x (List.mem_of_getElem? hx))
      obtain ⟨op, w, fl, args, imm⟩ := x
      dsimp only at k0 k1 k4 Hokx i0 i1
      have Hbw := Lib.hid hbw
      have hne : b ≠ W.heap.size := by omega
      clear h0 h1 h2 h3 h4 hs hx hbw
      by_cases ho : op = 33
      · obtain ⟨m4, w1⟩ := Hokx.out.2 ho
        subst ho
        obtain ⟨v, rfl⟩ : ∃ v : Nat, imm = v := ⟨imm.toNat, by omega⟩
        have hv4 : v < 4 := by omega
        obtain ⟨z, hz⟩ := wd_four (t.take j) hv4
        have hcz : wr.cell? ⟨W.heap.size, v, none⟩ = some (.int .i64 z) := by
          rw [cell_of_row _ _ _ _ _ (0, 0) HW.out, List.getElem?_toArray, List.getElem?_map, hz]; rfl
        have hfz : wr.frozen? ⟨W.heap.size, v, none⟩ = false := by simp [World.frozen?, HW.out]
        have HW2 := Lib.hid (show (wr.setCell ⟨W.heap.size, v, none⟩ (.int .i64 w)).heap[W.heap.size]? = some (.cells ((T.widths (t.take (j + 1))).map (Value.int .i64)).toArray 3 (0, 0)) from by
          rw [heap_setCell_same _ _ _ _ _ _ HW.out, Htk.out, T.widths_snoc, if_pos rfl]
          simp [List.map_set])
        have Hb2 := Lib.hid (Hbw.out.setCell (p := ⟨W.heap.size, v, none⟩) (Nat.le_refl _) (.int .i64 w))
        clear hz
        go_wp2
        go_region
        go_wp2
        go_roundg (gk - 1)
        case measure => have := Hgk.out; omega
        case rel => have := Hgk.out; exact ⟨j + 1, by omega, by go_num, by omega, Hb2.out.drew, HW2.out⟩
      · have q : (op == 33) = false := by simpa using ho
        have HW2 := Lib.hid (show wr.heap[W.heap.size]? = some (.cells ((T.widths (t.take (j + 1))).map (Value.int .i64)).toArray 3 (0, 0)) from by rw [Htk.out, T.widths_snoc, if_neg ho]; exact HW.out)
        clear ho
        go_wp2
        go_roundg (gk - 1)
        case measure => have := Hgk.out; omega
        case rel => have := Hgk.out; exact ⟨j + 1, by omega, by go_num, by omega, Hbw.out, HW2.out⟩
    · obtain rfl : j = n := by omega
      have e : t.take j = t := List.take_of_length_le (by rw [Hlen.out]; exact Nat.le_refl _)
      rw [e] at HW
      go_wp2
      go_ret
      exact ⟨W.heap.size, rfl, Nat.le_refl _, HW.out, hbw⟩

set_option maxRecDepth 100000 in
set_option maxHeartbeats 1000000 in
theorem rWidths_any (t : List T.Nd) (n ct : Nat) (At : Option Addr) (W : World) (hT : StAt 5 NdR W At n t) : Calls Tryz.prog 70 #[.slice At n ct] W (WsR t W) := by
  have HV := Lib.hid (rValidate_any t n ct At W hT)
  have HT := Lib.hid hT
  have hlen := hT.len
  clear hT
  by_cases hv : T.valid true t = 0
  · obtain ⟨v1, v2, v3, v4, v5⟩ := valid_ok hv
    rw [hv] at HV
    have HW := Lib.hid (fun W' (h : Below W.heap.size W W') => rwidths_any t n ct At W' (HT.out.below monoNd h) (T.okVars_of v3 (nd_imm HT.out)) (by omega))
    have Hv := Lib.hid hv
    clear hv v1 v2 v3 v4 v5 hlen
    go_enter Tryz.func70, Tryz.ntmps70
    go_wp2_with fail
    refine HV.out.mono ?_
    rintro e w1 ⟨rfl, hb1⟩
    have Hb1 := Lib.hid hb1
    clear hb1
    go_wp2_with fail
    refine (HW.out _ Hb1.out).mono ?_
    rintro e w2 ⟨g, rfl, hg, hrow, hb2⟩
    have Hb2 := Lib.hid (Hb1.out.trans (hb2.mono Hb1.out.size))
    have Hg := Lib.hid (Nat.le_trans Hb1.out.size hg)
    have Hrow := Lib.hid hrow
    clear hb2 hg hrow
    go_wp2
    go_ret2
    exact ⟨Hb2.out, .inr ⟨Hv.out, g, rfl, Hg.out, Hrow.out⟩⟩
  · have Hv := Lib.hid hv
    obtain ⟨er, her⟩ : ∃ er, er = T.valid true t := ⟨_, rfl⟩
    rw [← her] at HV hv
    have hvb : (er != 0) = true := by simpa using hv
    have Her := Lib.hid her
    clear her hlen
    go_enter Tryz.func70, Tryz.ntmps70
    go_wp2_with fail
    refine HV.out.mono ?_
    rintro e w1 ⟨rfl, hb1⟩
    have Hb1 := Lib.hid hb1
    clear hb1
    go_wp2
    go_ret2
    exact ⟨Hb1.out, .inl ⟨Hv.out, by rw [← Her.out]; rfl⟩⟩
end Go.Proofs.YtcmlmjbpdaecbaaGreat
end
section
namespace Go.Proofs.YtcmlmjbpdaecbaaGreat
open Go.RowKit Go.MapKept Go.Maps Go.WideMaps
set_option linter.unusedVariables false
set_option linter.unusedSimpArgs false

set_option maxRecDepth 100000 in
set_option maxHeartbeats 2000000 in
theorem rShare_any (t : List T.Nd) (n ct : Nat) (At : Option Addr) (W : World) (hT : StAt 5 NdR W At n t) :
    Calls Tryz.prog 69 #[.slice At n ct] W fun e W' => Below W.heap.size W W' ∧ ((T.valid true t ≠ 0 ∧ e = .returned (.tuple #[.slice none 0 0, .int .i64 (T.valid true t)])) ∨
      (T.valid true t = 0 ∧ ∃ fr A' c', T.Rep t [((t.length - 1 : Nat) : Int)] fr ∧ e = .returned (.tuple #[.slice A' (T.canon fr).length c', .int .i64 0]) ∧ StAt 5 NdR W' A' (T.canon fr).length (T.canon fr))) := by
  have Hv := Lib.hid (rValidate_any t n ct At W hT)
  have Hl := Lib.hid hT.len
  have HT := Lib.hid hT
  clear hT
  obtain ⟨v, hv⟩ : ∃ v, T.valid true t = v := ⟨_, rfl⟩
  rw [hv] at Hv
  have HV := Lib.hid hv
  clear hv
  go_enter Tryz.func69, Tryz.ntmps69
  go_wp2_with fail
  (with_reducible refine Hv.out.mono ?_)
  rintro e w2 ⟨rfl, hb⟩
  have Hb := Lib.hid hb
  clear hb
  by_cases h0 : v = 0
  · subst h0
    obtain ⟨l1, l2, l3, l4⟩ := E.valid_ok HV.out
    have hn : t.length = n := Hl.out
    obtain ⟨fr, hfr⟩ := T.Rep.one l4 (k := t.length - 1) (by omega)
    have Hsh := Lib.hid (Shared_any (ct := ct) (HT.out.below monoNd Hb.out) l4 (by omega) (fun x hx => Nat.le_trans (l3 x hx).len (by decide)) (k := t.length - 1) (by omega) fr hfr)
    have Hfr := Lib.hid hfr
    have Hi1 := Lib.hid (show (n : Int) - 1 = ((t.length - 1 : Nat) : Int) from by omega)
    have hn1 : 1 ≤ n := by omega
    have hn3 : n ≤ 300 := by omega
    clear hfr l1 l2 l3 l4 hn
    go_wp2_with fail
    rw [Hi1.out]
    (with_reducible refine Hsh.out.mono ?_)
    rintro e w3 ⟨v3, rfl, hown, hb3⟩
    obtain ⟨A', c', hv3⟩ := hown.form
    subst hv3
    have Hst := Lib.hid (hown.stAt (ndF_rel _) rfl)
    have Hb3 := Lib.hid (Hb.out.trans (hb3.mono Hb.out.size))
    clear hown hb3
    go_wp2
    refine bodyPost_ret (results_tmp2 rfl _ _ _) rfl ?_
    exact ⟨Hb3.out, .inr ⟨HV.out, fr, A', c', Hfr.out, rfl, Hst.out⟩⟩
  · have q : (v != 0) = true := by simpa using h0
    have H0 := Lib.hid h0
    clear h0
    go_wp2
    refine bodyPost_ret (results_tmp2 rfl _ _ _) rfl ?_
    exact ⟨Hb.out, .inl ⟨by rw [HV.out]; exact H0.out, by rw [HV.out]; rfl⟩⟩
end Go.Proofs.YtcmlmjbpdaecbaaGreat
end
