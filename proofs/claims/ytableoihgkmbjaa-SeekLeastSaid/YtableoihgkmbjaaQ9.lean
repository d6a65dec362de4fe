/- The walk through all rows of a length: a step. -/
import Derived.Test.YtableoihgkmbjaaQ8
namespace Go.Proofs.Ytableoihgkmbjaa
open Go.RowKit
set_option linter.unusedVariables false
set_option linter.unusedSimpArgs false

/-- the types of the walk's two variables that it stores into behind yield's last word -/
def RowEx (T : TypeId) : Prop := T = 26 ∨ T = 50
/-- the walk from a row on, m steps more -/
def WalkC (k w n : Nat) (b : Bk) (l B0 : Nat) (J : List (List K.Stp) → World → Prop) (Jx : World → Prop) (xs : List (List K.Stp)) (m : Nat) : Prop :=
  ∀ (pre : List (List K.Stp)) (r : List K.Stp) (A : World), K.okRow k r → r.length + m = n → pre ++ K.below k m r <+: xs → SInv k w n b l B0 r A → J pre A →
    Calls Try.prog 37 b.caps A fun e A' => SInv k w n b l B0 r A' ∧ Frm B0 A A' ∧ ((e = .returned (.bool true) ∧ J (pre ++ K.below k m r) A') ∨ (e = .returned (.bool false) ∧ Jx A'))

/-- what holds in the walk's loops, t steps done -/
structure LInv (k w n : Nat) (b : Bk) (l B0 : Nat) (J : List (List K.Stp) → World → Prop) (pre : List (List K.Stp)) (r : List K.Stp) (m : Nat) (A0 : World) (t : Nat) (X : World) : Prop where
  inv : SInv k w n b l B0 r X
  j : J (pre ++ ((K.steps k r.length).take t).flatMap fun s => K.below k m (r ++ [s])) X
  frm : Frm B0 A0 X

set_option maxRecDepth 100000 in
set_option maxHeartbeats 4000000 in
theorem walkS_any {k w n : Nat} {b : Bk} {l B0 : Nat} {J : List (List K.Stp) → World → Prop} {Jx : World → Prop} {xs : List (List K.Stp)} {m : Nat}
    (hk : k = 1 ∨ k = 2) (hw : w = 1 ∨ w = 2 ∨ w = 3) (hb : BkAt b B0) (hn : n ≤ 3) (hJ : ∀ pre, StayB B0 (J pre)) (hJx : ∀ A A', Jx A → Lst RowEx B0 A A' → Jx A') (ih : WalkC k w n b l B0 J Jx xs m) : WalkC k w n b l B0 J Jx xs (m + 1) := by
  intro pre r A hok hlen hpre hS hj
  have hsz : B0 ≤ A.heap.size := by have := (Array.getElem?_eq_some_iff.1 hS.fix.fn).1; have := hb.G; omega
  obtain ⟨M, hM⟩ : ∃ M, M = k + 2 + r.length := ⟨_, rfl⟩
  have hM6 : M ≤ 6 := by omega
  obtain ⟨A1, hA1⟩ : ∃ A1, A1 = A.alloc (.cells #[.int .i64 1, .int .i64 2, .int .i64 8, .int .i64 9, .int .i64 10, .int .i64 11, .int .i64 12] 3) := ⟨_, rfl⟩
  have hL0 : LInv k w n b l B0 J pre r m A1 0 A1 := ⟨hS.below hb (by rw [hA1]; exact (Below.refl _ _).alloc (Nat.le_refl _) _), by rw [List.take_zero, List.flatMap_nil, List.append_nil]; exact hJ _ _ _ hj (by rw [hA1]; exact (Below.refl _ _).alloc hsz _), Frm.refl _ _⟩
  have hrow1 : A1.heap[A.heap.size]? = some (.cells #[.int .i64 1, .int .i64 2, .int .i64 8, .int .i64 9, .int .i64 10, .int .i64 11, .int .i64 12] 3 (0, 0)) := by rw [hA1]; exact heap_alloc_new A _
  have hfrm1 : Frm B0 A A1 := by rw [hA1]; exact ⟨by simp, fun g cs T z hg hc _ _ _ _ => row_alloc hc _⟩
  obtain ⟨hf, ⟨Ar, cr, h1, h2, h3⟩, ⟨Ac, cc, us, c1, c2, c3, c4⟩⟩ := id hS
  have hcR := one_cell h1
  have hcC := one_cell c1
  have hcL := one_cell hf.le
  have hne : decide ((r.length : Int) = (n : Int)) = false := by simp; omega
  have hne2 : ¬ (r.length : Int) = (n : Int) := by omega
  have HL0 := Lib.hid hL0
  have Hrow1 := Lib.hid hrow1
  have Hfrm1 := Lib.hid hfrm1
  have Hb := Lib.hid hb
  have HJ := Lib.hid hJ
  have HJx := Lib.hid hJx
  have HI := Lib.hid ih
  have Hok := Lib.hid hok
  have Hpre := Lib.hid hpre
  have HA1 := Lib.hid hA1
  have Hlen := Lib.hid hlen
  have HM := Lib.hid hM
  have Hsz := Lib.hid hsz
  have Hk := Lib.hid hk
  have Hw := Lib.hid hw
  rw [← hM] at hcC
  clear hL0 hrow1 hfrm1 hb hJ hJx ih hok hpre hA1 hlen hM hsz hS hf h1 h2 h3 c1 c2 c3 c4 hj hk hw
  simp only [Bk.caps]
  go_enter Try.func37, Try.ntmps37
  go_wp2_with (go_at_call 38; (with_reducible refine (pops_any _).mono ?_); rintro e w1 ⟨rfl, hw1⟩; rw [← HA1.out] at hw1; subst hw1; clear hcR hcC hcL)
  go_loopg [39] (7 + 1) (fun g i wr => ∃ (q : Nat), q ≤ 7 ∧ i = .int .i64 (q : Int) ∧ g + q = 7 + 1 ∧ Hid (LInv k w n b l B0 J pre r m w1 (q * (M * M)) wr))
  case atStart => exact ⟨0, by omega, rfl, rfl, by rw [Nat.zero_mul]; exact HL0.out⟩
  case round =>
    clear HL0
    obtain ⟨q, hq, rfl, hgk, HL⟩ := hrel
    have Hgk := Lib.hid hgk; clear hgk
    obtain ⟨gO, hgO⟩ : ∃ g, g = gk := ⟨_, rfl⟩
    subst hgO
    by_cases hlq : q < 7
    · obtain ⟨o, ho, hcell⟩ := ops_at hlq
      have Ho := Lib.hid ho; clear ho
      have Hcell := Lib.hid (show ∀ X : World, Frm B0 w1 X → X.cell? ⟨A.heap.size, q, none⟩ = some (.int .i64 o) from fun X hX => by
        rw [cell_of_row _ _ _ _ _ (0, 0) (hX.keep _ _ _ _ Hsz.out Hrow1.out (by decide) (by decide) (by decide) (by decide))]; exact hcell)
      clear hcell
      have hc9 := Hcell.out wr HL.out.frm
      have hq7 : decide ((q : Int) < 7) = true := by simp; omega
      go_wp2
      clear hc9
      try simp only [hq7]
      clear hq7
      go_loopg [44] (M + 1) (fun g i wr => ∃ (a : Nat), a ≤ M ∧ i = .int .i64 (a : Int) ∧ g + a = M + 1 ∧ Hid (LInv k w n b l B0 J pre r m w1 (q * (M * M) + a * M) wr))
      case atStart => exact ⟨0, by omega, rfl, rfl, by rw [Nat.zero_mul]; exact HL.out⟩
      case round =>
        clear HL
        obtain ⟨a, ha, rfl, hgk, HL⟩ := hrel
        have Hgk2 := Lib.hid hgk; clear hgk
        obtain ⟨gP, hgP⟩ : ∃ g, g = gk := ⟨_, rfl⟩
        subst hgP
        by_cases hla : a < M
        · go_wp2
          go_loopg [48] (M + 1) (fun g i wr => ∃ (c : Nat), c ≤ M ∧ i = .int .i64 (c : Int) ∧ g + c = M + 1 ∧ Hid (LInv k w n b l B0 J pre r m w1 (q * (M * M) + (a * M + c)) wr))
          case atStart => exact ⟨0, by omega, rfl, rfl, HL.out⟩
          case round =>
            clear HL
            obtain ⟨c, hc, rfl, hgk, HL⟩ := hrel
            have Hgk3 := Lib.hid hgk; clear hgk
            by_cases hlc : c < M
            · obtain ⟨hf, ⟨Ar2, cr2, r1, r2, r3⟩, ⟨Ac2, cc2, us2, d1, d2, d3, d4⟩⟩ := id HL.out.inv
              rw [← HM.out] at d1 d2 d4
              obtain ⟨X0, hX0⟩ : ∃ X0, X0 = wr.alloc (.cells #[.int .i64 o, .int .i64 (a : Int), .int .i64 (c : Int)] 42) := ⟨_, rfl⟩
              obtain ⟨q1, hq1⟩ : ∃ q1, q1 = (Value.slice Ar2 r.length cr2).ownBlock := ⟨_, rfl⟩
              obtain ⟨q2, hq2⟩ : ∃ q2, q2 = (Value.slice Ac2 M cc2).ownBlock := ⟨_, rfl⟩
              have hTw : Two q1 q2 wr := ⟨by rw [hq1]; exact r2.typed, by rw [hq2]; exact d2.typed⟩
              have hK0 : Kp q1 q2 wr X0 := by rw [hX0]; exact Kp.alloc _ _
              have hT0 : Two q1 q2 X0 := ⟨fun g hg => by obtain ⟨cur, h⟩ := hTw.1 g hg; exact ⟨cur, by rw [hX0]; exact row_alloc h _⟩, fun g hg => by obtain ⟨cur, h⟩ := hTw.2 g hg; exact ⟨cur, by rw [hX0]; exact row_alloc h _⟩⟩
              have hx0 : X0.heap[wr.heap.size]? = some (.cells #[.int .i64 o, .int .i64 (a : Int), .int .i64 (c : Int)] 42 (0, 0)) := by rw [hX0]; exact heap_alloc_new wr _
              have hxn : q1 ≠ some wr.heap.size ∧ q2 ≠ some wr.heap.size := by
                refine ⟨fun e => ?_, fun e => ?_⟩
                · obtain ⟨cur, h⟩ := hTw.1 _ e; have := (Array.getElem?_eq_some_iff.1 h).1; omega
                · obtain ⟨cur, h⟩ := hTw.2 _ e; have := (Array.getElem?_eq_some_iff.1 h).1; omega
              have HSall := Lib.hid (show ∀ Y : World, Kp q1 q2 X0 Y → (Y.cell? ⟨b.R, 0, none⟩ = some (.slice Ar2 r.length cr2) ∧ Y.cell? ⟨b.C, 0, none⟩ = some (.slice Ac2 M cc2) ∧ Y.cell? ⟨wr.heap.size, 0, none⟩ = some (.int .i64 o) ∧ Y.cell? ⟨wr.heap.size, 1, none⟩ = some (.int .i64 (a : Int)) ∧ Y.cell? ⟨wr.heap.size, 2, none⟩ = some (.int .i64 (c : Int)) ∧
                  Y.cell? ⟨b.G, 0, none⟩ = some (.func (.func 36) #[] #[]) ∧ Y.cell? ⟨b.S, 0, none⟩ = some (.int .i64 (k : Int)) ∧ Y.cell? ⟨b.S, 1, none⟩ = some (.int .i64 (w : Int))) from fun Y hY => by
                have hKY := hK0.trans hY
                have hx := hY.keep _ _ hx0 hxn.1 hxn.2
                have hs := hKY.ty hTw hf.sp (by decide) (by decide)
                refine ⟨hKY.one hTw r1 (by decide) (by decide), hKY.one hTw d1 (by decide) (by decide), ?_, ?_, ?_, hKY.one hTw hf.fn (by decide) (by decide), ?_, ?_⟩
                · rw [cell_of_row _ _ _ _ _ (0, 0) hx]; rfl
                · rw [cell_of_row _ _ _ _ _ (0, 0) hx]; rfl
                · rw [cell_of_row _ _ _ _ _ (0, 0) hx]; rfl
                · rw [cell_of_row _ _ _ _ _ (0, 0) hs]; rfl
                · rw [cell_of_row _ _ _ _ _ (0, 0) hs]; rfl)
              have HX0 := Lib.hid hX0
              have Hq1 := Lib.hid hq1
              have Hq2 := Lib.hid hq2
              have HTw := Lib.hid hTw
              have HK0 := Lib.hid hK0
              have Hf := Lib.hid hf
              have Hr1 := Lib.hid r1
              have Hr2 := Lib.hid r2
              have Hr3 := Lib.hid r3
              have Hd1 := Lib.hid d1
              have Hd2 := Lib.hid d2
              have Hd3 := Lib.hid d3
              have Hd4 := Lib.hid d4
              clear hX0 hq1 hq2 hTw hK0 hT0 hx0 hxn hf r1 r2 r3 d1 d2 d3 d4
              go_wp2
              rw [← HX0.out]
              refine wp_region_split 12 (by kernel_rfl) (by kernel_rfl) ?_
              simp only [List.take_succ_cons, List.take_zero]
              refine wpAny_of_held (S := fun Y => Y.cell? ⟨b.R, 0, none⟩ = some (.slice Ar2 r.length cr2) ∧ Y.cell? ⟨b.C, 0, none⟩ = some (.slice Ac2 M cc2) ∧ Y.cell? ⟨wr.heap.size, 0, none⟩ = some (.int .i64 o) ∧ Y.cell? ⟨wr.heap.size, 1, none⟩ = some (.int .i64 (a : Int)) ∧ Y.cell? ⟨wr.heap.size, 2, none⟩ = some (.int .i64 (c : Int)) ∧
                  Y.cell? ⟨b.G, 0, none⟩ = some (.func (.func 36) #[] #[]) ∧ Y.cell? ⟨b.S, 0, none⟩ = some (.int .i64 (k : Int)) ∧ Y.cell? ⟨b.S, 1, none⟩ = some (.int .i64 (w : Int))) _ _ _ _ ?_
              have hHeld := HSall.out X0.drew (Kp.drew _)
              refine wpAnyH_take (i := 0) (oi := _) (v := .slice Ar2 r.length cr2) rfl (by kernel_rfl) (by kernel_rfl) (by kernel_rfl) (fun _ _ _ h => h) (Or.inl ⟨by rfl, ?_⟩) hHeld ?_
              · rintro Y ⟨s1, s2, s3, s4, s5, s6, s7, s8⟩
                go_simp
              simp only [Act.put, List.setIfInBounds_toArray, List.set_cons_zero, List.set_cons_succ]
              refine wpAnyH_take (i := 1) (oi := _) (v := .agg #[.int .i64 o, .int .i64 (a : Int), .int .i64 (c : Int)]) rfl (by kernel_rfl) (by kernel_rfl) (by kernel_rfl) (fun _ _ _ h => h) (Or.inl ⟨by rfl, ?_⟩) hHeld ?_
              · rintro Y ⟨s1, s2, s3, s4, s5, s6, s7, s8⟩
                go_simp
              simp only [Act.put, List.setIfInBounds_toArray, List.set_cons_zero, List.set_cons_succ]
              refine wpAnyH_take (i := 4) (oi := _) (v := .slice Ac2 M cc2) rfl (by kernel_rfl) (by kernel_rfl) (by kernel_rfl) (fun _ _ _ h => h) (Or.inl ⟨by rfl, ?_⟩) hHeld ?_
              · rintro Y ⟨s1, s2, s3, s4, s5, s6, s7, s8⟩
                go_simp
              simp only [Act.put, List.setIfInBounds_toArray, List.set_cons_zero, List.set_cons_succ]
              refine wpAnyH_take (i := 5) (oi := _) (v := .func (.func 36) #[] #[]) rfl (by kernel_rfl) (by kernel_rfl) (by kernel_rfl) (fun _ _ _ h => h) (Or.inl ⟨by rfl, ?_⟩) hHeld ?_
              · rintro Y ⟨s1, s2, s3, s4, s5, s6, s7, s8⟩
                go_simp
              simp only [Act.put, List.setIfInBounds_toArray, List.set_cons_zero, List.set_cons_succ]
              refine wpAnyH_take (i := 6) (oi := _) (v := .agg #[.int .i64 (k : Int), .int .i64 (w : Int)]) rfl (by kernel_rfl) (by kernel_rfl) (by kernel_rfl) (fun _ _ _ h => h) (Or.inl ⟨by rfl, ?_⟩) hHeld ?_
              · rintro Y ⟨s1, s2, s3, s4, s5, s6, s7, s8⟩
                go_simp
              simp only [Act.put, List.setIfInBounds_toArray, List.set_cons_zero, List.set_cons_succ]
              refine wpAnyH_take (i := 7) (oi := _) (v := .agg #[.int .i64 o, .int .i64 (a : Int), .int .i64 (c : Int)]) rfl (by kernel_rfl) (by kernel_rfl) (by kernel_rfl) (fun _ _ _ h => h) (Or.inl ⟨by rfl, ?_⟩) hHeld ?_
              · rintro Y ⟨s1, s2, s3, s4, s5, s6, s7, s8⟩
                go_simp
              simp only [Act.put, List.setIfInBounds_toArray, List.set_cons_zero, List.set_cons_succ]
              refine wpAnyH_take (i := 8) (oi := _) (v := .slice Ac2 M cc2) rfl (by kernel_rfl) (by kernel_rfl) (by kernel_rfl) (fun _ _ _ h => h) (Or.inl ⟨by rfl, ?_⟩) hHeld ?_
              · rintro Y ⟨s1, s2, s3, s4, s5, s6, s7, s8⟩
                go_simp
              simp only [Act.put, List.setIfInBounds_toArray, List.set_cons_zero, List.set_cons_succ]
              have hK1 : Kp q1 q2 X0 X0.drew := Kp.drew _
              have HK1 := Lib.hid hK1
              have Hown1 := Lib.hid (show OwnAt X0.drew 42 3 (.slice Ar2 r.length cr2) r.length (flatS r) from by rw [HX0.out]; exact own_drew (Hr2.out.alloc _))
              have Hcol1 := Lib.hid (show OwnAt X0.drew 24 1 (.slice Ac2 M cc2) M us2 from by rw [HX0.out]; exact own_drew (Hd2.out.alloc _))
              have HB1 := Lib.hid (show Below B0 wr X0.drew from by rw [HX0.out]; exact ((Below.refl _ _).alloc (by have := HL.out.frm.size; have := Hfrm1.out.size; have := Hsz.out; omega) _).drew)
              clear hK1
              obtain ⟨X1, hX1⟩ : ∃ X1, X1 = X0.drew := ⟨_, rfl⟩
              rw [← hX1] at hHeld HK1 Hown1 Hcol1 HB1 ⊢
              clear hX1
              -- the built slice
              refine wpAnyH_ready (rs := [2]) (by kernel_rfl) (by simp) ?_
              refine AllReadyH.cons (o := _) rfl (fun KK hKK => ?_) AllReadyH.nil
              obtain ⟨s1, s2, s3, s4, s5, s6, s7, s8⟩ := hHeld
              go_simp
              have HK2 := Lib.hid (HK1.out.trans (Kp.alloc X1 (.cells #[.int .i64 o, .int .i64 (a : Int), .int .i64 (c : Int)] 42)))
              refine hKK.out _ _ (HSall.out _ HK2.out) (fun hHeld => ?_)
              clear hKK KK s1 s2 s3 s4 s5 s6 s7 s8
              try simp only [Act.put, List.setIfInBounds_toArray, List.set_cons_zero, List.set_cons_succ]
              -- the row grows
              refine wpAnyH_ready (rs := [3]) (by kernel_rfl) (by simp) ?_
              refine AllReadyH.cons (o := _) rfl (fun KK hKK => ?_) AllReadyH.nil
              have Hown2 := Lib.hid (Hown1.out.alloc (.cells #[.int .i64 o, .int .i64 (a : Int), .int .i64 (c : Int)] 42))
              have Hcol2 := Lib.hid (Hcol1.out.alloc (.cells #[.int .i64 o, .int .i64 (a : Int), .int .i64 (c : Int)] 42))
              have hnews : ∀ (j : Nat) (u : Value), ([.int .i64 o, .int .i64 (a : Int), .int .i64 (c : Int)] : List Value)[j]? = some u → ∃ ad : Addr, (some ⟨X1.heap.size, 0, none⟩ : Option Addr) = some ad ∧ (X1.alloc (.cells #[.int .i64 o, .int .i64 (a : Int), .int .i64 (c : Int)] 42)).cell? (ad.add j) = some u := fun j u hu => ⟨_, rfl, by rw [addr_add_zero, Nat.zero_add, cell_of_row _ _ _ _ _ (0, 0) (heap_alloc_new X1 _)]; simpa using hu⟩
              have hrl : r.length ≤ 3 := by have := Hlen.out; omega
              refine step_append_src _ rfl (.tmp 55) (.tmp 57) 26 rfl 42 (.agg #[.int .i64 0, .int .i64 0, .int .i64 0]) 3 24 Try.underlying26 infoStep rfl (by decide) (.slice Ar2 r.length cr2) r.length (flatS r) rfl Hown2.out (some ⟨X1.heap.size, 0, none⟩) 1 1 [.int .i64 o, .int .i64 (a : Int), .int .i64 (c : Int)] rfl rfl hnews (by simp [Value.oneCell']) (by omega) (by omega) ?_
              intro v1 X3 hown3 hgr3 hat3
              obtain ⟨A1', c1', hv1⟩ := hown3.form
              subst hv1
              have HK3 := Lib.hid (HK2.out.trans (Kp.grown1 (by rw [Hq1.out]; exact hgr3)))
              have Hcol3 := Lib.hid (Hcol2.out.kept hgr3 (ownAt_ne Hcol2.out Hown2.out (by decide)))
              obtain ⟨hb3, hv3⟩ := below_append HB1.out (by have := HB1.out.size; have := HL.out.frm.size; have := Hfrm1.out.size; have := Hsz.out; omega) Hr3.out hgr3 (by simpa using hat3)
              have HB3 := Lib.hid hb3
              have Hv3 := Lib.hid hv3
              have Hown3 := Lib.hid (show OwnAt X3 42 3 (.slice A1' (r ++ [(o, (a : Int), (c : Int))]).length c1') (r ++ [(o, (a : Int), (c : Int))]).length (flatS (r ++ [(o, (a : Int), (c : Int))])) from by rw [flatS_snoc, List.length_append]; exact hown3)
              clear hb3 hv3 hnews hown3 hgr3 hat3 Hown2 Hcol2 Hown1 Hcol1 HK1 HK2
              refine hKK.out _ _ (HSall.out _ HK3.out) (fun hHeld => ?_)
              clear hKK KK
              simp only [Act.put, List.setIfInBounds_toArray, List.set_cons_zero, List.set_cons_succ, List.getElem_toArray, List.getElem_cons_succ, List.getElem_cons_zero]
              -- the column of the step
              refine wpAnyH_ready (rs := [9]) (by kernel_rfl) (by simp) ?_
              refine AllReadyH.cons (o := _) rfl (fun KK hKK => ?_) AllReadyH.nil
              clear hHeld
              have HCol := Lib.hid (pcolumn_any k w Hk.out Hw.out o a c B0 Ac2 M cc2 us2 (K.cols k w r) X3 Hcol3.out ((HK0.out.trans HK3.out).cols HTw.out Hd3.out) hla hlc (fun x hx => cols_each hx) (fun i j => cols_pos Hk.out Hw.out r i j) (List.mem_of_getElem? Ho.out) (by omega))
              go_simp
              (with_reducible refine (HCol.out).mono ?_)
              rintro e X4 ⟨u, rfl, hu4, hb4⟩
              obtain ⟨q5, N5, hu5⟩ : ∃ q5 N5, u = .slice (some ⟨q5, 0, none⟩) N5 N5 := by obtain ⟨q5, h5, _⟩ := hu4; exact ⟨q5, _, h5⟩
              subst hu5
              clear HCol
              have HK4 := Lib.hid (HK3.out.trans (Kp.below hb4))
              have Hu4 := Lib.hid hu4
              have Hcol4 := Lib.hid (own_step (Lib.hid hb4) Hcol3.out)
              have Hown4 := Lib.hid (own_step (Lib.hid hb4) Hown3.out)
              have HB4 := Lib.hid (HB3.out.trans (hb4.mono (by have := HB3.out.size; have := HL.out.frm.size; have := Hfrm1.out.size; have := Hsz.out; omega)))
              have Hge4 := Lib.hid (show B0 ≤ X4.heap.size ∧ B0 ≤ X3.heap.size from by have := hb4.size; have := HB3.out.size; have := HL.out.frm.size; have := Hfrm1.out.size; have := Hsz.out; omega)
              have HT4 := Lib.hid (show Two none q2 X4 from ⟨fun g hg => (by cases hg), fun g hg => Hcol4.out.typed g (by rw [← Hq2.out]; exact hg)⟩)
              clear hb4 hu4 Hcol3 Hown3 HB3 HK3
              refine hKK.out _ _ (HSall.out _ HK4.out) (fun hHeld => ?_)
              clear hKK KK
              try simp only [Act.put, List.setIfInBounds_toArray, List.set_cons_zero, List.set_cons_succ, List.getElem_toArray, List.getElem_cons_succ, List.getElem_cons_zero]
              -- the built slice of columns
              refine wpAnyH_ready (rs := [10]) (by kernel_rfl) (by simp) ?_
              refine AllReadyH.cons (o := _) rfl (fun KK hKK => ?_) AllReadyH.nil
              clear hHeld
              go_simp
              have HK5 := Lib.hid (HK4.out.trans (Kp.alloc X4 (.cells #[.slice (some ⟨q5, 0, none⟩) N5 N5] 24)))
              refine hKK.out _ _ (HSall.out _ HK5.out) (fun hHeld => ?_)
              clear hKK KK
              try simp only [Act.put, List.setIfInBounds_toArray, List.set_cons_zero, List.set_cons_succ, List.getElem_toArray, List.getElem_cons_succ, List.getElem_cons_zero]
              -- the columns grow
              refine wpAnyH_ready (rs := [11]) (by kernel_rfl) (by simp) ?_
              refine AllReadyH.cons (o := _) rfl (fun KK hKK => ?_) AllReadyH.nil
              clear hHeld
              have Hcol5 := Lib.hid (Hcol4.out.alloc (.cells #[.slice (some ⟨q5, 0, none⟩) N5 N5] 24))
              have Hown5 := Lib.hid (Hown4.out.alloc (.cells #[.slice (some ⟨q5, 0, none⟩) N5 N5] 24))
              have hnews : ∀ (j : Nat) (x : Value), ([.slice (some ⟨q5, 0, none⟩) N5 N5] : List Value)[j]? = some x → ∃ ad : Addr, (some ⟨X4.heap.size, 0, none⟩ : Option Addr) = some ad ∧ (X4.alloc (.cells #[.slice (some ⟨q5, 0, none⟩) N5 N5] 24)).cell? (ad.add j) = some x := fun j x hx => ⟨_, rfl, by rw [addr_add_zero, Nat.zero_add, cell_of_row _ _ _ _ _ (0, 0) (heap_alloc_new X4 _)]; simpa using hx⟩
              refine step_append_src _ rfl (.tmp 59) (.tmp 65) 50 rfl 24 (.slice none 0 0) 1 24 Try.underlying50 infoSlU rfl (by decide) (.slice Ac2 M cc2) M us2 rfl Hcol5.out (some ⟨X4.heap.size, 0, none⟩) 1 1 [.slice (some ⟨q5, 0, none⟩) N5 N5] rfl rfl hnews (by simp [Value.oneCell']) (by omega) (by omega) ?_
              intro v2 X6 hcol6 hgr6 hat6
              obtain ⟨A2', c2', hv2⟩ := hcol6.form
              subst hv2
              have HK6 := Lib.hid (HK5.out.trans (Kp.grown2 (by rw [Hq2.out]; exact hgr6)))
              have Hown6 := Lib.hid (Hown5.out.kept hgr6 (ownAt_ne Hown5.out Hcol5.out (by decide)))
              obtain ⟨hb6, hv6⟩ := below_append HB4.out Hge4.out.1 Hd4.out hgr6 (by simpa using hat6)
              have HB6 := Lib.hid hb6
              have Hv6 := Lib.hid hv6
              have Hcol6 := Lib.hid hcol6
              have HKu := Lib.hid (show Kp none q2 X4 X6 from (Kp.alloc X4 _).trans (Kp.grown2 (by rw [Hq2.out]; exact hgr6)))
              clear hb6 hv6 hnews hcol6 hgr6 hat6 Hown5 Hcol5 Hown4 Hcol4 HK5 HB4
              refine hKK.out _ _ (HSall.out _ HK6.out) (fun hHeld => ?_)
              clear hKK KK
              simp only [Act.put, List.setIfInBounds_toArray, List.set_cons_zero, List.set_cons_succ, List.getElem_toArray, List.getElem_cons_succ, List.getElem_cons_zero]
              clear hHeld HSall
              refine wpAnyH_done (by kernel_rfl) ?_ _
              simp only [Exit.then, List.drop_succ_cons, List.drop_zero]
              have HKa := Lib.hid (HK0.out.trans HK6.out)
              have hR6 := HKa.out.ty HTw.out Hr1.out (by decide) (by decide)
              have hC6 := HKa.out.ty HTw.out Hd1.out (by decide) (by decide)
              have HR6 := Lib.hid hR6
              have HC6 := Lib.hid hC6
              have cR := one_cell hR6
              have cC := one_cell hC6
              have fR := free_of_one hR6
              have fC := free_of_one hC6
              have ne := ty_ne hR6 hC6 (by decide)
              have hat := steps_at (k := k) (p := r.length) (a := a) (b := c) Ho.out (by rw [← HM.out]; exact hla) (by rw [← HM.out]; exact hlc)
              rw [← HM.out] at hat
              have Hat := Lib.hid hat
              have hstep := K.mem_steps (List.mem_of_getElem? hat)
              have Hstep := Lib.hid hstep
              have e1 : (r ++ [(o, (a : Int), (c : Int))]).length = r.length + 1 := by simp
              have e2 : k + 2 + (r.length + 1) = M + 1 := by rw [HM.out]; omega
              have hS6 : SInv k w n b l B0 (r ++ [(o, (a : Int), (c : Int))]) ((X6.setCell ⟨b.R, 0, none⟩ (.slice A1' (r.length + 1) c1')).setCell ⟨b.C, 0, none⟩ (.slice A2' (M + 1) c2')) := by
                have h1 := Hown6.out
                have h2 : OwnAt X6 24 1 (.slice A2' (k + 2 + (r ++ [(o, (a : Int), (c : Int))]).length) c2') (k + 2 + (r ++ [(o, (a : Int), (c : Int))]).length) (us2 ++ [.slice (some ⟨q5, 0, none⟩) N5 N5]) := by rw [e1, e2]; exact Hcol6.out
                have h3 : Elems (ColC B0) X6 (us2 ++ [.slice (some ⟨q5, 0, none⟩) N5 N5]) (K.cols k w (r ++ [(o, (a : Int), (c : Int))])) := by
                  rw [K.cols_snoc Hk.out r Hstep.out]
                  refine (HKa.out.cols HTw.out Hd3.out).snoc ?_
                  obtain ⟨qq, g1, g2, g3⟩ := Hu4.out
                  exact ⟨qq, g1, Nat.le_trans Hge4.out.2 g2, HKu.out.ty HT4.out g3 (by decide) (by decide)⟩
                have h4 := SInv.put (HKa.out.finv HTw.out Hf.out) HR6.out HC6.out h1 (by rw [e1]; exact Hv3.out) h2 h3 (by rw [e1, e2]; exact Hv6.out)
                rw [e1, e2] at h4
                exact h4
              have hJ6 := HJ.out _ _ _ HL.out.j (below_two (x := .slice A1' (r.length + 1) c1') (y := .slice A2' (M + 1) c2') HB6.out Hb.out.R Hb.out.C)
              have HIn := Lib.hid (HI.out _ _ _ (okRow_snoc Hok.out Hstep.out) (by rw [e1]; have := Hlen.out; omega) (done_pre Hat.out Hpre.out) hS6 hJ6)
              have hcV := one_cell hS6.fix.wk
              have HS6 := Lib.hid hS6
              clear hR6 hC6 hat hstep e1 e2 hS6 hJ6
              go_wp2_with (go_at_call 37; (with_reducible refine (HIn.out).mono ?_); rintro e X7 ⟨hS7, hfr7, (⟨rfl, hj7⟩ | ⟨rfl, hj7⟩)⟩)
              all_goals
                have HS7 := Lib.hid hS7
                have Hfr7 := Lib.hid hfr7
                obtain ⟨Ar3, cr3, Ac3, cc3, us3, t1, t2, t3, t4, t5, t6, t7, t8, t9, t10, t11⟩ := hS7.shorter Hk.out Hstep.out
                rw [← HM.out] at t3 t4 t9 t11
                have T1 := Lib.hid t1
                have T3 := Lib.hid t3
                have T7 := Lib.hid t7
                have T8 := Lib.hid t8
                have T9 := Lib.hid t9
                have T10 := Lib.hid t10
                have T11 := Lib.hid t11
                have cR := one_cell t1
                have cC := one_cell t3
                have fR := free_of_one t1
                have fC := free_of_one t3
                have ne := ty_ne t1 t3 (by decide)
                unfold maxLen at t5 t6
                clear t1 t3 t7 t8 t9 t10 t11 hS7 hfr7
                have Hj7 := Lib.hid hj7; clear hj7
                obtain ⟨p, hp⟩ : ∃ p, p = r.length := ⟨_, rfl⟩
                rw [← hp] at cR t2
                have HP := Lib.hid hp; clear hp
                have e5 : IntKind.i64.wrap (((p + 1 : Nat) : Int) - 1) = (p : Int) := by rw [show ((p + 1 : Nat) : Int) - 1 = (p : Int) by omega]; exact IntWalk.i64_in _ (by omega)
                go_region
                have HS8 := Lib.hid (show SInv k w n b l B0 r ((X7.setCell ⟨b.R, 0, none⟩ (.slice Ar3 p cr3)).setCell ⟨b.C, 0, none⟩ (.slice Ac3 M cc3)).drew from by
                  have h := SInv.put HS7.out.fix T1.out T3.out T7.out T8.out (by rw [← HM.out]; exact T9.out) T10.out (by rw [← HM.out]; exact T11.out)
                  rw [← HM.out, ← HP.out] at h
                  exact h.below Hb.out (Below.refl _ _).drew)
                have HB8 := Lib.hid (show Below B0 X7 ((X7.setCell ⟨b.R, 0, none⟩ (.slice Ar3 p cr3)).setCell ⟨b.C, 0, none⟩ (.slice Ac3 M cc3)).drew from (below_two (Below.refl _ _) Hb.out.R Hb.out.C).drew)
                have HLs := Lib.hid (show Lst RowEx B0 X7 ((X7.setCell ⟨b.R, 0, none⟩ (.slice Ar3 p cr3)).setCell ⟨b.C, 0, none⟩ (.slice Ac3 M cc3)).drew from ⟨HB8.out, fun g cs T z hg hx =>
                  ((two_set T1.out T3.out (by decide)).2.2 g (ty_ne hg T1.out fun e => hx (.inl e)) (ty_ne hg T3.out fun e => hx (.inr e))).trans hg⟩)
                have HF8 := Lib.hid (show Frm B0 w1 ((X7.setCell ⟨b.R, 0, none⟩ (.slice Ar3 p cr3)).setCell ⟨b.C, 0, none⟩ (.slice Ac3 M cc3)).drew from
                  ((((HL.out.frm.trans (HKa.out.frm HTw.out)).trans (frm_two HR6.out HC6.out)).trans Hfr7.out).trans (frm_two T1.out T3.out)).trans ⟨Nat.le_refl _, fun g cs T z _ h _ _ _ _ => h⟩)
                clear HS7 Hfr7 T1 T3 T7 T8 T9 T10 T11 cR cC fR fC ne e5 t2 t4 t5 t6
                generalize ((X7.setCell ⟨b.R, 0, none⟩ (.slice Ar3 p cr3)).setCell ⟨b.C, 0, none⟩ (.slice Ac3 M cc3)).drew = X8 at HS8 HB8 HF8 HLs ⊢
              · have HL8 := Lib.hid (show LInv k w n b l B0 J pre r m w1 (q * (M * M) + (a * M + (c + 1))) X8 from ⟨HS8.out, by
                  have h := HJ.out _ _ _ Hj7.out HB8.out
                  rw [show q * (M * M) + (a * M + (c + 1)) = q * (M * M) + (a * M + c) + 1 by omega, done_next Hat.out, ← List.append_assoc]
                  exact h, HF8.out⟩)
                go_wp2
                go_roundg (gk - 1)
                case measure => have := Hgk3.out; omega
                case rel => have := Hgk3.out; exact ⟨c + 1, by omega, by go_num, by omega, HL8.out⟩
              · have HX := Lib.hid (HJx.out _ _ Hj7.out HLs.out)
                go_wp2
                go_ret
                exact ⟨HS8.out, Hfrm1.out.trans HF8.out, .inr ⟨rfl, HX.out⟩⟩
            · obtain rfl : c = M := by omega
              have HL2 := HL.out
              rw [show q * (c * c) + (a * c + c) = q * (c * c) + (a + 1) * c by rw [Nat.succ_mul]] at HL2
              have HL3 := Lib.hid HL2; clear HL2 HL
              go_wp2
              go_roundg (gP - 1)
              case measure => have := Hgk2.out; omega
              case rel => have := Hgk2.out; exact ⟨a + 1, by omega, by go_num, by omega, HL3.out⟩
        · obtain rfl : a = M := by omega
          have HL2 := HL.out
          rw [show q * (a * a) + a * a = (q + 1) * (a * a) by rw [Nat.succ_mul]] at HL2
          have HL3 := Lib.hid HL2; clear HL2 HL
          go_wp2
          go_roundg (gO - 1)
          case measure => have := Hgk.out; omega
          case rel => have := Hgk.out; exact ⟨q + 1, by omega, by go_num, by omega, HL3.out⟩
    · obtain rfl : q = 7 := by omega
      go_wp2
      go_ret
      have hL := HL.out
      have hj := hL.j
      rw [List.take_of_length_le (by rw [steps_length, ← HM.out]; exact Nat.le_refl _)] at hj
      exact ⟨hL.inv, Hfrm1.out.trans hL.frm, .inl ⟨rfl, hj⟩⟩
end Go.Proofs.Ytableoihgkmbjaa
